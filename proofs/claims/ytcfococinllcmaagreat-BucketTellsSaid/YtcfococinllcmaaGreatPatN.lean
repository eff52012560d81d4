/- pattern's builder beside boxes of the caller's: what is carried from call to call. -/
import Derived.Test.YtcfococinllcmaaGreatPatL
namespace Go.Proofs.YtcfococinllcmaaGreat
open Go.RowKit

/-- a part's box -/
def PBx (w : World) (k : Nat) (a b : Value) : Prop := w.heap[k]? = some (.cells #[a, b] 192 (0, 0))
/-- the builder, what turned since W0, and boxes that no step turns -/
structure BSo (own0 : Nat → Prop) (W0 : World) (g : Nat) (s : ByteArray) (b : Bs) (bx : List (Nat × Value × Value)) (own : Nat → Prop) (w : World) : Prop where
  bld : Bld w g s b own
  stp : Stp own0 W0 own w
  box : ∀ x ∈ bx, PBx w x.1 x.2.1 x.2.2 ∧ ¬ own x.1
  new : ∀ x ∈ bx, W0.heap.size ≤ x.1
def BS (own0 : Nat → Prop) (W0 : World) (g : Nat) (s : ByteArray) (b : Bs) (bx : List (Nat × Value × Value)) (w : World) : Prop := ∃ own, BSo own0 W0 g s b bx own w
theorem PBx.lt {w : World} {k : Nat} {a b : Value} (h : PBx w k a b) : k < w.heap.size := (Array.getElem?_eq_some_iff.1 h).1
theorem PBx.c0 {w : World} {k : Nat} {a b : Value} (h : PBx w k a b) : w.cell? ⟨k, 0, none⟩ = some a := by rw [cell_of_row _ _ _ _ _ _ h]; rfl
theorem PBx.c1 {w : World} {k : Nat} {a b : Value} (h : PBx w k a b) : w.cell? ⟨k, 1, none⟩ = some b := by rw [cell_of_row _ _ _ _ _ _ h]; rfl
theorem PBx.fz {w : World} {k : Nat} {a b : Value} (h : PBx w k a b) (j : Nat) : w.frozen? ⟨k, j, none⟩ = false := frozen_of_row w k j _ _ h
theorem BSo.call {own0 own own' : Nat → Prop} {W0 w w' : World} {g : Nat} {s : ByteArray} {b b' : Bs} {bx : List (Nat × Value × Value)} (h : BSo own0 W0 g s b bx own w) (hB : Bld w' g s b' own') (hs : Stp own w own' w') : BS own0 W0 g s b' bx w' :=
  ⟨own', hB, h.stp.trans hs, fun x hx => ⟨hs.blk (h.box x hx).1 (h.box x hx).2, hs.not (h.box x hx).1.lt (h.box x hx).2⟩, h.new⟩
theorem BS.below {own0 : Nat → Prop} {W0 w w' : World} {g : Nat} {s : ByteArray} {b : Bs} {bx : List (Nat × Value × Value)} (h : BS own0 W0 g s b bx w) (hb : Below w.heap.size w w') : BS own0 W0 g s b bx w' := by
  obtain ⟨own, h⟩ := h
  exact h.call (h.bld.below hb) (Stp.of_below hb)
theorem BS.step {own0 : Nat → Prop} {W0 w : World} {g : Nat} {s : ByteArray} {b : Bs} {bx : List (Nat × Value × Value)} (h : BS own0 W0 g s b bx w) : BS own0 W0 g s (stepM b) bx (w.setCell ⟨g, 1, none⟩ (.int .i64 ((b.pos : Int) + 1))) := by
  obtain ⟨own, h⟩ := h
  exact h.call h.bld.step (Stp.step h.bld _)
theorem BS.alloc {own0 : Nat → Prop} {W0 w : World} {g : Nat} {s : ByteArray} {b : Bs} {bx : List (Nat × Value × Value)} (h : BS own0 W0 g s b bx w) (x y : Value) : BS own0 W0 g s b ((w.heap.size, x, y) :: bx) (w.alloc (.cells #[x, y] 192)) := by
  obtain ⟨own, h⟩ := h
  have hb := alloc_below w (.cells #[x, y] 192)
  have hs := Stp.of_below (own := own) hb
  refine ⟨own, h.bld.below hb, h.stp.trans hs, ?_, ?_⟩
  · intro z hz
    rcases List.mem_cons.1 hz with rfl | hz
    · exact ⟨heap_alloc_new _ _, fun h0 => by have := h.bld.lt _ h0; dsimp only at this; omega⟩
    · exact ⟨hs.blk (h.box z hz).1 (h.box z hz).2, hs.not (h.box z hz).1.lt (h.box z hz).2⟩
  · intro z hz
    rcases List.mem_cons.1 hz with rfl | hz
    · exact h.stp.1.size
    · exact h.new z hz
theorem BS.start {own : Nat → Prop} {w : World} {g : Nat} {s : ByteArray} {b : Bs} (h : Bld w g s b own) : BS own w g s b [] w := ⟨own, h, Stp.refl _ _, (fun _ h => by cases h), (fun _ h => by cases h)⟩
theorem BS.fields {own0 : Nat → Prop} {W0 w : World} {g : Nat} {s : ByteArray} {b : Bs} {bx : List (Nat × Value × Value)} (h : BS own0 W0 g s b bx w) :
    w.cell? ⟨g, 0, none⟩ = some (.string s) ∧ w.cell? ⟨g, 1, none⟩ = some (.int .i64 b.pos) ∧ w.cell? ⟨g, 2, none⟩ = some (.int .i64 b.err) ∧ w.frozen? ⟨g, 1, none⟩ = false := by
  obtain ⟨own, h⟩ := h
  exact h.bld.fields
theorem BS.cells {own0 : Nat → Prop} {W0 w : World} {g : Nat} {s : ByteArray} {b : Bs} {bx : List (Nat × Value × Value)} (h : BS own0 W0 g s b bx w) {k : Nat} {x y : Value} (hm : (k, x, y) ∈ bx) :
    w.cell? ⟨k, 0, none⟩ = some x ∧ w.cell? ⟨k, 1, none⟩ = some y ∧ w.frozen? ⟨k, 0, none⟩ = false ∧ w.frozen? ⟨k, 1, none⟩ = false ∧ k < w.heap.size := by
  obtain ⟨own, h⟩ := h
  have := (h.box _ hm).1
  exact ⟨this.c0, this.c1, this.fz 0, this.fz 1, this.lt⟩
/-- a box written -/
theorem BS.put {own0 : Nat → Prop} {W0 w : World} {g : Nat} {s : ByteArray} {b : Bs} {bx : List (Nat × Value × Value)} {k j : Nat} {x y : Value} (h : BS own0 W0 g s b ((k, x, y) :: bx) w) (hd : ∀ z ∈ bx, z.1 ≠ k) (v : Value) :
    BS own0 W0 g s b ((k, (if j = 0 then v else x), (if j = 1 then v else y)) :: bx) (w.setCell ⟨k, j, none⟩ v) := by
  obtain ⟨own, h⟩ := h
  obtain ⟨hk, hn⟩ := h.box _ (List.mem_cons_self)
  have hw := h.new _ (List.mem_cons_self)
  dsimp only at hk hn hw
  refine ⟨own, h.bld.box (p := ⟨k, j, none⟩) hn v, ⟨⟨h.stp.1.os, h.stp.1.tape, h.stp.1.output, by simpa using h.stp.1.size, fun i hi hno => (heap_setCell_other w ⟨k, j, none⟩ i v (fun e => by have e' : i = k := e; omega)).trans (h.stp.1.block i hi hno)⟩, h.stp.2⟩, ?_, ?_⟩
  · intro z hz
    rcases List.mem_cons.1 hz with rfl | hz
    · refine ⟨?_, hn⟩
      unfold PBx at hk ⊢
      dsimp only
      rw [heap_setCell_same w k j _ _ v hk]
      match j with
      | 0 => rfl
      | 1 => rfl
      | j + 2 => simp
    · have hz1 := h.box z (List.mem_cons_of_mem _ hz)
      exact ⟨(heap_setCell_other w ⟨k, j, none⟩ z.1 v (fun e => hd z hz e)).trans hz1.1, hz1.2⟩
  · intro z hz
    rcases List.mem_cons.1 hz with rfl | hz
    · exact hw
    · exact h.new z (List.mem_cons_of_mem _ hz)
theorem BS.sub {own0 : Nat → Prop} {W0 w : World} {g : Nat} {s : ByteArray} {b : Bs} {bx by' : List (Nat × Value × Value)} (h : BS own0 W0 g s b bx w) (hs : ∀ x ∈ by', x ∈ bx) : BS own0 W0 g s b by' w := by
  obtain ⟨own, h⟩ := h
  exact ⟨own, h.bld, h.stp, fun x hx => h.box x (hs x hx), fun x hx => h.new x (hs x hx)⟩
theorem BS.dist {own0 : Nat → Prop} {W0 w : World} {g : Nat} {s : ByteArray} {b : Bs} {bx : List (Nat × Value × Value)} (h : BS own0 W0 g s b bx w) : ∀ z ∈ bx, z.1 < w.heap.size := by
  obtain ⟨own, h⟩ := h
  exact fun z hz => (h.box z hz).1.lt
/-- what a builder's part hands back -/
def PartPost (own0 : Nat → Prop) (W0 : World) (g : Nat) (s : ByteArray) (r : Bs × (Nat × Nat)) (e : Ending) (w' : World) : Prop :=
  e = .returned (.agg #[.int .i64 (r.2.1 : Nat), .int .i64 (r.2.2 : Nat)]) ∧ ∃ own', Bld w' g s r.1 own' ∧ Stp own0 W0 own' w'
/-- the end: the result's box is written -/
theorem BS.done {own0 : Nat → Prop} {W0 w : World} {g : Nat} {s : ByteArray} {b : Bs} {bx : List (Nat × Value × Value)} {k p q : Nat} {x y : Value} (h : BS own0 W0 g s b bx w) (hm : (k, x, y) ∈ bx) :
    PartPost own0 W0 g s (b, (p, q)) (.returned (.agg #[.int .i64 (p : Nat), .int .i64 (q : Nat)])) (w.setCells k 0 [.int .i64 (p : Nat), .int .i64 (q : Nat)]) := by
  refine ⟨rfl, ?_⟩
  have h1 : BS own0 W0 g s b [(k, x, y)] w := h.sub (fun z hz => by rw [List.mem_singleton.1 hz]; exact hm)
  have h2 := h1.put (j := 0) (by simp) (.int .i64 (p : Nat))
  have h3 := h2.put (j := 1) (by simp) (.int .i64 (q : Nat))
  obtain ⟨own, h3⟩ := h3
  exact ⟨own, h3.bld, h3.stp⟩
theorem BS.there {own0 : Nat → Prop} {W0 w : World} {g : Nat} {s : ByteArray} {b : Bs} {bx : List (Nat × Value × Value)} {k : Nat} {x y : Value} (h : BS own0 W0 g s b bx w) (hm : (k, x, y) ∈ bx) : w.there k 0 2 := by
  obtain ⟨own, h⟩ := h
  exact part_there (h.box _ hm).1
end Go.Proofs.YtcfococinllcmaaGreat
