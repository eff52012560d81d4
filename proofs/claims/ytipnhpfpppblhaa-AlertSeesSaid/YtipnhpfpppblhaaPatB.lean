/- The pattern's builder in memory: which blocks it owns, what lies there, what a step turns. -/
import Derived.Test.YtipnhpfpppblhaaPatM
import Derived.Test.YtipnhpfpppblhaaBox2
import Derived.Deep.AppendLies
namespace Go.Proofs.Ytipnhpfpppblhaa
open Go.RowKit

/-! what may change: blocks of own, and new ones -/
structure Keep (own : Nat → Prop) (w w' : World) : Prop where
  os : w'.os = w.os
  tape : w'.tape = w.tape
  output : w'.output = w.output
  size : w.heap.size ≤ w'.heap.size
  block : ∀ k, k < w.heap.size → ¬ own k → w'.heap[k]? = w.heap[k]?
theorem Keep.refl (own : Nat → Prop) (w : World) : Keep own w w := ⟨rfl, rfl, rfl, Nat.le_refl _, fun _ _ _ => rfl⟩
theorem Keep.of_below {own : Nat → Prop} {w w' : World} (h : Below w.heap.size w w') : Keep own w w' := ⟨h.os, h.tape, h.output, h.size, fun k hk _ => h.block k hk⟩
theorem Keep.trans {own own' : Nat → Prop} {a b c : World} (h : Keep own a b) (h' : Keep own' b c) (hs : ∀ k, own' k → own k ∨ a.heap.size ≤ k) : Keep own a c :=
  ⟨h'.os.trans h.os, h'.tape.trans h.tape, h'.output.trans h.output, Nat.le_trans h.size h'.size, fun k hk hn =>
    (h'.block k (Nat.lt_of_lt_of_le hk h.size) (fun h0 => by rcases hs k h0 with h1 | h1; (· exact hn h1); (· omega))).trans (h.block k hk hn)⟩
theorem Keep.mono {own own' : Nat → Prop} {a b : World} (h : Keep own a b) (hs : ∀ k, own k → own' k) : Keep own' a b := ⟨h.os, h.tape, h.output, h.size, fun k hk hn => h.block k hk (fun h0 => hn (hs k h0))⟩
theorem Keep.below {own : Nat → Prop} {a b : World} {B : Nat} (h : Keep own a b) (hB : B ≤ a.heap.size) (hs : ∀ k, own k → B ≤ k) : Below B a b := ⟨h.os, h.tape, h.output, h.size, fun k hk => h.block k (by omega) (fun h0 => by have := hs k h0; omega)⟩
theorem Keep.setCell {own : Nat → Prop} {a b : World} (h : Keep own a b) {p : Addr} (hp : own p.block) (v : Value) : Keep own a (b.setCell p v) :=
  ⟨h.os, h.tape, h.output, by simpa using h.size, fun k hk hn => (heap_setCell_other b p k v (fun e => hn (e ▸ hp))).trans (h.block k hk hn)⟩
theorem Keep.grown {own : Nat → Prop} {a b c : World} (h : Keep own a b) {row : Option Nat} (hg : b.grownBy c row) (hr : ∀ k, row = some k → own k ∨ a.heap.size ≤ k) : Keep own a c :=
  ⟨hg.os.trans h.os, hg.tape.trans h.tape, hg.output.trans h.output, Nat.le_trans h.size hg.size, fun k hk hn =>
    (hg.block k (Nat.lt_of_lt_of_le hk h.size) (fun e => by rcases hr k e.symm with h1 | h1; (· exact hn h1); (· omega))).trans (h.block k hk hn)⟩
theorem Keep.drew {own : Nat → Prop} {a b : World} (h : Keep own a b) : Keep own a b.drew := ⟨h.os, h.tape, h.output, h.size, h.block⟩
theorem Keep.alloc {own : Nat → Prop} {a b : World} (h : Keep own a b) (o : Obj) : Keep own a (b.alloc o) :=
  ⟨h.os, h.tape, h.output, by rw [World.size_alloc]; have := h.size; omega, fun k hk hn => (Below.heap_alloc b o k (Nat.lt_of_lt_of_le hk h.size)).trans (h.block k hk hn)⟩
/-- a step: what it turns is its own, or new -/
def Stp (own : Nat → Prop) (w : World) (own' : Nat → Prop) (w' : World) : Prop := Keep own w w' ∧ ∀ k, own' k → own k ∨ w.heap.size ≤ k
theorem Stp.refl (own : Nat → Prop) (w : World) : Stp own w own w := ⟨Keep.refl own w, fun _ h => .inl h⟩
theorem Stp.trans {o1 o2 o3 : Nat → Prop} {a b c : World} (h : Stp o1 a o2 b) (h' : Stp o2 b o3 c) : Stp o1 a o3 c :=
  ⟨h.1.trans h'.1 h.2, fun k hk => by
    rcases h'.2 k hk with h0 | h0
    · exact h.2 k h0
    · exact .inr (Nat.le_trans h.1.size h0)⟩
theorem Stp.of_below {own : Nat → Prop} {w w' : World} (h : Below w.heap.size w w') : Stp own w own w' := ⟨Keep.of_below h, fun _ h => .inl h⟩
theorem Stp.setCell {own : Nat → Prop} {w : World} {p : Addr} (hp : own p.block) (v : Value) : Stp own w own (w.setCell p v) := ⟨(Keep.refl own w).setCell hp v, fun _ h => .inl h⟩
/-- a block of the caller's own, behind a step -/
theorem Stp.blk {own own' : Nat → Prop} {w w' : World} (h : Stp own w own' w') {k : Nat} {o : Obj} (hk : w.heap[k]? = some o) (hn : ¬ own k) : w'.heap[k]? = some o :=
  (h.1.block k (Array.getElem?_eq_some_iff.1 hk).1 hn).trans hk
theorem Stp.not {own own' : Nat → Prop} {w w' : World} (h : Stp own w own' w') {k : Nat} (hk : k < w.heap.size) (hn : ¬ own k) : ¬ own' k := fun h0 => by
  rcases h.2 k h0 with h1 | h1
  · exact hn h1
  · omega
/-! a set of bytes in memory: four words -/
def WordsOf (f : Nat → Bool) (ws : List Nat) : Prop := ws.length = 4 ∧ (∀ x ∈ ws, x < 18446744073709551616) ∧ ∀ c, c < 256 → (ws.getD (c / 64) 0).testBit (c % 64) = f c
/-! rows owned, kept -/
theorem ownsRow_blk {w w' : World} {base : Nat} {e : TypeId} {size : Nat} {v : Value} {n : Nat} {xs : List Value} (h : w.ownsRow base e size v n xs) (hk : ∀ k, v.ownBlock = some k → w'.heap[k]? = w.heap[k]?) : w'.ownsRow base e size v n xs := by
  refine ⟨h.1, ?_⟩
  rcases h.2 with hn | ⟨g, cap, cur, rfl, hb, hg, rest⟩
  · exact .inl hn
  · exact .inr ⟨g, cap, cur, rfl, hb, (hk g rfl).trans hg, rest⟩
theorem ownsRow_set {w : World} {base : Nat} {e : TypeId} {size : Nat} {v : Value} {n : Nat} {xs : List Value} (h : w.ownsRow base e size v n xs) {g j : Nat} (hg : v.ownBlock = some g) (u : Value) : (w.setCell ⟨g, j, none⟩ u).ownsRow base e size v n (xs.set j u) := by
  refine ⟨by rw [List.length_set]; exact h.1, ?_⟩
  rcases h.2 with ⟨rfl, _⟩ | ⟨g', cap, cur, rfl, hb, hg', hle, hcap, hsz, htk⟩
  · simp [Value.ownBlock] at hg
  · obtain rfl : g' = g := by simpa [Value.ownBlock] using hg
    refine .inr ⟨g', cap, cur.setIfInBounds j u, rfl, hb, heap_setCell_same w g' j cur e u hg', hle, hcap, by simpa using hsz, ?_⟩
    rw [Array.toList_setIfInBounds, List.take_set, htk]
theorem ownsRow_cell {w : World} {base : Nat} {e : TypeId} {size : Nat} {v : Value} {n : Nat} {xs : List Value} (h : w.ownsRow base e size v n xs) {g j : Nat} {u : Value} (hg : v.ownBlock = some g) (hj : xs[j]? = some u) : w.cell? ⟨g, j, none⟩ = some u ∧ w.frozen? ⟨g, j, none⟩ = false := by
  have h1 := h.cells hg j u hj
  rw [show (⟨g, 0, none⟩ : Addr).add j = ⟨g, 0 + j, none⟩ from by unfold Addr.add; split <;> simp_all] at h1
  rw [Nat.zero_add] at h1
  refine ⟨h1, ?_⟩
  rcases h.2 with ⟨rfl, _⟩ | ⟨g', cap, cur, rfl, hb, hg', _⟩
  · simp [Value.ownBlock] at hg
  · obtain rfl : g' = g := by simpa [Value.ownBlock] using hg
    exact frozen_of_row w g' j cur e hg'
/-! the states -/
def freeC (l : List Nat) : List Value := l.map fun (n : Nat) => Value.int .i64 (n : Int)
def FreeAt (w : World) (own : Nat → Prop) (x : St) (v : Value) : Prop := w.ownsRow 0 3 1 v x.free.length (freeC x.free) ∧ ∀ k, v.ownBlock = some k → own k
def stC : List St → List (Value × Value) → List Value
  | x :: l, e :: m => e.1 :: .int .i64 x.next :: e.2 :: stC l m
  | _, _ => []
theorem stC_len : ∀ (l : List St) (m : List (Value × Value)), m.length = l.length → (stC l m).length = l.length * 3
  | [], [], _ => rfl
  | [], _ :: _, h => by cases h
  | _ :: _, [], h => by cases h
  | _ :: l, _ :: m, h => by have := stC_len l m (by simpa using h); simp [stC, this]; omega
theorem stC_app : ∀ (l : List St) (m : List (Value × Value)) (x : St) (e : Value × Value), m.length = l.length → stC (l ++ [x]) (m ++ [e]) = stC l m ++ [e.1, .int .i64 x.next, e.2]
  | [], [], _, _, _ => rfl
  | [], _ :: _, _, _, h => by cases h
  | _ :: _, [], _, _, h => by cases h
  | _ :: l, _ :: m, x, e, h => by simp [stC, stC_app l m x e (by simpa using h)]
theorem stC_at : ∀ (l : List St) (m : List (Value × Value)) (i : Nat) (x : St) (e : Value × Value), l[i]? = some x → m[i]? = some e →
    (stC l m)[i * 3]? = some e.1 ∧ (stC l m)[i * 3 + 1]? = some (.int .i64 x.next) ∧ (stC l m)[i * 3 + 2]? = some e.2
  | [], _, _, _, _, h, _ => by simp at h
  | _ :: _, [], _, _, _, _, h => by simp at h
  | y :: l, d :: m, 0, x, e, h, h' => by simp at h h'; subst h h'; exact ⟨rfl, rfl, rfl⟩
  | y :: l, d :: m, i + 1, x, e, h, h' => by
    have := stC_at l m i x e (by simpa using h) (by simpa using h')
    rw [show (i + 1) * 3 = i * 3 + 3 by omega]
    exact this
theorem stC_set2 : ∀ (l : List St) (m : List (Value × Value)) (i : Nat) (e : Value × Value) (v : Value), m[i]? = some e → (stC l m).set (i * 3 + 2) v = stC l (m.set i (e.1, v))
  | [], m, i, e, v, h => by cases m <;> simp [stC]
  | _ :: _, [], _, _, _, h => by simp at h
  | y :: l, d :: m, 0, e, v, h => by simp at h; subst h; rfl
  | y :: l, d :: m, i + 1, e, v, h => by
    have := stC_set2 l m i e v (by simpa using h)
    rw [show (i + 1) * 3 + 2 = (i * 3 + 2) + 3 by omega]
    simp [stC, this]
theorem stC_addF : ∀ (l : List St) (m : List (Value × Value)) (f t : Nat), stC (addF l f t) m = stC l m
  | [], _, _, _ => rfl
  | x :: l, [], f, t => by cases f <;> rfl
  | x :: l, e :: m, 0, t => rfl
  | x :: l, e :: m, f + 1, t => by simp [addF, stC, stC_addF l m f t]
theorem addF_get : ∀ (l : List St) (f t i : Nat), (addF l f t)[i]? = (l[i]?).map fun x => if i = f then { x with free := x.free ++ [t] } else x
  | [], _, _, _ => by simp [addF]
  | x :: l, 0, t, 0 => by simp [addF]
  | x :: l, 0, t, i + 1 => by simp [addF]
  | x :: l, f + 1, t, 0 => by simp [addF]
  | x :: l, f + 1, t, i + 1 => by simp [addF, addF_get l f t i]
theorem get_snoc {α : Type} {l : List α} {x y : α} {i : Nat} (h : (l ++ [x])[i]? = some y) : l[i]? = some y ∨ (i = l.length ∧ y = x) := by
  rcases Nat.lt_or_ge i l.length with hi | hi
  · rw [List.getElem?_append_left hi] at h; exact .inl h
  · rw [List.getElem?_append_right hi] at h
    rcases Nat.eq_zero_or_pos (i - l.length) with h0 | h0
    · rw [h0] at h; simp at h; exact .inr ⟨by omega, h.symm⟩
    · rw [List.getElem?_eq_none (by simp; omega)] at h; cases h
theorem get_set {α : Type} {l : List α} {x y : α} {i j : Nat} (h : (l.set i x)[j]? = some y) : (j = i ∧ y = x) ∨ (j ≠ i ∧ l[j]? = some y) := by
  rw [List.getElem?_set] at h
  split at h
  · rename_i e
    split at h
    · exact .inl ⟨e.symm, (Option.some.inj h).symm⟩
    · cases h
  · rename_i e
    exact .inr ⟨fun e' => e e'.symm, h⟩
end Go.Proofs.Ytipnhpfpppblhaa
