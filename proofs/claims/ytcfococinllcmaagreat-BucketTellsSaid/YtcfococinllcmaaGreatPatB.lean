/- The pattern's builder in memory: which blocks it owns, what lies there, what a step turns. -/
import Derived.Test.YtcfococinllcmaaGreatPatM
import Derived.Test.YtcfococinllcmaaGreatBox2
import Derived.Deep.AppendLies
namespace Go.Proofs.YtcfococinllcmaaGreat
open Go.RowKit

/-! what may change: blocks of own, and new ones -/
structure Keep (own : Nat → Prop) (w w' : World) : Prop where
  os : w'.os = w.os
  tape : w'.tape = w.tape
  output : w'.output = w.output
  size : w.heap.size ≤ w'.heap.size
  block : ∀ k, k < w.heap.size → ¬ own k → w'.heap[k]? = w.heap[k]?
theorem Keep.refl (own : Nat → Prop) (w : World) : Keep own w w := ⟨rfl, rfl, rfl, Nat.le_refl _, fun _ _ _ => rfl⟩
theorem Keep.of_below {own : Nat → Prop} {w w' : World} (h : Below w.heap.size w w') : Keep own w w' := ⟨h.os, h.tape, h.output, h.size, fun k hk _ => h.block k hk⟩
theorem Keep.trans {own own' : Nat → Prop} {a b c : World} (h : Keep own a b) (h' : Keep own' b c) (hs : ∀ k, own' k → own k ∨ a.heap.size ≤ k) : Keep own a c :=
  ⟨h'.os.trans h.os, h'.tape.trans h.tape, h'.output.trans h.output, Nat.le_trans h.size h'.size, fun k hk hn =>
    (h'.block k (Nat.lt_of_lt_of_le hk h.size) (fun h0 => by rcases hs k h0 with h1 | h1; (· exact hn h1); (· omega))).trans (h.block k hk hn)⟩
theorem Keep.mono {own own' : Nat → Prop} {a b : World} (h : Keep own a b) (hs : ∀ k, own k → own' k) : Keep own' a b := ⟨h.os, h.tape, h.output, h.size, fun k hk hn => h.block k hk (fun h0 => hn (hs k h0))⟩
theorem Keep.below {own : Nat → Prop} {a b : World} {B : Nat} (h : Keep own a b) (hB : B ≤ a.heap.size) (hs : ∀ k, own k → B ≤ k) : Below B a b := ⟨h.os, h.tape, h.output, h.size, fun k hk => h.block k (by omega) (fun h0 => by have := hs k h0; omega)⟩
theorem Keep.setCell {own : Nat → Prop} {a b : World} (h : Keep own a b) {p : Addr} (hp : own p.block) (v : Value) : Keep own a (b.setCell p v) :=
  ⟨h.os, h.tape, h.output, by simpa using h.size, fun k hk hn => (heap_setCell_other b p k v (fun e => hn (e ▸ hp))).trans (h.block k hk hn)⟩
theorem Keep.grown {own : Nat → Prop} {a b c : World} (h : Keep own a b) {row : Option Nat} (hg : b.grownBy c row) (hr : ∀ k, row = some k → own k ∨ a.heap.size ≤ k) : Keep own a c :=
  ⟨hg.os.trans h.os, hg.tape.trans h.tape, hg.output.trans h.output, Nat.le_trans h.size hg.size, fun k hk hn =>
    (hg.block k (Nat.lt_of_lt_of_le hk h.size) (fun e => by rcases hr k e.symm with h1 | h1; (· exact hn h1); (· omega))).trans (h.block k hk hn)⟩
theorem Keep.drew {own : Nat → Prop} {a b : World} (h : Keep own a b) : Keep own a b.drew := ⟨h.os, h.tape, h.output, h.size, h.block⟩
theorem Keep.alloc {own : Nat → Prop} {a b : World} (h : Keep own a b) (o : Obj) : Keep own a (b.alloc o) :=
  ⟨h.os, h.tape, h.output, by rw [World.size_alloc]; have := h.size; omega, fun k hk hn => (Below.heap_alloc b o k (Nat.lt_of_lt_of_le hk h.size)).trans (h.block k hk hn)⟩
/-- a step: what it turns is its own, or new -/
def Stp (own : Nat → Prop) (w : World) (own' : Nat → Prop) (w' : World) : Prop := Keep own w w' ∧ ∀ k, own' k → own k ∨ w.heap.size ≤ k
theorem Stp.refl (own : Nat → Prop) (w : World) : Stp own w own w := ⟨Keep.refl own w, fun _ h => .inl h⟩
theorem Stp.trans {o1 o2 o3 : Nat → Prop} {a b c : World} (h : Stp o1 a o2 b) (h' : Stp o2 b o3 c) : Stp o1 a o3 c :=
  ⟨h.1.trans h'.1 h.2, fun k hk => by
    rcases h'.2 k hk with h0 | h0
    · exact h.2 k h0
    · exact .inr (Nat.le_trans h.1.size h0)⟩
theorem Stp.of_below {own : Nat → Prop} {w w' : World} (h : Below w.heap.size w w') : Stp own w own w' := ⟨Keep.of_below h, fun _ h => .inl h⟩
theorem Stp.setCell {own : Nat → Prop} {w : World} {p : Addr} (hp : own p.block) (v : Value) : Stp own w own (w.setCell p v) := ⟨(Keep.refl own w).setCell hp v, fun _ h => .inl h⟩
/-- a block of the caller's own, behind a step -/
theorem Stp.blk {own own' : Nat → Prop} {w w' : World} (h : Stp own w own' w') {k : Nat} {o : Obj} (hk : w.heap[k]? = some o) (hn : ¬ own k) : w'.heap[k]? = some o :=
  (h.1.block k (Array.getElem?_eq_some_iff.1 hk).1 hn).trans hk
theorem Stp.not {own own' : Nat → Prop} {w w' : World} (h : Stp own w own' w') {k : Nat} (hk : k < w.heap.size) (hn : ¬ own k) : ¬ own' k := fun h0 => by
  rcases h.2 k h0 with h1 | h1
  · exact hn h1
  · omega
/-! a set of bytes in memory: four words -/
def WordsOf (f : Nat → Bool) (ws : List Nat) : Prop := ws.length = 4 ∧ (∀ x ∈ ws, x < 18446744073709551616) ∧ ∀ c, c < 256 → (ws.getD (c / 64) 0).testBit (c % 64) = f c
def SetAt (w : World) (p : Nat) (f : Nat → Bool) : Prop := ∃ ws, WordsOf f ws ∧ w.heap[p]? = some (.cells (ws.map fun (n : Nat) => Value.int .u64 n).toArray 241 (0, 0))
theorem SetAt.blk {w w' : World} {p : Nat} {f : Nat → Bool} (h : SetAt w p f) (he : w'.heap[p]? = w.heap[p]?) : SetAt w' p f := by
  obtain ⟨ws, h1, h2⟩ := h
  exact ⟨ws, h1, he.trans h2⟩
theorem SetAt.lt {w : World} {p : Nat} {f : Nat → Bool} (h : SetAt w p f) : p < w.heap.size := by
  obtain ⟨ws, h1, h2⟩ := h
  exact (Array.getElem?_eq_some_iff.1 h2).1
/-! rows owned, kept -/
theorem ownsRow_blk {w w' : World} {base : Nat} {e : TypeId} {size : Nat} {v : Value} {n : Nat} {xs : List Value} (h : w.ownsRow base e size v n xs) (hk : ∀ k, v.ownBlock = some k → w'.heap[k]? = w.heap[k]?) : w'.ownsRow base e size v n xs := by
  refine ⟨h.1, ?_⟩
  rcases h.2 with hn | ⟨g, cap, cur, rfl, hb, hg, rest⟩
  · exact .inl hn
  · exact .inr ⟨g, cap, cur, rfl, hb, (hk g rfl).trans hg, rest⟩
theorem ownsRow_set {w : World} {base : Nat} {e : TypeId} {size : Nat} {v : Value} {n : Nat} {xs : List Value} (h : w.ownsRow base e size v n xs) {g j : Nat} (hg : v.ownBlock = some g) (u : Value) : (w.setCell ⟨g, j, none⟩ u).ownsRow base e size v n (xs.set j u) := by
  refine ⟨by rw [List.length_set]; exact h.1, ?_⟩
  rcases h.2 with ⟨rfl, _⟩ | ⟨g', cap, cur, rfl, hb, hg', hle, hcap, hsz, htk⟩
  · simp [Value.ownBlock] at hg
  · obtain rfl : g' = g := by simpa [Value.ownBlock] using hg
    refine .inr ⟨g', cap, cur.setIfInBounds j u, rfl, hb, heap_setCell_same w g' j cur e u hg', hle, hcap, by simpa using hsz, ?_⟩
    rw [Array.toList_setIfInBounds, List.take_set, htk]
theorem ownsRow_cell {w : World} {base : Nat} {e : TypeId} {size : Nat} {v : Value} {n : Nat} {xs : List Value} (h : w.ownsRow base e size v n xs) {g j : Nat} {u : Value} (hg : v.ownBlock = some g) (hj : xs[j]? = some u) : w.cell? ⟨g, j, none⟩ = some u ∧ w.frozen? ⟨g, j, none⟩ = false := by
  have h1 := h.cells hg j u hj
  rw [show (⟨g, 0, none⟩ : Addr).add j = ⟨g, 0 + j, none⟩ from by unfold Addr.add; split <;> simp_all] at h1
  rw [Nat.zero_add] at h1
  refine ⟨h1, ?_⟩
  rcases h.2 with ⟨rfl, _⟩ | ⟨g', cap, cur, rfl, hb, hg', _⟩
  · simp [Value.ownBlock] at hg
  · obtain rfl : g' = g := by simpa [Value.ownBlock] using hg
    exact frozen_of_row w g' j cur e hg'
/-! the states -/
def PtrAt (w : World) (own : Nat → Prop) (x : St) (v : Value) : Prop := match x.set with
  | none => v = .pointer none
  | some f => ∃ k, v = .pointer (some ⟨k, 0, none⟩) ∧ SetAt w k f ∧ own k
def freeC (l : List Nat) : List Value := l.map fun (n : Nat) => Value.int .i64 (n : Int)
def FreeAt (w : World) (own : Nat → Prop) (x : St) (v : Value) : Prop := w.ownsRow 0 3 1 v x.free.length (freeC x.free) ∧ ∀ k, v.ownBlock = some k → own k
def stC : List St → List (Value × Value) → List Value
  | x :: l, e :: m => e.1 :: .int .i64 x.next :: e.2 :: stC l m
  | _, _ => []
theorem stC_len : ∀ (l : List St) (m : List (Value × Value)), m.length = l.length → (stC l m).length = l.length * 3
  | [], [], _ => rfl
  | [], _ :: _, h => by cases h
  | _ :: _, [], h => by cases h
  | _ :: l, _ :: m, h => by have := stC_len l m (by simpa using h); simp [stC, this]; omega
theorem stC_app : ∀ (l : List St) (m : List (Value × Value)) (x : St) (e : Value × Value), m.length = l.length → stC (l ++ [x]) (m ++ [e]) = stC l m ++ [e.1, .int .i64 x.next, e.2]
  | [], [], _, _, _ => rfl
  | [], _ :: _, _, _, h => by cases h
  | _ :: _, [], _, _, h => by cases h
  | _ :: l, _ :: m, x, e, h => by simp [stC, stC_app l m x e (by simpa using h)]
theorem stC_at : ∀ (l : List St) (m : List (Value × Value)) (i : Nat) (x : St) (e : Value × Value), l[i]? = some x → m[i]? = some e →
    (stC l m)[i * 3]? = some e.1 ∧ (stC l m)[i * 3 + 1]? = some (.int .i64 x.next) ∧ (stC l m)[i * 3 + 2]? = some e.2
  | [], _, _, _, _, h, _ => by simp at h
  | _ :: _, [], _, _, _, _, h => by simp at h
  | y :: l, d :: m, 0, x, e, h, h' => by simp at h h'; subst h h'; exact ⟨rfl, rfl, rfl⟩
  | y :: l, d :: m, i + 1, x, e, h, h' => by
    have := stC_at l m i x e (by simpa using h) (by simpa using h')
    rw [show (i + 1) * 3 = i * 3 + 3 by omega]
    exact this
theorem stC_set2 : ∀ (l : List St) (m : List (Value × Value)) (i : Nat) (e : Value × Value) (v : Value), m[i]? = some e → (stC l m).set (i * 3 + 2) v = stC l (m.set i (e.1, v))
  | [], m, i, e, v, h => by cases m <;> simp [stC]
  | _ :: _, [], _, _, _, h => by simp at h
  | y :: l, d :: m, 0, e, v, h => by simp at h; subst h; rfl
  | y :: l, d :: m, i + 1, e, v, h => by
    have := stC_set2 l m i e v (by simpa using h)
    rw [show (i + 1) * 3 + 2 = (i * 3 + 2) + 3 by omega]
    simp [stC, this]
theorem stC_addF : ∀ (l : List St) (m : List (Value × Value)) (f t : Nat), stC (addF l f t) m = stC l m
  | [], _, _, _ => rfl
  | x :: l, [], f, t => by cases f <;> rfl
  | x :: l, e :: m, 0, t => rfl
  | x :: l, e :: m, f + 1, t => by simp [addF, stC, stC_addF l m f t]
theorem addF_get : ∀ (l : List St) (f t i : Nat), (addF l f t)[i]? = (l[i]?).map fun x => if i = f then { x with free := x.free ++ [t] } else x
  | [], _, _, _ => by simp [addF]
  | x :: l, 0, t, 0 => by simp [addF]
  | x :: l, 0, t, i + 1 => by simp [addF]
  | x :: l, f + 1, t, 0 => by simp [addF]
  | x :: l, f + 1, t, i + 1 => by simp [addF, addF_get l f t i]
/-- the builder in memory: sv its row of states, es each state's pointer and ways -/
structure BldV (w : World) (g : Nat) (s : ByteArray) (b : Bs) (own : Nat → Prop) (sv : Value) (es : List (Value × Value)) : Prop where
  blk : w.heap[g]? = some (.cells #[.string s, .int .i64 b.pos, .int .i64 b.err, sv] 190 (0, 0))
  og : own g
  lt : ∀ k, own k → k < w.heap.size
  len : es.length = b.sts.length
  row : w.ownsRow 0 231 3 sv b.sts.length (stC b.sts es)
  orow : ∀ k, sv.ownBlock = some k → own k ∧ k ≠ g
  ptr : ∀ (i : Nat) x (e : Value × Value), b.sts[i]? = some x → es[i]? = some e → PtrAt w own x e.1
  free : ∀ (i : Nat) x (e : Value × Value), b.sts[i]? = some x → es[i]? = some e → FreeAt w own x e.2
  far : ∀ (i : Nat) (e : Value × Value) k, es[i]? = some e → e.2.ownBlock = some k → k ≠ g ∧ sv.ownBlock ≠ some k
  pfar : ∀ (i : Nat) (e : Value × Value) k, es[i]? = some e → e.1 = .pointer (some ⟨k, 0, none⟩) → k ≠ g ∧ sv.ownBlock ≠ some k ∧ ∀ (j : Nat) (e' : Value × Value), es[j]? = some e' → e'.2.ownBlock ≠ some k
  apart : ∀ (i j : Nat) (e e' : Value × Value) k, es[i]? = some e → es[j]? = some e' → e.2.ownBlock = some k → e'.2.ownBlock = some k → i = j
def Bld (w : World) (g : Nat) (s : ByteArray) (b : Bs) (own : Nat → Prop) : Prop := ∃ sv es, BldV w g s b own sv es
theorem PtrAt.kept {w w' : World} {own : Nat → Prop} {x : St} {v : Value} (h : PtrAt w own x v) (hk : ∀ k, v = .pointer (some ⟨k, 0, none⟩) → w'.heap[k]? = w.heap[k]?) : PtrAt w' own x v := by
  unfold PtrAt at h ⊢
  split
  · rename_i e; rw [e] at h; exact h
  · rename_i f e
    rw [e] at h
    obtain ⟨k, h1, h2, h3⟩ := h
    exact ⟨k, h1, h2.blk (hk k h1), h3⟩
theorem PtrAt.own {w : World} {own : Nat → Prop} {x : St} {v : Value} (h : PtrAt w own x v) {k : Nat} (hv : v = .pointer (some ⟨k, 0, none⟩)) : own k := by
  unfold PtrAt at h
  split at h
  · rw [hv] at h; cases h
  · obtain ⟨k', h1, _, h3⟩ := h
    rw [hv] at h1
    simp at h1
    exact h1 ▸ h3
theorem PtrAt.mono {w : World} {own own' : Nat → Prop} {x : St} {v : Value} (h : PtrAt w own x v) (ho : ∀ k, own k → own' k) : PtrAt w own' x v := by
  unfold PtrAt at h ⊢
  split
  · rename_i e; rw [e] at h; exact h
  · rename_i f e
    rw [e] at h
    obtain ⟨k, h1, h2, h3⟩ := h
    exact ⟨k, h1, h2, ho k h3⟩
/-- where no block of its own turns, it is as it was -/
theorem BldV.kept {w w' : World} {g : Nat} {s : ByteArray} {b : Bs} {own : Nat → Prop} {sv : Value} {es : List (Value × Value)} (h : BldV w g s b own sv es) (hz : w.heap.size ≤ w'.heap.size) (hk : ∀ k, own k → w'.heap[k]? = w.heap[k]?) : BldV w' g s b own sv es where
  blk := (hk g h.og).trans h.blk
  og := h.og
  lt := fun k hk => Nat.lt_of_lt_of_le (h.lt k hk) hz
  len := h.len
  row := ownsRow_blk h.row (fun k e => hk k (h.orow k e).1)
  orow := h.orow
  ptr := fun i x e hx he => (h.ptr i x e hx he).kept (fun k hv => hk k ((h.ptr i x e hx he).own hv))
  free := fun i x e hx he => ⟨ownsRow_blk (h.free i x e hx he).1 (fun k e' => hk k ((h.free i x e hx he).2 k e')), (h.free i x e hx he).2⟩
  far := h.far
  pfar := h.pfar
  apart := h.apart
theorem Bld.below {w w' : World} {g : Nat} {s : ByteArray} {b : Bs} {own : Nat → Prop} (h : Bld w g s b own) (hb : Below w.heap.size w w') : Bld w' g s b own := by
  obtain ⟨sv, es, h⟩ := h
  exact ⟨sv, es, h.kept hb.size (fun k hk => hb.block k (h.lt k hk))⟩
theorem Bld.lt {w : World} {g : Nat} {s : ByteArray} {b : Bs} {own : Nat → Prop} (h : Bld w g s b own) : ∀ k, own k → k < w.heap.size := by
  obtain ⟨sv, es, h⟩ := h
  exact h.lt
theorem Bld.og {w : World} {g : Nat} {s : ByteArray} {b : Bs} {own : Nat → Prop} (h : Bld w g s b own) : own g := by
  obtain ⟨sv, es, h⟩ := h
  exact h.og
/-- a store into a box of the caller's -/
theorem Bld.box {w : World} {g : Nat} {s : ByteArray} {b : Bs} {own : Nat → Prop} (h : Bld w g s b own) {p : Addr} (hn : ¬ own p.block) (v : Value) : Bld (w.setCell p v) g s b own := by
  obtain ⟨sv, es, h⟩ := h
  exact ⟨sv, es, h.kept (by simp) (fun k hk => heap_setCell_other w p k v (fun e => hn (e ▸ hk)))⟩
/-- the builder's fields -/
theorem BldV.cells {w : World} {g : Nat} {s : ByteArray} {b : Bs} {own : Nat → Prop} {sv : Value} {es : List (Value × Value)} (h : BldV w g s b own sv es) :
    w.cell? ⟨g, 0, none⟩ = some (.string s) ∧ w.cell? ⟨g, 1, none⟩ = some (.int .i64 b.pos) ∧ w.cell? ⟨g, 2, none⟩ = some (.int .i64 b.err) ∧ w.cell? ⟨g, 3, none⟩ = some sv ∧ ∀ j, w.frozen? ⟨g, j, none⟩ = false :=
  ⟨by rw [cell_of_row _ _ _ _ _ _ h.blk]; rfl, by rw [cell_of_row _ _ _ _ _ _ h.blk]; rfl, by rw [cell_of_row _ _ _ _ _ _ h.blk]; rfl, by rw [cell_of_row _ _ _ _ _ _ h.blk]; rfl, fun j => frozen_of_row w g j _ _ h.blk⟩
/-- a turn of its number or of its error -/
theorem BldV.turn {w w' : World} {g : Nat} {s : ByteArray} {b b' : Bs} {own : Nat → Prop} {sv : Value} {es : List (Value × Value)} (h : BldV w g s b own sv es) (hz : w'.heap.size = w.heap.size) (hs : b'.sts = b.sts)
    (hg : w'.heap[g]? = some (.cells #[.string s, .int .i64 b'.pos, .int .i64 b'.err, sv] 190 (0, 0))) (hk : ∀ k, k ≠ g → w'.heap[k]? = w.heap[k]?) : BldV w' g s b' own sv es where
  blk := hg
  og := h.og
  lt := fun k hk => by rw [hz]; exact h.lt k hk
  len := by rw [hs]; exact h.len
  row := by rw [hs]; exact ownsRow_blk h.row (fun k e => hk k (h.orow k e).2)
  orow := h.orow
  ptr := fun i x e hx he => by rw [hs] at hx; exact (h.ptr i x e hx he).kept (fun k hv => hk k (h.pfar i e k he hv).1)
  free := fun i x e hx he => by rw [hs] at hx; exact ⟨ownsRow_blk (h.free i x e hx he).1 (fun k e' => hk k (h.far i e k he e').1), (h.free i x e hx he).2⟩
  far := h.far
  pfar := h.pfar
  apart := h.apart
theorem Bld.step {w : World} {g : Nat} {s : ByteArray} {b : Bs} {own : Nat → Prop} (h : Bld w g s b own) : Bld (w.setCell ⟨g, 1, none⟩ (.int .i64 ((b.pos : Int) + 1))) g s (stepM b) own := by
  obtain ⟨sv, es, h⟩ := h
  refine ⟨sv, es, h.turn (by simp) rfl ?_ (fun k hk => heap_setCell_other _ _ _ _ hk)⟩
  rw [heap_setCell_same w g 1 _ _ _ h.blk]
  rfl
theorem Bld.err {w : World} {g : Nat} {s : ByteArray} {b : Bs} {own : Nat → Prop} (h : Bld w g s b own) (e : Int) : Bld (w.setCell ⟨g, 2, none⟩ (.int .i64 e)) g s { b with err := e } own := by
  obtain ⟨sv, es, h⟩ := h
  refine ⟨sv, es, h.turn (by simp) rfl ?_ (fun k hk => heap_setCell_other _ _ _ _ hk)⟩
  rw [heap_setCell_same w g 2 _ _ _ h.blk]
  rfl
theorem get_snoc {α : Type} {l : List α} {x y : α} {i : Nat} (h : (l ++ [x])[i]? = some y) : l[i]? = some y ∨ (i = l.length ∧ y = x) := by
  rcases Nat.lt_or_ge i l.length with hi | hi
  · rw [List.getElem?_append_left hi] at h; exact .inl h
  · rw [List.getElem?_append_right hi] at h
    rcases Nat.eq_zero_or_pos (i - l.length) with h0 | h0
    · rw [h0] at h; simp at h; exact .inr ⟨by omega, h.symm⟩
    · rw [List.getElem?_eq_none (by simp; omega)] at h; cases h
/-- a state more -/
theorem BldV.node {w w1 : World} {g : Nat} {s : ByteArray} {b : Bs} {own : Nat → Prop} {sv sv' : Value} {es : List (Value × Value)} (h : BldV w g s b own sv es) (hg : w.grownBy w1 sv.ownBlock)
    (hr : w1.ownsRow 0 231 3 sv' (b.sts.length + 1) (stC b.sts es ++ [.pointer none, .int .i64 0, .slice none 0 0])) {k' : Nat} (hk' : sv'.ownBlock = some k') (hl : sv.ownBlock = some k' ∨ w.heap.size ≤ k') (hlt : k' < w1.heap.size) :
    BldV (w1.setCell ⟨g, 3, none⟩ sv') g s (nodeM b) (fun k => own k ∨ k = k') sv' (es ++ [(.pointer none, .slice none 0 0)]) := by
  have hgs : sv.ownBlock ≠ some g := fun e => (h.orow g e).2 rfl
  have hgl := h.lt g h.og
  have hgk : g ≠ k' := by
    rintro rfl
    rcases hl with h1 | h1
    · exact hgs h1
    · omega
  have hold : ∀ k, own k → k ≠ g → sv.ownBlock ≠ some k → (w1.setCell ⟨g, 3, none⟩ sv').heap[k]? = w.heap[k]? := fun k hk h1 h2 =>
    (heap_setCell_other w1 ⟨g, 3, none⟩ k sv' h1).trans (hg.block k (h.lt k hk) (fun e => h2 e.symm))
  have hnk : ∀ k, own k → sv.ownBlock ≠ some k → k ≠ k' := by
    rintro k hk h1 rfl
    rcases hl with h2 | h2
    · exact h1 h2
    · have := h.lt k hk; omega
  have hg1 : w1.heap[g]? = some (.cells #[.string s, .int .i64 b.pos, .int .i64 b.err, sv] 190 (0, 0)) := (hg.block g hgl (fun e => hgs e.symm)).trans h.blk
  refine ⟨?_, .inl h.og, ?_, ?_, ?_, ?_, ?_, ?_, ?_, ?_, ?_⟩
  · rw [heap_setCell_same w1 g 3 _ _ _ hg1]; rfl
  · rintro k (hk | rfl)
    · have := h.lt k hk; have := hg.size; simp; omega
    · simpa using hlt
  · simp [nodeM, h.len]
  · have := ownsRow_blk hr (w' := w1.setCell ⟨g, 3, none⟩ sv') (fun k e => heap_setCell_other w1 ⟨g, 3, none⟩ k sv' (by rw [hk'] at e; exact fun e' => hgk (e'.symm.trans (Option.some.inj e).symm)))
    simp only [nodeM, List.length_append, List.length_cons, List.length_nil]
    rw [stC_app b.sts es _ _ h.len]
    exact this
  · intro k e
    rw [hk'] at e
    obtain rfl := Option.some.inj e
    exact ⟨.inr rfl, fun e => hgk e.symm⟩
  · intro i x e hx he
    rcases get_snoc hx with hx | ⟨hi, rfl⟩
    · rcases get_snoc he with he | ⟨hi', rfl⟩
      · exact ((h.ptr i x e hx he).kept (fun k hv => hold k ((h.ptr i x e hx he).own hv) (h.pfar i e k he hv).1 (h.pfar i e k he hv).2.1)).mono (fun k hk => .inl hk)
      · have := (List.getElem?_eq_some_iff.1 hx).1; have := h.len; omega
    · rcases get_snoc he with he | ⟨hi', rfl⟩
      · have := (List.getElem?_eq_some_iff.1 he).1; have := h.len; omega
      · rfl
  · intro i x e hx he
    rcases get_snoc hx with hx | ⟨hi, rfl⟩
    · rcases get_snoc he with he | ⟨hi', rfl⟩
      · obtain ⟨h1, h2⟩ := h.free i x e hx he
        exact ⟨ownsRow_blk h1 (fun k e' => hold k (h2 k e') (h.far i e k he e').1 (h.far i e k he e').2), fun k hk => .inl (h2 k hk)⟩
      · have := (List.getElem?_eq_some_iff.1 hx).1; have := h.len; omega
    · rcases get_snoc he with he | ⟨hi', rfl⟩
      · have := (List.getElem?_eq_some_iff.1 he).1; have := h.len; omega
      · exact ⟨World.ownsRow_nil _ _ _ _, fun k hk => by simp [Value.ownBlock] at hk⟩
  · intro i e k he hk
    rcases get_snoc he with he | ⟨hi', rfl⟩
    · obtain ⟨h1, h2⟩ := h.far i e k he hk
      refine ⟨h1, fun e' => ?_⟩
      rw [hk'] at e'
      have hx : ∃ x, b.sts[i]? = some x := ⟨_, List.getElem?_eq_getElem (by rw [← h.len]; exact (List.getElem?_eq_some_iff.1 he).1)⟩
      obtain ⟨x, hx⟩ := hx
      exact hnk k ((h.free i x e hx he).2 k hk) h2 (Option.some.inj e').symm
    · simp [Value.ownBlock] at hk
  · intro i e k he hk
    rcases get_snoc he with he | ⟨hi', rfl⟩
    · obtain ⟨h1, h2, h3⟩ := h.pfar i e k he hk
      have hx : ∃ x, b.sts[i]? = some x := ⟨_, List.getElem?_eq_getElem (by rw [← h.len]; exact (List.getElem?_eq_some_iff.1 he).1)⟩
      obtain ⟨x, hx⟩ := hx
      refine ⟨h1, fun e' => ?_, ?_⟩
      · rw [hk'] at e'
        exact hnk k ((h.ptr i x e hx he).own hk) h2 (Option.some.inj e').symm
      · intro j e' he'
        rcases get_snoc he' with he' | ⟨_, rfl⟩
        · exact h3 j e' he'
        · simp [Value.ownBlock]
    · simp at hk
  · intro i j e e' k he he' hk hk''
    rcases get_snoc he with he | ⟨_, rfl⟩
    · rcases get_snoc he' with he' | ⟨_, rfl⟩
      · exact h.apart i j e e' k he he' hk hk''
      · simp [Value.ownBlock] at hk''
    · simp [Value.ownBlock] at hk
theorem get_set {α : Type} {l : List α} {x y : α} {i j : Nat} (h : (l.set i x)[j]? = some y) : (j = i ∧ y = x) ∨ (j ≠ i ∧ l[j]? = some y) := by
  rw [List.getElem?_set] at h
  split at h
  · rename_i e
    split at h
    · exact .inl ⟨e.symm, (Option.some.inj h).symm⟩
    · cases h
  · rename_i e
    exact .inr ⟨fun e' => e e'.symm, h⟩
/-- a way more, from state f -/
theorem BldV.way {w w1 : World} {g : Nat} {s : ByteArray} {b : Bs} {own : Nat → Prop} {sv : Value} {es : List (Value × Value)} (h : BldV w g s b own sv es) {f t : Nat} {x : St} {e : Value × Value} (hx : b.sts[f]? = some x) (he : es[f]? = some e)
    (hg : w.grownBy w1 e.2.ownBlock) {fv : Value} {r k' : Nat} (hr : w1.ownsRow 0 3 1 fv (x.free.length + 1) (freeC x.free ++ [.int .i64 t])) (hk' : fv.ownBlock = some k') (hl : e.2.ownBlock = some k' ∨ w.heap.size ≤ k') (hlt : k' < w1.heap.size) (hsv : sv.ownBlock = some r) :
    BldV (w1.setCell ⟨r, f * 3 + 2, none⟩ fv) g s (freeM b f t) (fun k => own k ∨ k = k') sv (es.set f (e.1, fv)) := by
  obtain ⟨hr1, hr2⟩ := h.orow r hsv
  have hfl := (List.getElem?_eq_some_iff.1 hx).1
  have her : e.2.ownBlock ≠ some r := fun e' => (h.far f e r he e').2 hsv
  have hgr : g ≠ r := fun e => hr2 e.symm
  have hrk : r ≠ k' := by
    rintro rfl
    rcases hl with h1 | h1
    · exact her h1
    · have := h.lt r hr1; omega
  have hold : ∀ k, own k → k ≠ r → e.2.ownBlock ≠ some k → (w1.setCell ⟨r, f * 3 + 2, none⟩ fv).heap[k]? = w.heap[k]? := fun k hk h1 h2 =>
    (heap_setCell_other w1 ⟨r, f * 3 + 2, none⟩ k fv h1).trans (hg.block k (h.lt k hk) (fun e => h2 e.symm))
  have hnk : ∀ k, own k → e.2.ownBlock ≠ some k → k ≠ k' := by
    rintro k hk h1 rfl
    rcases hl with h2 | h2
    · exact h1 h2
    · have := h.lt k hk; omega
  have heg : e.2.ownBlock ≠ some g := fun e' => (h.far f e g he e').1 rfl
  have row1 : w1.ownsRow 0 231 3 sv b.sts.length (stC b.sts es) := ownsRow_blk h.row (fun k e' => hg.block k (h.lt k (h.orow k e').1) (fun e'' => by rw [hsv] at e'; exact her (e''.symm.trans e'.symm)))
  have xget : ∀ i, ∀ d, es[i]? = some d → ∃ y, b.sts[i]? = some y := fun i d hd => ⟨_, List.getElem?_eq_getElem (by rw [← h.len]; exact (List.getElem?_eq_some_iff.1 hd).1)⟩
  refine ⟨?_, .inl h.og, ?_, ?_, ?_, ?_, ?_, ?_, ?_, ?_, ?_⟩
  · exact (hold g h.og hgr heg).trans h.blk
  · rintro k (hk | rfl)
    · have := h.lt k hk; have := hg.size; simp; omega
    · simpa using hlt
  · simp [freeM, addF_len, h.len]
  · simp only [freeM, addF_len, stC_addF]
    rw [← stC_set2 b.sts es f e fv he]
    exact ownsRow_set row1 hsv fv
  · intro k e'
    obtain ⟨h1, h2⟩ := h.orow k e'
    exact ⟨.inl h1, h2⟩
  · intro i y d hy hd
    simp only [freeM, addF_get] at hy
    rcases get_set hd with ⟨rfl, rfl⟩ | ⟨hi, hd⟩
    · rw [hx] at hy
      simp at hy
      subst hy
      have hp := h.ptr i x e hx he
      exact (hp.kept (fun k hv => hold k (hp.own hv) (fun e' => (h.pfar i e k he hv).2.1 (e' ▸ hsv)) ((h.pfar i e k he hv).2.2 i e he))).mono (fun k hk => .inl hk)
    · obtain ⟨y', hy'⟩ := xget i d hd
      rw [hy'] at hy
      simp [hi] at hy
      subst hy
      have hp := h.ptr i y' d hy' hd
      exact (hp.kept (fun k hv => hold k (hp.own hv) (fun e' => (h.pfar i d k hd hv).2.1 (e' ▸ hsv)) ((h.pfar i d k hd hv).2.2 f e he))).mono (fun k hk => .inl hk)
  · intro i y d hy hd
    simp only [freeM, addF_get] at hy
    rcases get_set hd with ⟨rfl, rfl⟩ | ⟨hi, hd⟩
    · rw [hx] at hy
      simp at hy
      subst hy
      refine ⟨?_, fun k hk => .inr (by rw [hk'] at hk; exact (Option.some.inj hk).symm)⟩
      have := ownsRow_blk hr (w' := w1.setCell ⟨r, i * 3 + 2, none⟩ fv) (fun k e' => heap_setCell_other w1 ⟨r, i * 3 + 2, none⟩ k fv (by rw [hk'] at e'; exact fun e'' => hrk (e''.symm.trans (Option.some.inj e').symm)))
      simpa [freeC] using this
    · obtain ⟨y', hy'⟩ := xget i d hd
      rw [hy'] at hy
      simp [hi] at hy
      subst hy
      obtain ⟨h1, h2⟩ := h.free i y' d hy' hd
      exact ⟨ownsRow_blk h1 (fun k e' => hold k (h2 k e') (fun e'' => (h.far i d k hd e').2 (e'' ▸ hsv)) (fun e'' => hi (h.apart i f d e k hd he e' e''))), fun k hk => .inl (h2 k hk)⟩
  · intro i d k hd hk
    rcases get_set hd with ⟨rfl, rfl⟩ | ⟨hi, hd⟩
    · dsimp only at hk
      rw [hk'] at hk
      obtain rfl := Option.some.inj hk
      refine ⟨fun e' => ?_, fun e' => ?_⟩
      · subst e'; exact hnk _ h.og heg rfl
      · rw [hsv] at e'; exact hrk (Option.some.inj e')
    · exact h.far i d k hd hk
  · intro i d k hd hk
    have hnew : ∀ k, own k → (∀ (j : Nat) (e' : Value × Value), es[j]? = some e' → e'.2.ownBlock ≠ some k) → ∀ (j : Nat) (e' : Value × Value), (es.set f (e.1, fv))[j]? = some e' → e'.2.ownBlock ≠ some k := by
      intro k hk h3 j e' he'
      rcases get_set he' with ⟨rfl, rfl⟩ | ⟨hj, he'⟩
      · dsimp only
        rw [hk']
        exact fun e'' => hnk k hk (h3 j e he) (Option.some.inj e'').symm
      · exact h3 j e' he'
    rcases get_set hd with ⟨rfl, rfl⟩ | ⟨hi, hd⟩
    · obtain ⟨h1, h2, h3⟩ := h.pfar i e k he hk
      exact ⟨h1, h2, hnew k ((h.ptr i x e hx he).own hk) h3⟩
    · obtain ⟨y', hy'⟩ := xget i d hd
      obtain ⟨h1, h2, h3⟩ := h.pfar i d k hd hk
      exact ⟨h1, h2, hnew k ((h.ptr i y' d hy' hd).own hk) h3⟩
  · intro i j d d' k hd hd' hk hk''
    rcases get_set hd with ⟨hi, hd1⟩ | ⟨hi, hd1⟩
    · rcases get_set hd' with ⟨hj, hd1'⟩ | ⟨hj, hd1'⟩
      · rw [hi, hj]
      · rw [hd1] at hk
        dsimp only at hk
        rw [hk'] at hk
        obtain rfl := Option.some.inj hk
        obtain ⟨y', hy'⟩ := xget j d' hd1'
        exact absurd rfl (hnk _ ((h.free j y' d' hy' hd1').2 _ hk'') (fun e'' => hj (h.apart j f d' e _ hd1' he hk'' e'')))
    · rcases get_set hd' with ⟨hj, hd1'⟩ | ⟨hj, hd1'⟩
      · rw [hd1'] at hk''
        dsimp only at hk''
        rw [hk'] at hk''
        obtain rfl := Option.some.inj hk''
        obtain ⟨y', hy'⟩ := xget i d hd1
        exact absurd rfl (hnk _ ((h.free i y' d hy' hd1).2 _ hk) (fun e'' => hi (h.apart i f d e _ hd1 he hk e'')))
      · exact h.apart i j d d' k hd1 hd1' hk hk''
end Go.Proofs.YtcfococinllcmaaGreat
