/- digest.Sum.round: a contract. -/
import Derived.Test.YtipnhpfpppblhaaShaKeys
import Derived.Laws.CopyOwn
import Derived.StillTailTactics
import Derived.Deep.DeepCutAuto
namespace Go.Proofs.Ytipnhpfpppblhaa
open Go.RowKit

/-- the first words of the row of 64 at g -/
def WAt (w : World) (g : Nat) (S : List Int) : Prop := S.length ≤ 64 ∧ w.heap[g]? = some (.cells ((S.map V32 ++ List.replicate (64 - S.length) (V32 0)).toArray) 123 (0, 0))
theorem WAt.later {w w' : World} {g : Nat} {S : List Int} (h : WAt w g S) (hb : Below w.heap.size w w') : WAt w' g S :=
  ⟨h.1, by rw [hb.block g (Array.getElem?_eq_some_iff.1 h.2).1]; exact h.2⟩
theorem WAt.lt {w : World} {g : Nat} {S : List Int} (h : WAt w g S) : g < w.heap.size := (Array.getElem?_eq_some_iff.1 h.2).1
theorem cell_row {w : World} {p j : Nat} {cs : Array Value} {t : TypeId} {fr : Nat × Nat} (h : w.heap[p]? = some (.cells cs t fr)) : w.cell? ⟨p, j, none⟩ = cs[j]? := by
  simp [World.cell?, h]
theorem WAt.cell {w : World} {g : Nat} {S : List Int} (h : WAt w g S) (j : Nat) (hj : j < S.length) : w.cell? ⟨g, j, none⟩ = some (V32 S[j]) := by
  rw [cell_row h.2, List.getElem?_toArray, List.getElem?_append_left (by simpa using hj), List.getElem?_map, List.getElem?_eq_getElem hj]; rfl
theorem WAt.free {w : World} {g : Nat} {S : List Int} (h : WAt w g S) (j : Nat) : w.frozen? ⟨g, j, none⟩ = false := by simp [World.frozen?, h.2]
theorem WAt.old {w : World} {g : Nat} {S : List Int} (h : WAt w g S) (hj : S.length < 64) : w.cell? ⟨g, S.length, none⟩ = some (V32 0) := by
  rw [cell_row h.2, List.getElem?_toArray, List.getElem?_append_right (by simp)]
  rw [List.length_map, Nat.sub_self, List.getElem?_replicate, if_pos (by omega)]
theorem WAt.store {w : World} {g : Nat} {S : List Int} (h : WAt w g S) (hj : S.length < 64) (x : Int) : WAt (w.setCell ⟨g, S.length, none⟩ (V32 x)) g (S ++ [x]) := by
  refine ⟨by simp; omega, ?_⟩
  rw [heap_setCell_same w g S.length _ _ _ h.2]
  have e : 64 - S.length = (64 - (S ++ [x]).length) + 1 := by simp; omega
  rw [e, List.replicate_succ]
  congr 2
  simp [List.setIfInBounds_toArray]
theorem below_setCell {B : Nat} (w : World) (g j : Nat) (v : Value) (hB : B ≤ g) : Below B w (w.setCell ⟨g, j, none⟩ v) :=
  ⟨rfl, rfl, rfl, by simp [World.setCell], fun k hk => by have := Below.heap_setCell w ⟨g, j, none⟩ v k (by show k ≠ g; omega); exact this⟩
/-- four bytes as a word -/
def word4 (a b c d : Int) : Int := bits BinOp.or .u32 (bits BinOp.or .u32 (bits BinOp.or .u32 (a * 16777216 % 4294967296) (b * 65536 % 4294967296)) (c * 256 % 4294967296)) d
def wordAt (bs : List Int) (k : Nat) : Int := word4 (bs.getD (4 * k) 0) (bs.getD (4 * k + 1) 0) (bs.getD (4 * k + 2) 0) (bs.getD (4 * k + 3) 0)
def wordsL (bs : List Int) (k : Nat) : List Int := (List.range k).map (wordAt bs)
theorem wordsL_succ (bs : List Int) (k : Nat) : wordsL bs (k + 1) = wordsL bs k ++ [wordAt bs k] := by simp [wordsL, List.range_succ]
theorem wordsL_len (bs : List Int) (k : Nat) : (wordsL bs k).length = k := by simp [wordsL]
/-- bytes at a place -/
def Bytes8 (w : World) (a : Addr) (bs : List Int) : Prop := ∃ b o, a = ⟨b, o, none⟩ ∧ b < w.heap.size ∧ ∀ j (h : j < bs.length), w.cell? ⟨b, o + j, none⟩ = some (.int .u8 bs[j]) ∧ 0 ≤ bs[j] ∧ bs[j] < 256
/-- the next word of the row -/
def nextW (S : List Int) : Int :=
  (((S.getD (S.length - 16) 0 + mixW 7 18 0 3 (S.getD (S.length - 15) 0)) % 4294967296 + S.getD (S.length - 7) 0) % 4294967296 + mixW 17 19 0 10 (S.getD (S.length - 2) 0)) % 4294967296
def schedL (bs : List Int) : Nat → List Int
  | 0 => wordsL bs 16
  | k + 1 => schedL bs k ++ [nextW (schedL bs k)]
theorem schedL_len (bs : List Int) (k : Nat) : (schedL bs k).length = 16 + k := by
  induction k with
  | zero => exact wordsL_len bs 16
  | succ k ih => rw [schedL, List.length_append, ih]; simp; omega
/-- four cells at a place -/
def C4 (p : Nat) (a b c d : Value) (W : World) : Prop := W.cell? ⟨p, 0, none⟩ = some a ∧ W.cell? ⟨p, 1, none⟩ = some b ∧ W.cell? ⟨p, 2, none⟩ = some c ∧ W.cell? ⟨p, 3, none⟩ = some d
theorem C4.later {p : Nat} {a b c d : Value} {W W' : World} (h : C4 p a b c d W) (hb : Below W.heap.size W W') (hp : p < W.heap.size) : C4 p a b c d W' :=
  ⟨keep_cell h.1 hb hp, keep_cell h.2.1 hb hp, keep_cell h.2.2.1 hb hp, keep_cell h.2.2.2 hb hp⟩
theorem C4.beside {p g j : Nat} {a b c d v : Value} {W : World} (h : C4 p a b c d W) (hne : p ≠ g) : C4 p a b c d (W.setCell ⟨g, j, none⟩ v) := by
  obtain ⟨h0, h1, h2, h3⟩ := h
  refine ⟨?_, ?_, ?_, ?_⟩ <;> (rw [World.cell?_setCell_far _ _ _ _ (by show g ≠ p; omega)]; assumption)
/-- the digest at p: its words, what is left, how many bytes -/
def SumAt (w : World) (p : Nat) (V : List Int) (rv : Value) (cnt : Int) : Prop := V.length = 8 ∧ w.heap[p]? = some (.cells (V.map V32 ++ [rv, .int .i64 cnt]).toArray 162 (0, 0))
theorem SumAt.later {w w' : World} {p : Nat} {V : List Int} {rv : Value} {cnt : Int} (h : SumAt w p V rv cnt) (hb : Below w.heap.size w w') : SumAt w' p V rv cnt :=
  ⟨h.1, by rw [hb.block p (Array.getElem?_eq_some_iff.1 h.2).1]; exact h.2⟩
theorem SumAt.lt {w : World} {p : Nat} {V : List Int} {rv : Value} {cnt : Int} (h : SumAt w p V rv cnt) : p < w.heap.size := (Array.getElem?_eq_some_iff.1 h.2).1
theorem SumAt.word {w : World} {p : Nat} {V : List Int} {rv : Value} {cnt : Int} (h : SumAt w p V rv cnt) (j : Nat) (hj : j < 8) : w.cell? ⟨p, j, none⟩ = some (V32 (V.getD j 0)) := by
  have hl := h.1
  rw [cell_row h.2, List.getElem?_toArray, List.getElem?_append_left (by simp; omega), List.getElem?_map, List.getD_eq_getElem?_getD, List.getElem?_eq_getElem (by omega)]; rfl
theorem SumAt.rest {w : World} {p : Nat} {V : List Int} {rv : Value} {cnt : Int} (h : SumAt w p V rv cnt) : w.cell? ⟨p, 8, none⟩ = some rv := by
  have hl := h.1
  rw [cell_row h.2, List.getElem?_toArray, List.getElem?_append_right (by simp; omega)]; simp [hl]
theorem SumAt.count {w : World} {p : Nat} {V : List Int} {rv : Value} {cnt : Int} (h : SumAt w p V rv cnt) : w.cell? ⟨p, 9, none⟩ = some (.int .i64 cnt) := by
  have hl := h.1
  rw [cell_row h.2, List.getElem?_toArray, List.getElem?_append_right (by simp; omega)]; simp [hl]
theorem SumAt.free {w : World} {p : Nat} {V : List Int} {rv : Value} {cnt : Int} (h : SumAt w p V rv cnt) (j : Nat) : w.frozen? ⟨p, j, none⟩ = false := by simp [World.frozen?, h.2]
theorem SumAt.put {w : World} {p : Nat} {V : List Int} {rv : Value} {cnt : Int} (h : SumAt w p V rv cnt) (j : Nat) (hj : j < 8) (x : Int) : SumAt (w.setCell ⟨p, j, none⟩ (V32 x)) p (V.set j x) rv cnt := by
  have hl := h.1
  refine ⟨by simp [hl], ?_⟩
  rw [heap_setCell_same w p j _ _ _ h.2]
  congr 2
  rw [List.setIfInBounds_toArray, List.set_append_left _ _ (by simp; omega), List.map_set]
/-- one round -/
def tL (m : Int) (v4 v5 v6 v7 k x : Int) : Int := IntKind.u32.wrap (IntKind.u32.wrap (IntKind.u32.wrap (IntKind.u32.wrap (v7 + m) + bits BinOp.xor .u32 (bits BinOp.and .u32 v4 v5) (bits BinOp.and .u32 (bits BinOp.xor .u32 (if IntKind.u32.signed = true then -1 else IntKind.u32.max) v4) v6)) + k) + x)
def uL (m : Int) (v0 v1 v2 : Int) : Int := IntKind.u32.wrap (m + bits BinOp.xor .u32 (bits BinOp.xor .u32 (bits BinOp.and .u32 v0 v1) (bits BinOp.and .u32 v0 v2)) (bits BinOp.and .u32 v1 v2))
def roundL : List Int → Int → Int → List Int
  | [v0, v1, v2, v3, v4, v5, v6, v7], k, x =>
    [(tL (mixW 6 11 25 0 v4) v4 v5 v6 v7 k x + uL (mixW 2 13 22 0 v0) v0 v1 v2) % 4294967296, v0, v1, v2, (v3 + tL (mixW 6 11 25 0 v4) v4 v5 v6 v7 k x) % 4294967296, v4, v5, v6]
  | v, _, _ => v
def roundsL (W V : List Int) : Nat → List Int
  | 0 => V
  | k + 1 => roundL (roundsL W V k) (keyL k) (W.getD k 0)
/-- the eight words in work -/
def VAt (w : World) (g : Nat) (v : List Int) : Prop := v.length = 8 ∧ w.heap[g]? = some (.cells (v.map V32).toArray 121 (0, 0))
theorem VAt.later {w w' : World} {g : Nat} {v : List Int} (h : VAt w g v) (hb : Below w.heap.size w w') : VAt w' g v :=
  ⟨h.1, by rw [hb.block g (Array.getElem?_eq_some_iff.1 h.2).1]; exact h.2⟩
theorem VAt.cell {w : World} {g : Nat} {v : List Int} (h : VAt w g v) (j : Nat) (x : Int) (hj : v[j]? = some x) : w.cell? ⟨g, j, none⟩ = some (V32 x) := by
  rw [cell_row h.2, List.getElem?_toArray, List.getElem?_map, hj]; rfl
theorem VAt.free {w : World} {g : Nat} {v : List Int} (h : VAt w g v) (j : Nat) : w.frozen? ⟨g, j, none⟩ = false := by simp [World.frozen?, h.2]
theorem VAt.put {w : World} {g : Nat} {v : List Int} (h : VAt w g v) (j : Nat) (x : Int) : VAt (w.setCell ⟨g, j, none⟩ (V32 x)) g (v.set j x) := by
  refine ⟨by simp [h.1], ?_⟩
  rw [heap_setCell_same w g j _ _ _ h.2, List.setIfInBounds_toArray, List.map_set]
theorem VAt.src {w : World} {g : Nat} {x0 x1 x2 x3 x4 x5 x6 x7 : Int} (h : VAt w g [x0, x1, x2, x3, x4, x5, x6, x7]) : ∀ j v, [V32 x0, V32 x1, V32 x2, V32 x3, V32 x4, V32 x5, V32 x6][j]? = some v → w.cell? ((⟨g, 0, none⟩ : Addr).add j) = some v := by
  intro j v hj
  rw [Addr.add_mid, Nat.zero_add]
  match j, hj with
  | 0, hj => exact (h.cell 0 _ rfl).trans hj
  | 1, hj => exact (h.cell 1 _ rfl).trans hj
  | 2, hj => exact (h.cell 2 _ rfl).trans hj
  | 3, hj => exact (h.cell 3 _ rfl).trans hj
  | 4, hj => exact (h.cell 4 _ rfl).trans hj
  | 5, hj => exact (h.cell 5 _ rfl).trans hj
  | 6, hj => exact (h.cell 6 _ rfl).trans hj
  | j + 7, hj => simp at hj
/-- what lies elsewhere, behind a store -/
theorem heap_else (w : World) (g j k : Nat) (v : Value) (h : k ≠ g) : (w.setCell ⟨g, j, none⟩ v).heap[k]? = w.heap[k]? := Below.heap_setCell w ⟨g, j, none⟩ v k h
theorem WAt.of_heap {w w' : World} {g : Nat} {S : List Int} (h : WAt w g S) (he : w'.heap[g]? = w.heap[g]?) : WAt w' g S := ⟨h.1, he.trans h.2⟩
theorem VAt.of_heap {w w' : World} {g : Nat} {S : List Int} (h : VAt w g S) (he : w'.heap[g]? = w.heap[g]?) : VAt w' g S := ⟨h.1, he.trans h.2⟩
theorem SumAt.of_heap {w w' : World} {p : Nat} {V : List Int} {rv : Value} {cnt : Int} (h : SumAt w p V rv cnt) (he : w'.heap[p]? = w.heap[p]?) : SumAt w' p V rv cnt := ⟨h.1, he.trans h.2⟩
theorem C4.of_heap {p : Nat} {a b c d : Value} {W W' : World} (h : C4 p a b c d W) (he : W'.heap[p]? = W.heap[p]?) : C4 p a b c d W' := by
  have hk : ∀ j, W'.cell? ⟨p, j, none⟩ = W.cell? ⟨p, j, none⟩ := fun j => World.cell?_of_block (a := ⟨p, j, none⟩) he
  exact ⟨(hk 0).trans h.1, (hk 1).trans h.2.1, (hk 2).trans h.2.2.1, (hk 3).trans h.2.2.2⟩
theorem grown_two {w w1 w2 : World} {r : Option Nat} (h1 : w.grownBy w1 r) (h2 : w1.grownBy w2 r) : w.grownBy w2 r :=
  ⟨h2.os.trans h1.os, h2.tape.trans h1.tape, h2.output.trans h1.output, Nat.le_trans h1.size h2.size, fun k hk hr => (h2.block k (Nat.lt_of_lt_of_le hk h1.size) hr).trans (h1.block k hk hr)⟩
theorem grown_setCell (w : World) (p i : Nat) (v : Value) : w.grownBy (w.setCell ⟨p, i, none⟩ v) (some p) := ⟨rfl, rfl, rfl, by simp, fun k _ hne => Below.heap_setCell w ⟨p, i, none⟩ v k (fun e => hne (by rw [e]))⟩
theorem three_boxes {w W : World} {xs ys zs : Array Value} {t u v : TypeId} (hb : Below (((w.alloc (.cells xs t)).alloc (.cells ys u)).alloc (.cells zs v)).heap.size (((w.alloc (.cells xs t)).alloc (.cells ys u)).alloc (.cells zs v)) W) :
    Below w.heap.size w W ∧ W.heap[w.heap.size + 1 + 1]? = some (.cells zs v (0, 0)) ∧ (xs.size = 4 → C4 w.heap.size (xs.getD 0 undef) (xs.getD 1 undef) (xs.getD 2 undef) (xs.getD 3 undef) W) ∧ (ys.size = 4 → C4 (w.heap.size + 1) (ys.getD 0 undef) (ys.getD 1 undef) (ys.getD 2 undef) (ys.getD 3 undef) W) ∧ w.heap.size + 1 + 1 < W.heap.size := by
  have hs : (((w.alloc (.cells xs t)).alloc (.cells ys u)).alloc (.cells zs v)).heap.size = w.heap.size + 1 + 1 + 1 := by rw [World.size_alloc, World.size_alloc, World.size_alloc]
  obtain ⟨h1, h2, h3⟩ := box_cells hb
  obtain ⟨h4, h5, h6, h7⟩ := box_two h3
  refine ⟨h7, ?_, fun hx => ⟨h4 0 _ (by simp [hx]), h4 1 _ (by simp [hx]), h4 2 _ (by simp [hx]), h4 3 _ (by simp [hx])⟩, fun hx => ⟨h5 0 _ (by simp [hx]), h5 1 _ (by simp [hx]), h5 2 _ (by simp [hx]), h5 3 _ (by simp [hx])⟩, by rw [World.size_alloc, World.size_alloc] at h2; exact h2⟩
  rw [hb.block (w.heap.size + 1 + 1) (by omega)]
  have := heap_alloc_new ((w.alloc (.cells xs t)).alloc (.cells ys u)) (.cells zs v)
  rwa [World.size_alloc, World.size_alloc] at this
def addL (V U : List Int) : List Int := (List.range 8).map fun i => (V.getD i 0 + U.getD i 0) % 4294967296
/-- the first k words added -/
def partL (V U : List Int) (k : Nat) : List Int := (List.range 8).map fun i => if i < k then (V.getD i 0 + U.getD i 0) % 4294967296 else V.getD i 0
theorem partL_zero {V U : List Int} (h : V.length = 8) : partL V U 0 = V := by
  match V, h with
  | [a, b, c, d, e, f, g, h], _ => rfl
theorem partL_all (V U : List Int) : partL V U 8 = addL V U := by
  unfold partL addL
  exact List.map_congr_left (fun i hi => by rw [if_pos (List.mem_range.1 hi)])
theorem partL_at (V U : List Int) (k : Nat) (hk : k < 8) : (partL V U k).getD k 0 = V.getD k 0 := by
  unfold partL
  rw [List.getD_eq_getElem?_getD, List.getElem?_map, List.getElem?_range hk]; simp
theorem partL_succ (V U : List Int) (k : Nat) (hk : k < 8) : (partL V U k).set k ((V.getD k 0 + U.getD k 0) % 4294967296) = partL V U (k + 1) := by
  unfold partL
  apply List.ext_getElem?
  intro j
  rw [List.getElem?_set, List.length_map, List.length_range, List.getElem?_map, List.getElem?_map]
  by_cases hj : k = j
  · subst hj
    rw [if_pos rfl, if_pos hk, List.getElem?_range hk]; simp
  · rw [if_neg hj]
    by_cases h8 : j < 8
    · rw [List.getElem?_range h8]
      have e : (j < k) = (j < k + 1) := by rw [eq_iff_iff]; omega
      simp only [Option.map_some, e]
    · rw [List.getElem?_eq_none (by simp; omega)]; simp
/-- the words behind a block -/
def blockL (bs V : List Int) : List Int := addL V (roundsL (schedL bs 48) V 64)
set_option maxHeartbeats 40000000 in
set_option maxRecDepth 100000 in
theorem round_any (bs : List Int) (V : List Int) (p : Nat) (a : Addr) (c : Nat) (w : World) (hb : bs.length = 64) (hB : Bytes8 w a bs) (rv : Value) (cnt : Int) (hS : SumAt w p V rv cnt) :
    Calls Try.prog 101 #[.pointer (some ⟨p, 0, none⟩), .slice (some a) 64 c] w fun e w' => e = .returned (.tuple #[]) ∧ SumAt w' p (blockL bs V) rv cnt ∧ w.grownBy w' (some p) := by
  obtain ⟨b, o, rfl, hlt, hcell⟩ := hB
  have HC := Lib.hid hcell
  have HS := Lib.hid hS
  have hpl := hS.lt
  clear hcell hS
  go_enter Try.func101, Try.ntmps101
  go_wp2
  go_loopw [17] (fun i wr => ∃ k : Nat, k ≤ 16 ∧ i = .int .i64 k ∧ Hid (WAt wr w.heap.size (wordsL bs k)) ∧ Below w.heap.size w wr) (fun i _ => 16 - (intOf i).toNat)
  case atStart => exact ⟨0, Nat.zero_le _, rfl, Lib.hid ⟨by simp [wordsL], heap_alloc_new _ _⟩, (Below.refl _ _).alloc (Nat.le_refl _) _⟩
  case round =>
    obtain ⟨k, hk, rfl, HW, hbr⟩ := hrel
    by_cases hkl : k < 16
    · have hB4 : ∀ i, i < 4 → ∃ x : Int, bs.getD (4 * k + i) 0 = x ∧ wr.cell? ⟨b, o + (4 * k + i), none⟩ = some (.int .u8 x) ∧ 0 ≤ x ∧ x < 256 := fun i hi => by
        obtain ⟨h1, h2, h3⟩ := HC.out (4 * k + i) (by omega)
        refine ⟨_, ?_, keep_cell h1 hbr hlt, h2, h3⟩
        rw [List.getD_eq_getElem?_getD, List.getElem?_eq_getElem (by omega)]; rfl
      obtain ⟨x0, e0, c0, l0, u0⟩ := hB4 0 (by decide)
      obtain ⟨x1, e1, c1, l1, u1⟩ := hB4 1 (by decide)
      obtain ⟨x2, e2, c2, l2, u2⟩ := hB4 2 (by decide)
      obtain ⟨x3, e3, c3, l3, u3⟩ := hB4 3 (by decide)
      rw [Nat.add_zero] at e0 c0
      have HN : Hid (wordsL bs (k + 1) = wordsL bs k ++ [word4 x0 x1 x2 x3]) := by
        show _ = _; rw [wordsL_succ]; unfold wordAt; rw [e0, e1, e2, e3]
      have hwl := wordsL_len bs k
      obtain ⟨q, hq⟩ : ∃ q, 4 * k = q := ⟨_, rfl⟩
      obtain ⟨q1, hq1⟩ : ∃ q, 4 * k + 1 = q := ⟨_, rfl⟩
      obtain ⟨q2, hq2⟩ : ∃ q, 4 * k + 2 = q := ⟨_, rfl⟩
      obtain ⟨q3, hq3⟩ : ∃ q, 4 * k + 3 = q := ⟨_, rfl⟩
      rw [hq] at c0
      rw [hq1] at c1
      rw [hq2] at c2
      rw [hq3] at c3
      have hw0 : IntKind.i64.wrap (4 * (k : Int)) = (q : Int) := by rw [IntKind.wrap_i64]; omega
      have hw1 : IntKind.i64.wrap ((q : Int) + 1) = (q1 : Int) := by rw [IntKind.wrap_i64]; omega
      have hw2 : IntKind.i64.wrap ((q : Int) + 2) = (q2 : Int) := by rw [IntKind.wrap_i64]; omega
      have hw3 : IntKind.i64.wrap ((q : Int) + 3) = (q3 : Int) := by rw [IntKind.wrap_i64]; omega
      have hI0 : (q : Int) < 64 := by omega
      have hI1 : (q1 : Int) < 64 := by omega
      have hI2 : (q2 : Int) < 64 := by omega
      have hI3 : (q3 : Int) < 64 := by omega
      have hI4 : (k : Int) < 64 := by omega
      have v0 : IntKind.u32.wrap x0 = x0 := by rw [IntKind.wrap_u32']; omega
      have v1 : IntKind.u32.wrap x1 = x1 := by rw [IntKind.wrap_u32']; omega
      have v2 : IntKind.u32.wrap x2 = x2 := by rw [IntKind.wrap_u32']; omega
      have v3 : IntKind.u32.wrap x3 = x3 := by rw [IntKind.wrap_u32']; omega
      have y0 : IntKind.u32.wrap (x0 * 16777216) = x0 * 16777216 % 4294967296 := by rw [IntKind.wrap_u32']
      have y1 : IntKind.u32.wrap (x1 * 65536) = x1 * 65536 % 4294967296 := by rw [IntKind.wrap_u32']
      have y2 : IntKind.u32.wrap (x2 * 256) = x2 * 256 % 4294967296 := by rw [IntKind.wrap_u32']
      clear hB4 e0 e1 e2 e3 hq hq1 hq2 hq3
      go_wp2
      go_still_tail 35, (by kernel_rfl)
      have HW2 : Hid (WAt wr.drew w.heap.size (wordsL bs k)) := HW.out
      have hbr2 : Below w.heap.size w wr.drew := hbr.drew
      change wpList _ _ _ _ _ wr.drew
      clear HW hbr c0 c1 c2 c3
      generalize wr.drew = w2 at *
      have hold := HW2.out.old (by omega)
      have hfree := HW2.out.free k
      rw [hwl] at hold
      have HST := Lib.hid (HW2.out.store (by omega) (word4 x0 x1 x2 x3))
      rw [hwl] at HST
      have hbs := hbr2.trans (below_setCell (B := w.heap.size) w2 w.heap.size k (V32 (word4 x0 x1 x2 x3)) (Nat.le_refl _))
      unfold word4 at HST hbs
      go_wp2
      go_roundw
      case rel => exact ⟨k + 1, by omega, by go_num, by rw [HN.out]; exact HST, hbs⟩
      case measure => (simp [intOf]; try omega)
    · obtain rfl : k = 16 := by omega
      rw [show ((16 : Nat) : Int) = 16 from rfl]
      go_wp2
      have hba : Below wr.heap.size wr ((wr.alloc (.cells #[.int .i64 7, .int .i64 18, .int .i64 0, .int .i64 3] 174)).alloc (.cells #[.int .i64 17, .int .i64 19, .int .i64 0, .int .i64 10] 174)) := ((Below.refl _ _).alloc (Nat.le_refl _) _).alloc (by simp) _
      have hbox := box_two (Below.refl ((wr.alloc (.cells #[.int .i64 7, .int .i64 18, .int .i64 0, .int .i64 3] 174)).alloc (.cells #[.int .i64 17, .int .i64 19, .int .i64 0, .int .i64 10] 174)).heap.size ((wr.alloc (.cells #[.int .i64 7, .int .i64 18, .int .i64 0, .int .i64 3] 174)).alloc (.cells #[.int .i64 17, .int .i64 19, .int .i64 0, .int .i64 10] 174)))
      have hm1 : C4 wr.heap.size (.int .i64 7) (.int .i64 18) (.int .i64 0) (.int .i64 3) ((wr.alloc (.cells #[.int .i64 7, .int .i64 18, .int .i64 0, .int .i64 3] 174)).alloc (.cells #[.int .i64 17, .int .i64 19, .int .i64 0, .int .i64 10] 174)) := ⟨hbox.1 0 _ rfl, hbox.1 1 _ rfl, hbox.1 2 _ rfl, hbox.1 3 _ rfl⟩
      have hm2 : C4 (wr.heap.size + 1) (.int .i64 17) (.int .i64 19) (.int .i64 0) (.int .i64 10) ((wr.alloc (.cells #[.int .i64 7, .int .i64 18, .int .i64 0, .int .i64 3] 174)).alloc (.cells #[.int .i64 17, .int .i64 19, .int .i64 0, .int .i64 10] 174)) := ⟨hbox.2.1 0 _ rfl, hbox.2.1 1 _ rfl, hbox.2.1 2 _ rfl, hbox.2.1 3 _ rfl⟩
      have hglt := hbox.2.2.1
      have HWa : Hid (WAt ((wr.alloc (.cells #[.int .i64 7, .int .i64 18, .int .i64 0, .int .i64 3] 174)).alloc (.cells #[.int .i64 17, .int .i64 19, .int .i64 0, .int .i64 10] 174)) w.heap.size (schedL bs 0)) := HW.out.later hba
      have hbra := hbr.trans (hba.mono hbr.size)
      have hgG : w.heap.size < wr.heap.size := HW.out.lt
      have HM1 := Lib.hid hm1
      have HM2 := Lib.hid hm2
      obtain ⟨G1, hG1⟩ : ∃ g, g = wr.heap.size := ⟨_, rfl⟩
      clear hba hbox hm1 hm2 HW hbr
      rw [← hG1] at HM1 HM2 hglt hgG ⊢
      generalize (wr.alloc (.cells #[.int .i64 7, .int .i64 18, .int .i64 0, .int .i64 3] 174)).alloc (.cells #[.int .i64 17, .int .i64 19, .int .i64 0, .int .i64 10] 174) = wa at *
      clear hG1
      go_loopw [8] (fun i wr => ∃ k : Nat, k ≤ 48 ∧ i = .int .i64 ((16 + k : Nat) : Int) ∧ Hid (WAt wr w.heap.size (schedL bs k)) ∧ Hid (C4 G1 (.int .i64 7) (.int .i64 18) (.int .i64 0) (.int .i64 3) wr) ∧ Hid (C4 (G1 + 1) (.int .i64 17) (.int .i64 19) (.int .i64 0) (.int .i64 10) wr) ∧ G1 + 1 < wr.heap.size ∧ Below w.heap.size w wr) (fun i _ => 64 - (intOf i).toNat)
      case atStart => exact ⟨0, Nat.zero_le _, rfl, HWa, HM1, HM2, hglt, hbra⟩
      case round =>
        obtain ⟨k, hk, rfl, HW, HM1, HM2, hglt, hbr⟩ := hrel
        by_cases hkl : k < 48
        · obtain ⟨L, hL⟩ : ∃ L, schedL bs k = L := ⟨_, rfl⟩
          have hLl : L.length = 16 + k := by rw [← hL]; exact schedL_len bs k
          have HN : Hid (schedL bs (k + 1) = L ++ [nextW L]) := by show _ = _; rw [schedL, hL]
          rw [hL] at HW
          have hx : ∀ d, 0 < d → d ≤ 16 → ∃ q x, q + d = 16 + k ∧ L.getD (16 + k - d) 0 = x ∧ q < L.length ∧ ∀ W L', (∀ j, j < L.length → L'[j]? = L[j]?) → WAt W w.heap.size L' → W.cell? ⟨w.heap.size, q, none⟩ = some (V32 x) := fun d h1 h2 => by
            refine ⟨16 + k - d, _, by omega, rfl, by omega, fun W L' hag hW => ?_⟩
            have h3 := hag (16 + k - d) (by omega)
            rw [List.getElem?_eq_getElem (by omega : 16 + k - d < L.length)] at h3
            have h4 := (List.getElem?_eq_some_iff.1 h3).1
            rw [hW.cell (16 + k - d) h4, List.getD_eq_getElem?_getD, List.getElem?_eq_getElem (by omega)]
            rw [List.getElem?_eq_getElem h4] at h3
            rw [Option.some.inj h3]; rfl
          obtain ⟨q16, x16, i16, e16, l16, c16⟩ := hx 16 (by decide) (by decide)
          obtain ⟨q15, x15, i15, e15, l15, c15⟩ := hx 15 (by decide) (by decide)
          obtain ⟨q7, x7, i7, e7, l7, c7⟩ := hx 7 (by decide) (by decide)
          obtain ⟨q2, x2, i2, e2, l2, c2⟩ := hx 2 (by decide) (by decide)
          have HX : Hid (nextW L = (((x16 + mixW 7 18 0 3 x15) % 4294967296 + x7) % 4294967296 + mixW 17 19 0 10 x2) % 4294967296) := by
            show _ = _; unfold nextW; rw [hLl, e16, e15, e7, e2]
          have kA := fun W => of_sh 7 18 0 3 x15 W (by decide) (by decide) (by decide)
          have kB := fun W => of_sh 17 19 0 10 x2 W (by decide) (by decide) (by decide)
          obtain ⟨n, hn⟩ : ∃ n, 16 + k = n := ⟨_, rfl⟩
          rw [hn] at hLl i16 i15 i7 i2 ⊢
          have hw16 : IntKind.i64.wrap ((n : Int) - 16) = (q16 : Int) := by rw [IntKind.wrap_i64]; omega
          have hI16 : (q16 : Int) < 64 := by omega
          have hw15 : IntKind.i64.wrap ((n : Int) - 15) = (q15 : Int) := by rw [IntKind.wrap_i64]; omega
          have hI15 : (q15 : Int) < 64 := by omega
          have hw7 : IntKind.i64.wrap ((n : Int) - 7) = (q7 : Int) := by rw [IntKind.wrap_i64]; omega
          have hI7 : (q7 : Int) < 64 := by omega
          have hw2 : IntKind.i64.wrap ((n : Int) - 2) = (q2 : Int) := by rw [IntKind.wrap_i64]; omega
          have hI2 : (q2 : Int) < 64 := by omega
          have hIn : (n : Int) < 64 := by omega
          obtain ⟨mA, hmA⟩ : ∃ z, mixW 7 18 0 3 x15 = z := ⟨_, rfl⟩
          obtain ⟨mB, hmB⟩ : ∃ z, mixW 17 19 0 10 x2 = z := ⟨_, rfl⟩
          rw [hmA] at kA HX
          rw [hmB] at kB HX
          obtain ⟨s1, hs1⟩ : ∃ z, (x16 + mA) % 4294967296 = z := ⟨_, rfl⟩
          obtain ⟨s2, hs2⟩ : ∃ z, (s1 + x7) % 4294967296 = z := ⟨_, rfl⟩
          obtain ⟨s3, hs3⟩ : ∃ z, (s2 + mB) % 4294967296 = z := ⟨_, rfl⟩
          rw [hs1, hs2, hs3] at HX
          have y1 : IntKind.u32.wrap (x16 + mA) = s1 := by rw [IntKind.wrap_u32']; exact hs1
          have y2 : IntKind.u32.wrap (s1 + x7) = s2 := by rw [IntKind.wrap_u32']; exact hs2
          have y3 : IntKind.u32.wrap (s2 + mB) = s3 := by rw [IntKind.wrap_u32']; exact hs3
          have hcs : ∀ W L', (∀ j, j < L.length → L'[j]? = L[j]?) → WAt W w.heap.size L' → C4 G1 (.int .i64 7) (.int .i64 18) (.int .i64 0) (.int .i64 3) W → C4 (G1 + 1) (.int .i64 17) (.int .i64 19) (.int .i64 0) (.int .i64 10) W →
              W.cell? ⟨w.heap.size, q16, none⟩ = some (V32 x16) ∧ W.cell? ⟨w.heap.size, q15, none⟩ = some (V32 x15) ∧ W.cell? ⟨w.heap.size, q7, none⟩ = some (V32 x7) ∧ W.cell? ⟨w.heap.size, q2, none⟩ = some (V32 x2) ∧ C4 G1 (.int .i64 7) (.int .i64 18) (.int .i64 0) (.int .i64 3) W ∧ C4 (G1 + 1) (.int .i64 17) (.int .i64 19) (.int .i64 0) (.int .i64 10) W := fun W L' h0 h1 h2 h3 => ⟨c16 W L' h0 h1, c15 W L' h0 h1, c7 W L' h0 h1, c2 W L' h0 h1, h2, h3⟩
          have HCS := Lib.hid hcs
          have HWd : Hid (WAt wr.drew w.heap.size L) := HW.out
          have HMd1 : Hid (C4 G1 (.int .i64 7) (.int .i64 18) (.int .i64 0) (.int .i64 3) wr.drew) := HM1.out
          have HMd2 : Hid (C4 (G1 + 1) (.int .i64 17) (.int .i64 19) (.int .i64 0) (.int .i64 10) wr.drew) := HM2.out
          clear hx hL e16 e15 e7 e2 c16 c15 c7 c2 hcs hmA hmB hs1 hs2 hs3
          go_wp2
          refine wp_region_held_drew (S := (fun w' => w'.cell? ⟨w.heap.size, q16, none⟩ = some (V32 x16) ∧ w'.cell? ⟨w.heap.size, q15, none⟩ = some (V32 x15) ∧ w'.cell? ⟨w.heap.size, q7, none⟩ = some (V32 x7) ∧ w'.cell? ⟨w.heap.size, q2, none⟩ = some (V32 x2) ∧ C4 G1 (.int .i64 7) (.int .i64 18) (.int .i64 0) (.int .i64 3) w' ∧ C4 (G1 + 1) (.int .i64 17) (.int .i64 19) (.int .i64 0) (.int .i64 10) w')) (by kernel_rfl) (HCS.out _ L (fun _ _ => rfl) HWd.out HMd1.out HMd2.out) (fun hHeld => ?_)
          refine held_take (i := 0) (v := ?_) rfl rfl (by kernel_rfl) (by kernel_rfl) (by kernel_rfl) (fun _ _ _ h => h) (by rfl) hHeld ?_ ?_
          rotate_left
          · rintro wh ⟨z16, z15, z7, z2, ⟨s0, s1, s2, s3⟩, ⟨r0, r1, r2, r3⟩⟩
            go_simp
            (try with_reducible rfl)
          simp only [Act.put, List.setIfInBounds_toArray, List.set_cons_zero, List.set_cons_succ]
          refine held_take (i := 1) (v := ?_) rfl rfl (by kernel_rfl) (by kernel_rfl) (by kernel_rfl) (fun _ _ _ h => h) (by rfl) hHeld ?_ ?_
          rotate_left
          · rintro wh ⟨z16, z15, z7, z2, ⟨s0, s1, s2, s3⟩, ⟨r0, r1, r2, r3⟩⟩
            go_simp
            (try with_reducible rfl)
          simp only [Act.put, List.setIfInBounds_toArray, List.set_cons_zero, List.set_cons_succ]
          refine held_take (i := 2) (v := ?_) rfl rfl (by kernel_rfl) (by kernel_rfl) (by kernel_rfl) (fun _ _ _ h => h) (by rfl) hHeld ?_ ?_
          rotate_left
          · rintro wh ⟨z16, z15, z7, z2, ⟨s0, s1, s2, s3⟩, ⟨r0, r1, r2, r3⟩⟩
            go_simp
            (try with_reducible rfl)
          simp only [Act.put, List.setIfInBounds_toArray, List.set_cons_zero, List.set_cons_succ]
          refine held_take (i := 3) (v := ?_) rfl rfl (by kernel_rfl) (by kernel_rfl) (by kernel_rfl) (fun _ _ _ h => h) (by rfl) hHeld ?_ ?_
          rotate_left
          · rintro wh ⟨z16, z15, z7, z2, ⟨s0, s1, s2, s3⟩, ⟨r0, r1, r2, r3⟩⟩
            go_simp
            (try with_reducible rfl)
          simp only [Act.put, List.setIfInBounds_toArray, List.set_cons_zero, List.set_cons_succ]
          refine held_take (i := 4) (v := ?_) rfl rfl (by kernel_rfl) (by kernel_rfl) (by kernel_rfl) (fun _ _ _ h => h) (by rfl) hHeld ?_ ?_
          rotate_left
          · rintro wh ⟨z16, z15, z7, z2, ⟨s0, s1, s2, s3⟩, ⟨r0, r1, r2, r3⟩⟩
            go_simp
            (try with_reducible rfl)
          simp only [Act.put, List.setIfInBounds_toArray, List.set_cons_zero, List.set_cons_succ]
          refine held_take (i := 5) (v := ?_) rfl rfl (by kernel_rfl) (by kernel_rfl) (by kernel_rfl) (fun _ _ _ h => h) (by rfl) hHeld ?_ ?_
          rotate_left
          · rintro wh ⟨z16, z15, z7, z2, ⟨s0, s1, s2, s3⟩, ⟨r0, r1, r2, r3⟩⟩
            go_simp
            (try with_reducible rfl)
          simp only [Act.put, List.setIfInBounds_toArray, List.set_cons_zero, List.set_cons_succ]
          refine held_take (i := 6) (v := ?_) rfl rfl (by kernel_rfl) (by kernel_rfl) (by kernel_rfl) (fun _ _ _ h => h) (by rfl) hHeld ?_ ?_
          rotate_left
          · rintro wh ⟨z16, z15, z7, z2, ⟨s0, s1, s2, s3⟩, ⟨r0, r1, r2, r3⟩⟩
            go_simp
            (try with_reducible rfl)
          simp only [Act.put, List.setIfInBounds_toArray, List.set_cons_zero, List.set_cons_succ]
          refine held_take (i := 7) (v := ?_) rfl rfl (by kernel_rfl) (by kernel_rfl) (by kernel_rfl) (fun _ _ _ h => h) (by rfl) hHeld ?_ ?_
          rotate_left
          · rintro wh ⟨z16, z15, z7, z2, ⟨s0, s1, s2, s3⟩, ⟨r0, r1, r2, r3⟩⟩
            go_simp
            (try with_reducible rfl)
          simp only [Act.put, List.setIfInBounds_toArray, List.set_cons_zero, List.set_cons_succ]
          refine held_take (i := 8) (v := ?_) rfl rfl (by kernel_rfl) (by kernel_rfl) (by kernel_rfl) (fun _ _ _ h => h) (by rfl) hHeld ?_ ?_
          rotate_left
          · rintro wh ⟨z16, z15, z7, z2, ⟨s0, s1, s2, s3⟩, ⟨r0, r1, r2, r3⟩⟩
            go_simp
            (try with_reducible rfl)
          simp only [Act.put, List.setIfInBounds_toArray, List.set_cons_zero, List.set_cons_succ]
          refine held_take (i := 9) (v := ?_) rfl rfl (by kernel_rfl) (by kernel_rfl) (by kernel_rfl) (fun _ _ _ h => h) (by rfl) hHeld ?_ ?_
          rotate_left
          · rintro wh ⟨z16, z15, z7, z2, ⟨s0, s1, s2, s3⟩, ⟨r0, r1, r2, r3⟩⟩
            go_simp
            (try with_reducible rfl)
          simp only [Act.put, List.setIfInBounds_toArray, List.set_cons_zero, List.set_cons_succ]
          refine held_take (i := 12) (v := ?_) rfl rfl (by kernel_rfl) (by kernel_rfl) (by kernel_rfl) (fun _ _ _ h => h) (by rfl) hHeld ?_ ?_
          rotate_left
          · rintro wh ⟨z16, z15, z7, z2, ⟨s0, s1, s2, s3⟩, ⟨r0, r1, r2, r3⟩⟩
            go_simp
            (try with_reducible rfl)
          simp only [Act.put, List.setIfInBounds_toArray, List.set_cons_zero, List.set_cons_succ]
          refine held_take (i := 13) (v := ?_) rfl rfl (by kernel_rfl) (by kernel_rfl) (by kernel_rfl) (fun _ _ _ h => h) (by rfl) hHeld ?_ ?_
          rotate_left
          · rintro wh ⟨z16, z15, z7, z2, ⟨s0, s1, s2, s3⟩, ⟨r0, r1, r2, r3⟩⟩
            go_simp
            (try with_reducible rfl)
          simp only [Act.put, List.setIfInBounds_toArray, List.set_cons_zero, List.set_cons_succ]
          refine held_take (i := 14) (v := ?_) rfl rfl (by kernel_rfl) (by kernel_rfl) (by kernel_rfl) (fun _ _ _ h => h) (by rfl) hHeld ?_ ?_
          rotate_left
          · rintro wh ⟨z16, z15, z7, z2, ⟨s0, s1, s2, s3⟩, ⟨r0, r1, r2, r3⟩⟩
            go_simp
            (try with_reducible rfl)
          simp only [Act.put, List.setIfInBounds_toArray, List.set_cons_zero, List.set_cons_succ]
          refine held_take (i := 15) (v := ?_) rfl rfl (by kernel_rfl) (by kernel_rfl) (by kernel_rfl) (fun _ _ _ h => h) (by rfl) hHeld ?_ ?_
          rotate_left
          · rintro wh ⟨z16, z15, z7, z2, ⟨s0, s1, s2, s3⟩, ⟨r0, r1, r2, r3⟩⟩
            go_simp
            (try with_reducible rfl)
          simp only [Act.put, List.setIfInBounds_toArray, List.set_cons_zero, List.set_cons_succ]
          refine held_take (i := 17) (v := ?_) rfl rfl (by kernel_rfl) (by kernel_rfl) (by kernel_rfl) (fun _ _ _ h => h) (by rfl) hHeld ?_ ?_
          rotate_left
          · rintro wh ⟨z16, z15, z7, z2, ⟨s0, s1, s2, s3⟩, ⟨r0, r1, r2, r3⟩⟩
            go_simp
            (try with_reducible rfl)
          simp only [Act.put, List.setIfInBounds_toArray, List.set_cons_zero, List.set_cons_succ]
          refine held_take (i := 18) (v := ?_) rfl rfl (by kernel_rfl) (by kernel_rfl) (by kernel_rfl) (fun _ _ _ h => h) (by rfl) hHeld ?_ ?_
          rotate_left
          · rintro wh ⟨z16, z15, z7, z2, ⟨s0, s1, s2, s3⟩, ⟨r0, r1, r2, r3⟩⟩
            go_simp
            (try with_reducible rfl)
          simp only [Act.put, List.setIfInBounds_toArray, List.set_cons_zero, List.set_cons_succ]
          refine held_take (i := 19) (v := ?_) rfl rfl (by kernel_rfl) (by kernel_rfl) (by kernel_rfl) (fun _ _ _ h => h) (by rfl) hHeld ?_ ?_
          rotate_left
          · rintro wh ⟨z16, z15, z7, z2, ⟨s0, s1, s2, s3⟩, ⟨r0, r1, r2, r3⟩⟩
            go_simp
            (try with_reducible rfl)
          simp only [Act.put, List.setIfInBounds_toArray, List.set_cons_zero, List.set_cons_succ]
          refine held_take (i := 20) (v := ?_) rfl rfl (by kernel_rfl) (by kernel_rfl) (by kernel_rfl) (fun _ _ _ h => h) (by rfl) hHeld ?_ ?_
          rotate_left
          · rintro wh ⟨z16, z15, z7, z2, ⟨s0, s1, s2, s3⟩, ⟨r0, r1, r2, r3⟩⟩
            go_simp
            (try with_reducible rfl)
          simp only [Act.put, List.setIfInBounds_toArray, List.set_cons_zero, List.set_cons_succ]
          refine held_take (i := 21) (v := ?_) rfl rfl (by kernel_rfl) (by kernel_rfl) (by kernel_rfl) (fun _ _ _ h => h) (by rfl) hHeld ?_ ?_
          rotate_left
          · rintro wh ⟨z16, z15, z7, z2, ⟨s0, s1, s2, s3⟩, ⟨r0, r1, r2, r3⟩⟩
            go_simp
            (try with_reducible rfl)
          simp only [Act.put, List.setIfInBounds_toArray, List.set_cons_zero, List.set_cons_succ]
          refine held_call (i := 10) rfl (by kernel_rfl) (by rfl) (fun K hK => ?_)
          (go_simp; go_at_call 111; refine (kA _).mono ?_; rintro e w1 ⟨rfl, hb1⟩; have HW1 := Lib.hid (HWd.out.later hb1); have HN1 := Lib.hid (HMd1.out.later hb1 (by show G1 < wr.heap.size; omega)); have HN2 := Lib.hid (HMd2.out.later hb1 hglt); have hg1 := Nat.lt_of_lt_of_le hglt hb1.size)
          refine hK.out _ _ (HCS.out _ L (fun _ _ => rfl) HW1.out HN1.out HN2.out) (fun hHeld => ?_)
          clear hK K
          (try simp only [Act.put, List.setIfInBounds_toArray, List.set_cons_zero, List.set_cons_succ])
          refine held_take (i := 11) (v := ?_) rfl rfl (by kernel_rfl) (by kernel_rfl) (by kernel_rfl) (fun _ _ _ h => h) (by rfl) hHeld ?_ ?_
          rotate_left
          · rintro wh ⟨z16, z15, z7, z2, ⟨s0, s1, s2, s3⟩, ⟨r0, r1, r2, r3⟩⟩
            go_simp
            (try with_reducible rfl)
          simp only [Act.put, List.setIfInBounds_toArray, List.set_cons_zero, List.set_cons_succ]
          refine held_take (i := 16) (v := ?_) rfl rfl (by kernel_rfl) (by kernel_rfl) (by kernel_rfl) (fun _ _ _ h => h) (by rfl) hHeld ?_ ?_
          rotate_left
          · rintro wh ⟨z16, z15, z7, z2, ⟨s0, s1, s2, s3⟩, ⟨r0, r1, r2, r3⟩⟩
            go_simp
            (try with_reducible rfl)
          simp only [Act.put, List.setIfInBounds_toArray, List.set_cons_zero, List.set_cons_succ]
          refine held_call (i := 22) rfl (by kernel_rfl) (by rfl) (fun K hK => ?_)
          (go_simp; go_at_call 111; refine (kB _).mono ?_; rintro e w2 ⟨rfl, hb2⟩; have HW2 := Lib.hid (HW1.out.later hb2); have HO1 := Lib.hid (HN1.out.later hb2 (by omega)); have HO2 := Lib.hid (HN2.out.later hb2 hg1); have hg2 := Nat.lt_of_lt_of_le hg1 hb2.size)
          refine hK.out _ _ (HCS.out _ L (fun _ _ => rfl) HW2.out HO1.out HO2.out) (fun hHeld => ?_)
          clear hK K
          (try simp only [Act.put, List.setIfInBounds_toArray, List.set_cons_zero, List.set_cons_succ])
          refine held_take (i := 23) (v := ?_) rfl rfl (by kernel_rfl) (by kernel_rfl) (by kernel_rfl) (fun _ _ _ h => h) (by rfl) hHeld ?_ ?_
          rotate_left
          · rintro wh ⟨z16, z15, z7, z2, ⟨s0, s1, s2, s3⟩, ⟨r0, r1, r2, r3⟩⟩
            go_simp
            (try with_reducible rfl)
          simp only [Act.put, List.setIfInBounds_toArray, List.set_cons_zero, List.set_cons_succ]
          refine held_take (i := 24) (v := ?_) rfl rfl (by kernel_rfl) (by kernel_rfl) (by kernel_rfl) (fun _ _ _ h => h) (by rfl) hHeld ?_ ?_
          rotate_left
          · rintro wh ⟨z16, z15, z7, z2, ⟨s0, s1, s2, s3⟩, ⟨r0, r1, r2, r3⟩⟩
            go_simp
            (try with_reducible rfl)
          simp only [Act.put, List.setIfInBounds_toArray, List.set_cons_zero, List.set_cons_succ]
          refine held_call (i := 25) rfl (by kernel_rfl) (by rfl) (fun K hK => ?_)
          (have hold := HW2.out.old (by omega); rw [hLl] at hold; have hfree := HW2.out.free n; have HST := Lib.hid (HW2.out.store (by omega) s3); rw [hLl] at HST; have HP1 := Lib.hid (HO1.out.beside (g := w.heap.size) (j := n) (v := V32 s3) (by omega)); have HP2 := Lib.hid (HO2.out.beside (g := w.heap.size) (j := n) (v := V32 s3) (by omega)); have hbs := (hbr.drew.trans (hb1.mono hbr.size)).trans (hb2.mono (by have := hb1.size; have := hbr.size; simp at *; omega)); have hbs2 := hbs.trans (below_setCell (B := w.heap.size) w2 w.heap.size n (V32 s3) (Nat.le_refl _)); go_simp)
          refine hK.out _ _ (HCS.out _ (L ++ [s3]) (fun j h => List.getElem?_append_left h) HST.out HP1.out HP2.out) (fun hHeld => ?_)
          clear hK K
          (try simp only [Act.put, List.setIfInBounds_toArray, List.set_cons_zero, List.set_cons_succ])
          refine wpAnyH_done (by kernel_rfl) ?_ _
          have hg3 : G1 + 1 < (w2.setCell ⟨w.heap.size, n, none⟩ (V32 s3)).heap.size := by rw [World.size_setCell]; exact hg2
          generalize w2.setCell ⟨w.heap.size, n, none⟩ (V32 s3) = w3 at *
          have R : Hid (WAt w3 w.heap.size (schedL bs (k + 1))) := by rw [HN.out, HX.out]; exact HST
          go_wp2
          go_roundw
          case rel => exact ⟨k + 1, by omega, by (first | go_num | (congr 1; omega)), R, HP1, HP2, hg3, hbs2⟩
          case measure => (simp [intOf]; try omega)
        · obtain rfl : k = 48 := by omega
          rw [show ((16 + 48 : Nat) : Int) = 64 from rfl]
          have HSr := Lib.hid (HS.out.later hbr)
          obtain ⟨h0, h1, h2, h3, h4, h5, h6, h7, rfl⟩ : ∃ h0 h1 h2 h3 h4 h5 h6 h7, V = [h0, h1, h2, h3, h4, h5, h6, h7] := by
            have hl := HS.out.1
            match V, hl with
            | [a, b, c, d, e, f, g, h], _ => exact ⟨a, b, c, d, e, f, g, h, rfl⟩
          have g0 : wr.cell? ⟨p, 0, none⟩ = some (V32 h0) := HSr.out.word 0 (by decide)
          have g1 : wr.cell? ⟨p, 1, none⟩ = some (V32 h1) := HSr.out.word 1 (by decide)
          have g2 : wr.cell? ⟨p, 2, none⟩ = some (V32 h2) := HSr.out.word 2 (by decide)
          have g3 : wr.cell? ⟨p, 3, none⟩ = some (V32 h3) := HSr.out.word 3 (by decide)
          have g4 : wr.cell? ⟨p, 4, none⟩ = some (V32 h4) := HSr.out.word 4 (by decide)
          have g5 : wr.cell? ⟨p, 5, none⟩ = some (V32 h5) := HSr.out.word 5 (by decide)
          have g6 : wr.cell? ⟨p, 6, none⟩ = some (V32 h6) := HSr.out.word 6 (by decide)
          have g7 : wr.cell? ⟨p, 7, none⟩ = some (V32 h7) := HSr.out.word 7 (by decide)
          have hpr : p < wr.heap.size := HSr.out.lt
          go_wp2_with fail
          refine (keys_any _).mono ?_
          rintro e w3 ⟨rfl, hb3⟩
          clear g0 g1 g2 g3 g4 g5 g6 g7
          obtain ⟨hB3, hV3, hA3, hN3, hlt3⟩ := three_boxes hb3
          have hW3 := Lib.hid (HW.out.later hB3)
          have hS3 := Lib.hid (HSr.out.later hB3)
          have hbr3 := hbr.trans (hB3.mono hbr.size)
          obtain ⟨gA, hgA⟩ : ∃ g, g = wr.heap.size := ⟨_, rfl⟩
          have hGA : w.heap.size < gA := by rw [hgA]; exact HW.out.lt
          rw [← hgA] at hV3 hA3 hN3 hlt3 ⊢
          have HV3 : Hid (VAt w3 (gA + 1 + 1) (roundsL (schedL bs 48) [h0, h1, h2, h3, h4, h5, h6, h7] 0)) := ⟨rfl, hV3⟩
          have HA3 := Lib.hid (hA3 rfl)
          have HN3 := Lib.hid (hN3 rfl)
          clear hB3 hb3 HW HM1 HM2 HSr hbr hgA hV3 hA3 hN3 hglt
          obtain ⟨WL, hWL⟩ : ∃ W, schedL bs 48 = W := ⟨_, rfl⟩
          have hWl : WL.length = 64 := by rw [← hWL]; exact schedL_len bs 48
          rw [hWL] at hW3 HV3
          have HWL := Lib.hid hWL
          clear hWL
          go_wp2
          go_loopw [94] (fun i wr => ∃ k : Nat, k ≤ 64 ∧ i = .int .i64 k ∧ Hid (WAt wr w.heap.size WL) ∧ Hid (VAt wr (gA + 1 + 1) (roundsL WL [h0, h1, h2, h3, h4, h5, h6, h7] k)) ∧ Hid (C4 gA (.int .i64 6) (.int .i64 11) (.int .i64 25) (.int .i64 0) wr) ∧ Hid (C4 (gA + 1) (.int .i64 2) (.int .i64 13) (.int .i64 22) (.int .i64 0) wr) ∧ Hid (SumAt wr p [h0, h1, h2, h3, h4, h5, h6, h7] rv cnt) ∧ gA + 1 + 1 < wr.heap.size ∧ Below w.heap.size w wr) (fun i _ => 64 - (intOf i).toNat)
          case atStart => exact ⟨0, Nat.zero_le _, rfl, hW3, HV3, HA3, HN3, hS3, hlt3, hbr3⟩
          case round =>
            obtain ⟨k, hk, rfl, HW, HV, HA, HN, HS3, hlt3, hbr⟩ := hrel
            by_cases hkl : k < 64
            · obtain ⟨x0, x1, x2, x3, x4, x5, x6, x7, hv⟩ : ∃ x0 x1 x2 x3 x4 x5 x6 x7, roundsL WL [h0, h1, h2, h3, h4, h5, h6, h7] k = [x0, x1, x2, x3, x4, x5, x6, x7] := by
                have hl := HV.out.1
                match roundsL WL [h0, h1, h2, h3, h4, h5, h6, h7] k, hl with
                | [a, b, c, d, e, f, g, h], _ => exact ⟨a, b, c, d, e, f, g, h, rfl⟩
              have HNX : Hid (roundsL WL [h0, h1, h2, h3, h4, h5, h6, h7] (k + 1) = roundL [x0, x1, x2, x3, x4, x5, x6, x7] (keyL k) (WL.getD k 0)) := by show _ = _; rw [roundsL, hv]
              rw [hv] at HV
              have hkv := keysV_at k hkl
              obtain ⟨xk, hxk⟩ : ∃ x, WL.getD k 0 = x := ⟨_, rfl⟩
              have hck : ∀ W, WAt W w.heap.size WL → W.cell? ⟨w.heap.size, k, none⟩ = some (V32 xk) := fun W hW => by
                rw [hW.cell k (by omega), ← hxk, List.getD_eq_getElem?_getD, List.getElem?_eq_getElem (by omega)]; rfl
              rw [hxk] at HNX
              obtain ⟨kk, hkk⟩ : ∃ x, keyL k = x := ⟨_, rfl⟩
              have hidx := run_index_keys k hkl wr
              rw [hkk] at hkv HNX hidx
              have hI : (k : Int) < 64 := by omega
              clear hv hxk hkk
              have kA := fun W => of_rot 6 11 25 x4 W (by decide) (by decide) (by decide)
              have kN := fun W => of_rot 2 13 22 x0 W (by decide) (by decide) (by decide)
              obtain ⟨mA, hmA⟩ : ∃ z, mixW 6 11 25 0 x4 = z := ⟨_, rfl⟩
              obtain ⟨mN, hmN⟩ : ∃ z, mixW 2 13 22 0 x0 = z := ⟨_, rfl⟩
              rw [hmA] at kA
              rw [hmN] at kN
              obtain ⟨t1, e1⟩ : ∃ z, IntKind.u32.wrap (x7 + mA) = z := ⟨_, rfl⟩
              obtain ⟨n1, e2⟩ : ∃ z, bits BinOp.and .u32 x4 x5 = z := ⟨_, rfl⟩
              obtain ⟨n2, e3⟩ : ∃ z, bits BinOp.xor .u32 (if IntKind.u32.signed = true then -1 else IntKind.u32.max) x4 = z := ⟨_, rfl⟩
              obtain ⟨n3, e4⟩ : ∃ z, bits BinOp.and .u32 n2 x6 = z := ⟨_, rfl⟩
              obtain ⟨n4, e5⟩ : ∃ z, bits BinOp.xor .u32 n1 n3 = z := ⟨_, rfl⟩
              obtain ⟨t2, e6⟩ : ∃ z, IntKind.u32.wrap (t1 + n4) = z := ⟨_, rfl⟩
              obtain ⟨t3, e7⟩ : ∃ z, IntKind.u32.wrap (t2 + kk) = z := ⟨_, rfl⟩
              obtain ⟨T, e8⟩ : ∃ z, IntKind.u32.wrap (t3 + xk) = z := ⟨_, rfl⟩
              have hT : tL mA x4 x5 x6 x7 kk xk = T := by unfold tL; rw [e1, e2, e3, e4, e5, e6, e7, e8]
              obtain ⟨m1, f1⟩ : ∃ z, bits BinOp.and .u32 x0 x1 = z := ⟨_, rfl⟩
              obtain ⟨m2, f2⟩ : ∃ z, bits BinOp.and .u32 x0 x2 = z := ⟨_, rfl⟩
              obtain ⟨m3, f3⟩ : ∃ z, bits BinOp.xor .u32 m1 m2 = z := ⟨_, rfl⟩
              obtain ⟨m4, f4⟩ : ∃ z, bits BinOp.and .u32 x1 x2 = z := ⟨_, rfl⟩
              obtain ⟨m5, f5⟩ : ∃ z, bits BinOp.xor .u32 m3 m4 = z := ⟨_, rfl⟩
              obtain ⟨U, f6⟩ : ∃ z, IntKind.u32.wrap (mN + m5) = z := ⟨_, rfl⟩
              have hU : uL mN x0 x1 x2 = U := by unfold uL; rw [f1, f2, f3, f4, f5, f6]
              have HR : Hid (roundsL WL [h0, h1, h2, h3, h4, h5, h6, h7] (k + 1) = [(T + U) % 4294967296, x0, x1, x2, (x3 + T) % 4294967296, x4, x5, x6]) := by
                show _ = _; rw [HNX.out]; simp only [roundL]; rw [hmA, hmN, hT, hU]
              clear hmA hmN hT hU HNX
              have hcs : ∀ W, VAt W (gA + 1 + 1) [x0, x1, x2, x3, x4, x5, x6, x7] → C4 gA (.int .i64 6) (.int .i64 11) (.int .i64 25) (.int .i64 0) W → WAt W w.heap.size WL →
                  W.cell? ⟨gA + 1 + 1, 7, none⟩ = some (V32 x7) ∧ W.cell? ⟨gA + 1 + 1, 4, none⟩ = some (V32 x4) ∧ W.cell? ⟨gA + 1 + 1, 5, none⟩ = some (V32 x5) ∧ W.cell? ⟨gA + 1 + 1, 6, none⟩ = some (V32 x6) ∧ C4 gA (.int .i64 6) (.int .i64 11) (.int .i64 25) (.int .i64 0) W ∧ W.cell? ⟨w.heap.size, k, none⟩ = some (V32 xk) := fun W h1 h2 h3 => ⟨h1.cell 7 _ rfl, h1.cell 4 _ rfl, h1.cell 5 _ rfl, h1.cell 6 _ rfl, h2, hck W h3⟩
              have HCS := Lib.hid hcs
              have HVd : Hid (VAt wr.drew (gA + 1 + 1) [x0, x1, x2, x3, x4, x5, x6, x7]) := HV.out
              have HAd : Hid (C4 gA (.int .i64 6) (.int .i64 11) (.int .i64 25) (.int .i64 0) wr.drew) := HA.out
              have HWd : Hid (WAt wr.drew w.heap.size WL) := HW.out
              clear hcs hck hkv
              go_wp2
              refine wp_region_held_drew (S := (fun w' => w'.cell? ⟨gA + 1 + 1, 7, none⟩ = some (V32 x7) ∧ w'.cell? ⟨gA + 1 + 1, 4, none⟩ = some (V32 x4) ∧ w'.cell? ⟨gA + 1 + 1, 5, none⟩ = some (V32 x5) ∧ w'.cell? ⟨gA + 1 + 1, 6, none⟩ = some (V32 x6) ∧ C4 gA (.int .i64 6) (.int .i64 11) (.int .i64 25) (.int .i64 0) w' ∧ w'.cell? ⟨w.heap.size, k, none⟩ = some (V32 xk))) (by kernel_rfl) (HCS.out _ HVd.out HAd.out HWd.out) (fun hHeld => ?_)
              refine held_take (i := 0) (v := ?_) rfl rfl (by kernel_rfl) (by kernel_rfl) (by kernel_rfl) (fun _ _ _ h => h) (by rfl) hHeld ?_ ?_
              rotate_left
              · rintro wh ⟨z7, z4, z5, z6, ⟨s0, s1, s2, s3⟩, zk⟩
                go_simp
                (try with_reducible rfl)
              simp only [Act.put, List.setIfInBounds_toArray, List.set_cons_zero, List.set_cons_succ]
              refine held_take (i := 1) (v := ?_) rfl rfl (by kernel_rfl) (by kernel_rfl) (by kernel_rfl) (fun _ _ _ h => h) (by rfl) hHeld ?_ ?_
              rotate_left
              · rintro wh ⟨z7, z4, z5, z6, ⟨s0, s1, s2, s3⟩, zk⟩
                go_simp
                (try with_reducible rfl)
              simp only [Act.put, List.setIfInBounds_toArray, List.set_cons_zero, List.set_cons_succ]
              refine held_take (i := 2) (v := ?_) rfl rfl (by kernel_rfl) (by kernel_rfl) (by kernel_rfl) (fun _ _ _ h => h) (by rfl) hHeld ?_ ?_
              rotate_left
              · rintro wh ⟨z7, z4, z5, z6, ⟨s0, s1, s2, s3⟩, zk⟩
                go_simp
                (try with_reducible rfl)
              simp only [Act.put, List.setIfInBounds_toArray, List.set_cons_zero, List.set_cons_succ]
              refine held_take (i := 3) (v := ?_) rfl rfl (by kernel_rfl) (by kernel_rfl) (by kernel_rfl) (fun _ _ _ h => h) (by rfl) hHeld ?_ ?_
              rotate_left
              · rintro wh ⟨z7, z4, z5, z6, ⟨s0, s1, s2, s3⟩, zk⟩
                go_simp
                (try with_reducible rfl)
              simp only [Act.put, List.setIfInBounds_toArray, List.set_cons_zero, List.set_cons_succ]
              refine held_take (i := 4) (v := ?_) rfl rfl (by kernel_rfl) (by kernel_rfl) (by kernel_rfl) (fun _ _ _ h => h) (by rfl) hHeld ?_ ?_
              rotate_left
              · rintro wh ⟨z7, z4, z5, z6, ⟨s0, s1, s2, s3⟩, zk⟩
                go_simp
                (try with_reducible rfl)
              simp only [Act.put, List.setIfInBounds_toArray, List.set_cons_zero, List.set_cons_succ]
              refine held_take (i := 7) (v := ?_) rfl rfl (by kernel_rfl) (by kernel_rfl) (by kernel_rfl) (fun _ _ _ h => h) (by rfl) hHeld ?_ ?_
              rotate_left
              · rintro wh ⟨z7, z4, z5, z6, ⟨s0, s1, s2, s3⟩, zk⟩
                go_simp
                (try with_reducible rfl)
              simp only [Act.put, List.setIfInBounds_toArray, List.set_cons_zero, List.set_cons_succ]
              refine held_take (i := 8) (v := ?_) rfl rfl (by kernel_rfl) (by kernel_rfl) (by kernel_rfl) (fun _ _ _ h => h) (by rfl) hHeld ?_ ?_
              rotate_left
              · rintro wh ⟨z7, z4, z5, z6, ⟨s0, s1, s2, s3⟩, zk⟩
                go_simp
                (try with_reducible rfl)
              simp only [Act.put, List.setIfInBounds_toArray, List.set_cons_zero, List.set_cons_succ]
              refine held_take (i := 9) (v := ?_) rfl rfl (by kernel_rfl) (by kernel_rfl) (by kernel_rfl) (fun _ _ _ h => h) (by rfl) hHeld ?_ ?_
              rotate_left
              · rintro wh ⟨z7, z4, z5, z6, ⟨s0, s1, s2, s3⟩, zk⟩
                go_simp
                (try with_reducible rfl)
              simp only [Act.put, List.setIfInBounds_toArray, List.set_cons_zero, List.set_cons_succ]
              refine held_take (i := 10) (v := ?_) rfl rfl (by kernel_rfl) (by kernel_rfl) (by kernel_rfl) (fun _ _ _ h => h) (by rfl) hHeld ?_ ?_
              rotate_left
              · rintro wh ⟨z7, z4, z5, z6, ⟨s0, s1, s2, s3⟩, zk⟩
                go_simp
                (try with_reducible rfl)
              simp only [Act.put, List.setIfInBounds_toArray, List.set_cons_zero, List.set_cons_succ]
              refine held_take (i := 11) (v := ?_) rfl rfl (by kernel_rfl) (by kernel_rfl) (by kernel_rfl) (fun _ _ _ h => h) (by rfl) hHeld ?_ ?_
              rotate_left
              · rintro wh ⟨z7, z4, z5, z6, ⟨s0, s1, s2, s3⟩, zk⟩
                go_simp
                (try with_reducible rfl)
              simp only [Act.put, List.setIfInBounds_toArray, List.set_cons_zero, List.set_cons_succ]
              refine held_take (i := 12) (v := ?_) rfl rfl (by kernel_rfl) (by kernel_rfl) (by kernel_rfl) (fun _ _ _ h => h) (by rfl) hHeld ?_ ?_
              rotate_left
              · rintro wh ⟨z7, z4, z5, z6, ⟨s0, s1, s2, s3⟩, zk⟩
                go_simp
                (try with_reducible rfl)
              simp only [Act.put, List.setIfInBounds_toArray, List.set_cons_zero, List.set_cons_succ]
              refine held_take (i := 13) (v := ?_) rfl rfl (by kernel_rfl) (by kernel_rfl) (by kernel_rfl) (fun _ _ _ h => h) (by rfl) hHeld ?_ ?_
              rotate_left
              · rintro wh ⟨z7, z4, z5, z6, ⟨s0, s1, s2, s3⟩, zk⟩
                go_simp
                (try with_reducible rfl)
              simp only [Act.put, List.setIfInBounds_toArray, List.set_cons_zero, List.set_cons_succ]
              refine held_take (i := 14) (v := ?_) rfl rfl (by kernel_rfl) (by kernel_rfl) (by kernel_rfl) (fun _ _ _ h => h) (by rfl) hHeld ?_ ?_
              rotate_left
              · rintro wh ⟨z7, z4, z5, z6, ⟨s0, s1, s2, s3⟩, zk⟩
                go_simp
                (try with_reducible rfl)
              simp only [Act.put, List.setIfInBounds_toArray, List.set_cons_zero, List.set_cons_succ]
              refine held_take (i := 15) (v := ?_) rfl rfl (by kernel_rfl) (by kernel_rfl) (by kernel_rfl) (fun _ _ _ h => h) (by rfl) hHeld ?_ ?_
              rotate_left
              · rintro wh ⟨z7, z4, z5, z6, ⟨s0, s1, s2, s3⟩, zk⟩
                go_simp
                (try with_reducible rfl)
              simp only [Act.put, List.setIfInBounds_toArray, List.set_cons_zero, List.set_cons_succ]
              refine held_take (i := 16) (v := ?_) rfl rfl (by kernel_rfl) (by kernel_rfl) (by kernel_rfl) (fun _ _ _ h => h) (by rfl) hHeld ?_ ?_
              rotate_left
              · rintro wh ⟨z7, z4, z5, z6, ⟨s0, s1, s2, s3⟩, zk⟩
                go_simp
                (try with_reducible rfl)
              simp only [Act.put, List.setIfInBounds_toArray, List.set_cons_zero, List.set_cons_succ]
              refine held_take (i := 17) (v := ?_) rfl rfl (by kernel_rfl) (by kernel_rfl) (by kernel_rfl) (fun _ _ _ h => h) (by rfl) hHeld ?_ ?_
              rotate_left
              · rintro wh ⟨z7, z4, z5, z6, ⟨s0, s1, s2, s3⟩, zk⟩
                go_simp
                (try with_reducible rfl)
              simp only [Act.put, List.setIfInBounds_toArray, List.set_cons_zero, List.set_cons_succ]
              refine held_take (i := 18) (v := ?_) rfl rfl (by kernel_rfl) (by kernel_rfl) (by kernel_rfl) (fun _ _ _ h => h) (by rfl) hHeld ?_ ?_
              rotate_left
              · rintro wh ⟨z7, z4, z5, z6, ⟨s0, s1, s2, s3⟩, zk⟩
                go_simp
                (try with_reducible rfl)
              simp only [Act.put, List.setIfInBounds_toArray, List.set_cons_zero, List.set_cons_succ]
              refine held_take (i := 20) (v := ?_) rfl rfl (by kernel_rfl) (by kernel_rfl) (by kernel_rfl) (fun _ _ _ h => h) (by rfl) hHeld ?_ ?_
              rotate_left
              · rintro wh ⟨z7, z4, z5, z6, ⟨s0, s1, s2, s3⟩, zk⟩
                go_simp
                (try with_reducible rfl)
              simp only [Act.put, List.setIfInBounds_toArray, List.set_cons_zero, List.set_cons_succ]
              refine held_take (i := 22) (v := ?_) rfl rfl (by kernel_rfl) (by kernel_rfl) (by kernel_rfl) (fun _ _ _ h => h) (by rfl) hHeld ?_ ?_
              rotate_left
              · rintro wh ⟨z7, z4, z5, z6, ⟨s0, s1, s2, s3⟩, zk⟩
                go_simp
                (try with_reducible rfl)
              simp only [Act.put, List.setIfInBounds_toArray, List.set_cons_zero, List.set_cons_succ]
              refine held_take (i := 23) (v := ?_) rfl rfl (by kernel_rfl) (by kernel_rfl) (by kernel_rfl) (fun _ _ _ h => h) (by rfl) hHeld ?_ ?_
              rotate_left
              · rintro wh ⟨z7, z4, z5, z6, ⟨s0, s1, s2, s3⟩, zk⟩
                go_simp
                (try with_reducible rfl)
              simp only [Act.put, List.setIfInBounds_toArray, List.set_cons_zero, List.set_cons_succ]
              refine held_take (i := 24) (v := ?_) rfl rfl (by kernel_rfl) (by kernel_rfl) (by kernel_rfl) (fun _ _ _ h => h) (by rfl) hHeld ?_ ?_
              rotate_left
              · rintro wh ⟨z7, z4, z5, z6, ⟨s0, s1, s2, s3⟩, zk⟩
                go_simp
                (try with_reducible rfl)
              simp only [Act.put, List.setIfInBounds_toArray, List.set_cons_zero, List.set_cons_succ]
              refine held_call (i := 5) rfl (by kernel_rfl) (by rfl) (fun K hK => ?_)
              (go_simp; go_at_call 111; refine (kA _).mono ?_; rintro e w1 ⟨rfl, hb1⟩; have HV1 := Lib.hid (HVd.out.later hb1); have HA1 := Lib.hid (HAd.out.later hb1 (by show gA < wr.heap.size; omega)); have HW1 := Lib.hid (HWd.out.later hb1))
              refine hK.out _ _ (HCS.out _ HV1.out HA1.out HW1.out) (fun hHeld => ?_)
              clear hK K
              (try simp only [Act.put, List.setIfInBounds_toArray, List.set_cons_zero, List.set_cons_succ])
              refine held_take (i := 6) (v := ?_) rfl rfl (by kernel_rfl) (by kernel_rfl) (by kernel_rfl) (fun _ _ _ h => h) (by rfl) hHeld ?_ ?_
              rotate_left
              · rintro wh ⟨z7, z4, z5, z6, ⟨s0, s1, s2, s3⟩, zk⟩
                go_simp
                (try with_reducible rfl)
              simp only [Act.put, List.setIfInBounds_toArray, List.set_cons_zero, List.set_cons_succ]
              refine held_take (i := 19) (v := ?_) rfl rfl (by kernel_rfl) (by kernel_rfl) (by kernel_rfl) (fun _ _ _ h => h) (by rfl) hHeld ?_ ?_
              rotate_left
              · rintro wh ⟨z7, z4, z5, z6, ⟨s0, s1, s2, s3⟩, zk⟩
                go_simp
                (try with_reducible rfl)
              simp only [Act.put, List.setIfInBounds_toArray, List.set_cons_zero, List.set_cons_succ]
              refine held_take (i := 21) (v := ?_) rfl rfl (by kernel_rfl) (by kernel_rfl) (by kernel_rfl) (fun _ _ _ h => h) (by rfl) hHeld ?_ ?_
              rotate_left
              · rintro wh ⟨z7, z4, z5, z6, ⟨s0, s1, s2, s3⟩, zk⟩
                go_simp
                (try with_reducible rfl)
              simp only [Act.put, List.setIfInBounds_toArray, List.set_cons_zero, List.set_cons_succ]
              refine held_take (i := 25) (v := ?_) rfl rfl (by kernel_rfl) (by kernel_rfl) (by kernel_rfl) (fun _ _ _ h => h) (by rfl) hHeld ?_ ?_
              rotate_left
              · rintro wh ⟨z7, z4, z5, z6, ⟨s0, s1, s2, s3⟩, zk⟩
                go_simp
                (try with_reducible rfl)
              simp only [Act.put, List.setIfInBounds_toArray, List.set_cons_zero, List.set_cons_succ]
              refine held_take (i := 26) (v := ?_) rfl rfl (by kernel_rfl) (by kernel_rfl) (by kernel_rfl) (fun _ _ _ h => h) (by rfl) hHeld ?_ ?_
              rotate_left
              · rintro wh ⟨z7, z4, z5, z6, ⟨s0, s1, s2, s3⟩, zk⟩
                go_simp
                (try with_reducible rfl)
              simp only [Act.put, List.setIfInBounds_toArray, List.set_cons_zero, List.set_cons_succ]
              refine wpAnyH_done (by kernel_rfl) ?_ _
              clear e1 e2 e3 e4 e5 e6 e7 e8
              have hlt1 := Nat.lt_of_lt_of_le hlt3 hb1.size
              have HN1 := Lib.hid (HN.out.later (bl_drewN (Below.refl wr.heap.size wr) 1) (by omega) |>.later hb1 (by show gA + 1 < wr.heap.size; omega))
              have HS1 := Lib.hid ((HS3.out.later (bl_drewN (Below.refl wr.heap.size wr) 1)).later hb1)
              have hbr1 := (hbr.drew).trans (hb1.mono hbr.size)
              have HNd : Hid (C4 (gA + 1) (.int .i64 2) (.int .i64 13) (.int .i64 22) (.int .i64 0) w1.drew) := HN1.out
              have HV1d : Hid (VAt w1.drew (gA + 1 + 1) [x0, x1, x2, x3, x4, x5, x6, x7]) := HV1.out
              have hcs2 : ∀ W, VAt W (gA + 1 + 1) [x0, x1, x2, x3, x4, x5, x6, x7] → C4 (gA + 1) (.int .i64 2) (.int .i64 13) (.int .i64 22) (.int .i64 0) W →
                  W.cell? ⟨gA + 1 + 1, 0, none⟩ = some (V32 x0) ∧ W.cell? ⟨gA + 1 + 1, 1, none⟩ = some (V32 x1) ∧ W.cell? ⟨gA + 1 + 1, 2, none⟩ = some (V32 x2) ∧ C4 (gA + 1) (.int .i64 2) (.int .i64 13) (.int .i64 22) (.int .i64 0) W := fun W h1 h2 => ⟨h1.cell 0 _ rfl, h1.cell 1 _ rfl, h1.cell 2 _ rfl, h2⟩
              have HC2 := Lib.hid hcs2
              clear hcs2 hHeld HV HA HN HS3 HW hbr kA HCS HVd HAd HWd hidx
              go_wp2
              refine wp_region_held_drew (S := (fun w' => w'.cell? ⟨gA + 1 + 1, 0, none⟩ = some (V32 x0) ∧ w'.cell? ⟨gA + 1 + 1, 1, none⟩ = some (V32 x1) ∧ w'.cell? ⟨gA + 1 + 1, 2, none⟩ = some (V32 x2) ∧ C4 (gA + 1) (.int .i64 2) (.int .i64 13) (.int .i64 22) (.int .i64 0) w')) (by kernel_rfl) (HC2.out _ HV1d.out HNd.out) (fun hHeld => ?_)
              refine held_take (i := 0) (v := ?_) rfl rfl (by kernel_rfl) (by kernel_rfl) (by kernel_rfl) (fun _ _ _ h => h) (by rfl) hHeld ?_ ?_
              rotate_left
              · rintro wh ⟨z0, z1, z2, ⟨s0, s1, s2, s3⟩⟩
                go_simp
                (try with_reducible rfl)
              simp only [Act.put, List.setIfInBounds_toArray, List.set_cons_zero, List.set_cons_succ]
              refine held_take (i := 1) (v := ?_) rfl rfl (by kernel_rfl) (by kernel_rfl) (by kernel_rfl) (fun _ _ _ h => h) (by rfl) hHeld ?_ ?_
              rotate_left
              · rintro wh ⟨z0, z1, z2, ⟨s0, s1, s2, s3⟩⟩
                go_simp
                (try with_reducible rfl)
              simp only [Act.put, List.setIfInBounds_toArray, List.set_cons_zero, List.set_cons_succ]
              refine held_take (i := 2) (v := ?_) rfl rfl (by kernel_rfl) (by kernel_rfl) (by kernel_rfl) (fun _ _ _ h => h) (by rfl) hHeld ?_ ?_
              rotate_left
              · rintro wh ⟨z0, z1, z2, ⟨s0, s1, s2, s3⟩⟩
                go_simp
                (try with_reducible rfl)
              simp only [Act.put, List.setIfInBounds_toArray, List.set_cons_zero, List.set_cons_succ]
              refine held_take (i := 4) (v := ?_) rfl rfl (by kernel_rfl) (by kernel_rfl) (by kernel_rfl) (fun _ _ _ h => h) (by rfl) hHeld ?_ ?_
              rotate_left
              · rintro wh ⟨z0, z1, z2, ⟨s0, s1, s2, s3⟩⟩
                go_simp
                (try with_reducible rfl)
              simp only [Act.put, List.setIfInBounds_toArray, List.set_cons_zero, List.set_cons_succ]
              refine held_take (i := 5) (v := ?_) rfl rfl (by kernel_rfl) (by kernel_rfl) (by kernel_rfl) (fun _ _ _ h => h) (by rfl) hHeld ?_ ?_
              rotate_left
              · rintro wh ⟨z0, z1, z2, ⟨s0, s1, s2, s3⟩⟩
                go_simp
                (try with_reducible rfl)
              simp only [Act.put, List.setIfInBounds_toArray, List.set_cons_zero, List.set_cons_succ]
              refine held_take (i := 6) (v := ?_) rfl rfl (by kernel_rfl) (by kernel_rfl) (by kernel_rfl) (fun _ _ _ h => h) (by rfl) hHeld ?_ ?_
              rotate_left
              · rintro wh ⟨z0, z1, z2, ⟨s0, s1, s2, s3⟩⟩
                go_simp
                (try with_reducible rfl)
              simp only [Act.put, List.setIfInBounds_toArray, List.set_cons_zero, List.set_cons_succ]
              refine held_take (i := 7) (v := ?_) rfl rfl (by kernel_rfl) (by kernel_rfl) (by kernel_rfl) (fun _ _ _ h => h) (by rfl) hHeld ?_ ?_
              rotate_left
              · rintro wh ⟨z0, z1, z2, ⟨s0, s1, s2, s3⟩⟩
                go_simp
                (try with_reducible rfl)
              simp only [Act.put, List.setIfInBounds_toArray, List.set_cons_zero, List.set_cons_succ]
              refine held_take (i := 8) (v := ?_) rfl rfl (by kernel_rfl) (by kernel_rfl) (by kernel_rfl) (fun _ _ _ h => h) (by rfl) hHeld ?_ ?_
              rotate_left
              · rintro wh ⟨z0, z1, z2, ⟨s0, s1, s2, s3⟩⟩
                go_simp
                (try with_reducible rfl)
              simp only [Act.put, List.setIfInBounds_toArray, List.set_cons_zero, List.set_cons_succ]
              refine held_take (i := 9) (v := ?_) rfl rfl (by kernel_rfl) (by kernel_rfl) (by kernel_rfl) (fun _ _ _ h => h) (by rfl) hHeld ?_ ?_
              rotate_left
              · rintro wh ⟨z0, z1, z2, ⟨s0, s1, s2, s3⟩⟩
                go_simp
                (try with_reducible rfl)
              simp only [Act.put, List.setIfInBounds_toArray, List.set_cons_zero, List.set_cons_succ]
              refine held_take (i := 10) (v := ?_) rfl rfl (by kernel_rfl) (by kernel_rfl) (by kernel_rfl) (fun _ _ _ h => h) (by rfl) hHeld ?_ ?_
              rotate_left
              · rintro wh ⟨z0, z1, z2, ⟨s0, s1, s2, s3⟩⟩
                go_simp
                (try with_reducible rfl)
              simp only [Act.put, List.setIfInBounds_toArray, List.set_cons_zero, List.set_cons_succ]
              refine held_take (i := 11) (v := ?_) rfl rfl (by kernel_rfl) (by kernel_rfl) (by kernel_rfl) (fun _ _ _ h => h) (by rfl) hHeld ?_ ?_
              rotate_left
              · rintro wh ⟨z0, z1, z2, ⟨s0, s1, s2, s3⟩⟩
                go_simp
                (try with_reducible rfl)
              simp only [Act.put, List.setIfInBounds_toArray, List.set_cons_zero, List.set_cons_succ]
              refine held_take (i := 12) (v := ?_) rfl rfl (by kernel_rfl) (by kernel_rfl) (by kernel_rfl) (fun _ _ _ h => h) (by rfl) hHeld ?_ ?_
              rotate_left
              · rintro wh ⟨z0, z1, z2, ⟨s0, s1, s2, s3⟩⟩
                go_simp
                (try with_reducible rfl)
              simp only [Act.put, List.setIfInBounds_toArray, List.set_cons_zero, List.set_cons_succ]
              refine held_take (i := 13) (v := ?_) rfl rfl (by kernel_rfl) (by kernel_rfl) (by kernel_rfl) (fun _ _ _ h => h) (by rfl) hHeld ?_ ?_
              rotate_left
              · rintro wh ⟨z0, z1, z2, ⟨s0, s1, s2, s3⟩⟩
                go_simp
                (try with_reducible rfl)
              simp only [Act.put, List.setIfInBounds_toArray, List.set_cons_zero, List.set_cons_succ]
              refine held_take (i := 14) (v := ?_) rfl rfl (by kernel_rfl) (by kernel_rfl) (by kernel_rfl) (fun _ _ _ h => h) (by rfl) hHeld ?_ ?_
              rotate_left
              · rintro wh ⟨z0, z1, z2, ⟨s0, s1, s2, s3⟩⟩
                go_simp
                (try with_reducible rfl)
              simp only [Act.put, List.setIfInBounds_toArray, List.set_cons_zero, List.set_cons_succ]
              refine held_take (i := 15) (v := ?_) rfl rfl (by kernel_rfl) (by kernel_rfl) (by kernel_rfl) (fun _ _ _ h => h) (by rfl) hHeld ?_ ?_
              rotate_left
              · rintro wh ⟨z0, z1, z2, ⟨s0, s1, s2, s3⟩⟩
                go_simp
                (try with_reducible rfl)
              simp only [Act.put, List.setIfInBounds_toArray, List.set_cons_zero, List.set_cons_succ]
              refine held_take (i := 16) (v := ?_) rfl rfl (by kernel_rfl) (by kernel_rfl) (by kernel_rfl) (fun _ _ _ h => h) (by rfl) hHeld ?_ ?_
              rotate_left
              · rintro wh ⟨z0, z1, z2, ⟨s0, s1, s2, s3⟩⟩
                go_simp
                (try with_reducible rfl)
              simp only [Act.put, List.setIfInBounds_toArray, List.set_cons_zero, List.set_cons_succ]
              refine held_take (i := 17) (v := ?_) rfl rfl (by kernel_rfl) (by kernel_rfl) (by kernel_rfl) (fun _ _ _ h => h) (by rfl) hHeld ?_ ?_
              rotate_left
              · rintro wh ⟨z0, z1, z2, ⟨s0, s1, s2, s3⟩⟩
                go_simp
                (try with_reducible rfl)
              simp only [Act.put, List.setIfInBounds_toArray, List.set_cons_zero, List.set_cons_succ]
              refine held_take (i := 18) (v := ?_) rfl rfl (by kernel_rfl) (by kernel_rfl) (by kernel_rfl) (fun _ _ _ h => h) (by rfl) hHeld ?_ ?_
              rotate_left
              · rintro wh ⟨z0, z1, z2, ⟨s0, s1, s2, s3⟩⟩
                go_simp
                (try with_reducible rfl)
              simp only [Act.put, List.setIfInBounds_toArray, List.set_cons_zero, List.set_cons_succ]
              refine held_take (i := 19) (v := ?_) rfl rfl (by kernel_rfl) (by kernel_rfl) (by kernel_rfl) (fun _ _ _ h => h) (by rfl) hHeld ?_ ?_
              rotate_left
              · rintro wh ⟨z0, z1, z2, ⟨s0, s1, s2, s3⟩⟩
                go_simp
                (try with_reducible rfl)
              simp only [Act.put, List.setIfInBounds_toArray, List.set_cons_zero, List.set_cons_succ]
              refine held_take (i := 20) (v := ?_) rfl rfl (by kernel_rfl) (by kernel_rfl) (by kernel_rfl) (fun _ _ _ h => h) (by rfl) hHeld ?_ ?_
              rotate_left
              · rintro wh ⟨z0, z1, z2, ⟨s0, s1, s2, s3⟩⟩
                go_simp
                (try with_reducible rfl)
              simp only [Act.put, List.setIfInBounds_toArray, List.set_cons_zero, List.set_cons_succ]
              refine held_call (i := 3) rfl (by kernel_rfl) (by rfl) (fun K hK => ?_)
              (go_simp; go_at_call 111; refine (kN _).mono ?_; rintro e w2 ⟨rfl, hb2⟩; have HV2 := Lib.hid (HV1d.out.later hb2); have HN2 := Lib.hid (HNd.out.later hb2 (by show gA + 1 < w1.heap.size; omega)))
              refine hK.out _ _ (HC2.out _ HV2.out HN2.out) (fun hHeld => ?_)
              clear hK K
              (try simp only [Act.put, List.setIfInBounds_toArray, List.set_cons_zero, List.set_cons_succ])
              refine held_take (i := 21) (v := ?_) rfl rfl (by kernel_rfl) (by kernel_rfl) (by kernel_rfl) (fun _ _ _ h => h) (by rfl) hHeld ?_ ?_
              rotate_left
              · rintro wh ⟨z0, z1, z2, ⟨s0, s1, s2, s3⟩⟩
                go_simp
                (try with_reducible rfl)
              simp only [Act.put, List.setIfInBounds_toArray, List.set_cons_zero, List.set_cons_succ]
              refine held_take (i := 22) (v := ?_) rfl rfl (by kernel_rfl) (by kernel_rfl) (by kernel_rfl) (fun _ _ _ h => h) (by rfl) hHeld ?_ ?_
              rotate_left
              · rintro wh ⟨z0, z1, z2, ⟨s0, s1, s2, s3⟩⟩
                go_simp
                (try with_reducible rfl)
              simp only [Act.put, List.setIfInBounds_toArray, List.set_cons_zero, List.set_cons_succ]
              refine wpAnyH_done (by kernel_rfl) ?_ _
              clear f1 f2 f3 f4 f5 f6
              have hlt2 := Nat.lt_of_lt_of_le hlt1 hb2.size
              have HA2 := Lib.hid (HA1.out.later (bl_drewN (Below.refl w1.heap.size w1) 1) (by omega) |>.later hb2 (by show gA < w1.heap.size; omega))
              have HW2 := Lib.hid ((HW1.out.later (bl_drewN (Below.refl w1.heap.size w1) 1)).later hb2)
              have HS2 := Lib.hid ((HS1.out.later (bl_drewN (Below.refl w1.heap.size w1) 1)).later hb2)
              have hbr2 := (hbr1.drew).trans (hb2.mono hbr1.size)
              clear hHeld HV1 HA1 HN1 HS1 HW1 hbr1 kN HC2 HNd HV1d hb1 hb2 hlt3 hlt1
              have HV2d : Hid (VAt w2.drew (gA + 1 + 1) [x0, x1, x2, x3, x4, x5, x6, x7]) := HV2.out
              have hv2h := HV2d.out.2
              have HV2s := Lib.hid HV2d.out.src
              have HH2 := Lib.hid hv2h
              clear hv2h
              go_wp2
              refine wp_region_held_drew (S := (fun _ => True)) (by kernel_rfl) trivial (fun hHeld => ?_)
              refine held_take (i := 0) (v := ?_) rfl rfl (by kernel_rfl) (by kernel_rfl) (by kernel_rfl) (fun _ _ _ h => h) (by rfl) hHeld ?_ ?_
              rotate_left
              · rintro wh _
                go_simp
                (try with_reducible rfl)
              simp only [Act.put, List.setIfInBounds_toArray, List.set_cons_zero, List.set_cons_succ]
              refine held_take (i := 1) (v := ?_) rfl rfl (by kernel_rfl) (by kernel_rfl) (by kernel_rfl) (fun _ _ _ h => h) (by rfl) hHeld ?_ ?_
              rotate_left
              · rintro wh _
                go_simp
                (try with_reducible rfl)
              simp only [Act.put, List.setIfInBounds_toArray, List.set_cons_zero, List.set_cons_succ]
              refine held_step (i := 2) rfl (by kernel_rfl) (fun K hK => ?_)
              (refine step_copy_splice rfl (.tmp 146) (.tmp 147) 176 176 rfl 32 Try.underlying176 (by kernel_rfl) (some ⟨gA + 1 + 1, 1, none⟩) (some ⟨gA + 1 + 1, 0, none⟩) 7 7 7 8 rfl rfl (gA + 1 + 1) 1 [V32 x0, V32 x1, V32 x2, V32 x3, V32 x4, V32 x5, V32 x6, V32 x7] 121 HH2.out [V32 x0, V32 x1, V32 x2, V32 x3, V32 x4, V32 x5, V32 x6] rfl (fun _ => ⟨rfl, _, rfl, HV2s.out⟩) (by simp) (by simp [Value.oneCell']) (gA + 1 + 1) w2 ((Below.refl _ _).drew) (Nat.le_refl _) ?_; intro w4 hg4 hb4)
              refine hK.out _ _ trivial (fun hHeld => ?_)
              clear hK K
              (try simp only [Act.put, List.setIfInBounds_toArray])
              refine wpAnyH_done (by kernel_rfl) ?_ _
              have HV4 : Hid (VAt w4 (gA + 1 + 1) [x0, x0, x1, x2, x3, x4, x5, x6]) := ⟨rfl, hg4.out⟩
              have HA4 := Lib.hid (HA2.out.of_heap (hb4.block gA (by omega)))
              have HN4 := Lib.hid (HN2.out.of_heap (hb4.block (gA + 1) (by omega)))
              have HW4 := Lib.hid (HW2.out.of_heap (hb4.block w.heap.size (by omega)))
              have HS4 := Lib.hid (HS2.out.of_heap (hb4.block p (by omega)))
              have hlt4 := Nat.lt_of_lt_of_le hlt2 hb4.size
              have hbr4 := hbr2.trans (hb4.mono (by omega))
              have d4 := HV4.out.cell 4 x3 rfl
              have f4 := HV4.out.free 4
              have HV5 := Lib.hid (HV4.out.put 4 ((x3 + T) % 4294967296))
              clear hHeld HV2 HA2 HN2 HW2 HS2 HV2d HV2s HH2 hg4 hb4 hbr2 hlt2
              go_upto_region 20 with fail
              have HA5 := Lib.hid (HA4.out.of_heap (heap_else w4 (gA + 1 + 1) 4 gA (V32 ((x3 + T) % 4294967296)) (by omega)))
              have HN5 := Lib.hid (HN4.out.of_heap (heap_else w4 (gA + 1 + 1) 4 (gA + 1) (V32 ((x3 + T) % 4294967296)) (by omega)))
              have HW5 := Lib.hid (HW4.out.of_heap (heap_else w4 (gA + 1 + 1) 4 w.heap.size (V32 ((x3 + T) % 4294967296)) (by omega)))
              have HS5 := Lib.hid (HS4.out.of_heap (heap_else w4 (gA + 1 + 1) 4 p (V32 ((x3 + T) % 4294967296)) (by omega)))
              have hbr5 := hbr4.trans (below_setCell (B := w.heap.size) w4 (gA + 1 + 1) 4 (V32 ((x3 + T) % 4294967296)) (by omega))
              have hlt5 : gA + 1 + 1 < (w4.setCell ⟨gA + 1 + 1, 4, none⟩ (V32 ((x3 + T) % 4294967296))).heap.size := by rw [World.size_setCell]; exact hlt4
              clear d4 f4 HV4 HA4 HN4 HW4 HS4 hbr4 hlt4
              generalize w4.setCell ⟨gA + 1 + 1, 4, none⟩ (V32 ((x3 + T) % 4294967296)) = w5 at *
              have d0 := HV5.out.cell 0 x0 rfl
              have f0 := HV5.out.free 0
              have HV6 : Hid (VAt (w5.setCell ⟨gA + 1 + 1, 0, none⟩ (V32 ((T + U) % 4294967296))) (gA + 1 + 1) (roundsL WL [h0, h1, h2, h3, h4, h5, h6, h7] (k + 1))) := by rw [HR.out]; exact HV5.out.put 0 ((T + U) % 4294967296)
              have HA6 := Lib.hid (HA5.out.of_heap (heap_else w5 (gA + 1 + 1) 0 gA (V32 ((T + U) % 4294967296)) (by omega)))
              have HN6 := Lib.hid (HN5.out.of_heap (heap_else w5 (gA + 1 + 1) 0 (gA + 1) (V32 ((T + U) % 4294967296)) (by omega)))
              have HW6 := Lib.hid (HW5.out.of_heap (heap_else w5 (gA + 1 + 1) 0 w.heap.size (V32 ((T + U) % 4294967296)) (by omega)))
              have HS6 := Lib.hid (HS5.out.of_heap (heap_else w5 (gA + 1 + 1) 0 p (V32 ((T + U) % 4294967296)) (by omega)))
              have hbr6 := hbr5.trans (below_setCell (B := w.heap.size) w5 (gA + 1 + 1) 0 (V32 ((T + U) % 4294967296)) (by omega))
              have hlt6 : gA + 1 + 1 < (w5.setCell ⟨gA + 1 + 1, 0, none⟩ (V32 ((T + U) % 4294967296))).heap.size := by rw [World.size_setCell]; exact hlt5
              clear HV5 HA5 HN5 HW5 HS5 hbr5 hlt5
              go_wp2
              go_roundw
              case rel => exact ⟨k + 1, by omega, by go_num, HW6, HV6, HA6, HN6, HS6, hlt6, hbr6⟩
              case measure => (simp [intOf]; try omega)
            · obtain rfl : k = 64 := by omega
              rw [show ((64 : Nat) : Int) = 64 from rfl]
              have HVl := HV.out.1
              obtain ⟨UL, hUL⟩ : ∃ u, roundsL WL [h0, h1, h2, h3, h4, h5, h6, h7] 64 = u := ⟨_, rfl⟩
              obtain ⟨VL, hVL⟩ : ∃ v, [h0, h1, h2, h3, h4, h5, h6, h7] = v := ⟨_, rfl⟩
              have HUL : Hid (blockL bs [h0, h1, h2, h3, h4, h5, h6, h7] = addL VL UL) := by show _ = _; unfold blockL; rw [HWL.out, hUL, hVL]
              rw [hUL] at HV HVl
              rw [hVL] at HS3
              have hg := below_grown hbr (some p)
              have HVg := Lib.hid HV.out
              have HSg : Hid (SumAt wr p (partL VL UL 0) rv cnt) := by rw [partL_zero HS3.out.1]; exact HS3
              have hgvp : gA + 1 + 1 ≠ p := by omega
              clear HV HS3 HW HA HN hUL hVL hbr
              go_wp2
              go_loopw [159] (fun i wr => ∃ k : Nat, k ≤ 8 ∧ i = .int .i64 k ∧ Hid (SumAt wr p (partL VL UL k) rv cnt) ∧ Hid (VAt wr (gA + 1 + 1) UL) ∧ w.grownBy wr (some p)) (fun i _ => 8 - (intOf i).toNat)
              case atStart => exact ⟨0, Nat.zero_le _, rfl, HSg, HVg, hg⟩
              case round =>
                obtain ⟨k, hk, rfl, HS, HV, hg⟩ := hrel
                by_cases hkl : k < 8
                · obtain ⟨x, hx⟩ : ∃ x, VL.getD k 0 = x := ⟨_, rfl⟩
                  obtain ⟨y, hy⟩ : ∃ y, UL.getD k 0 = y := ⟨_, rfl⟩
                  obtain ⟨z, hz⟩ : ∃ z, (x + y) % 4294967296 = z := ⟨_, rfl⟩
                  have HN : Hid ((partL VL UL k).set k z = partL VL UL (k + 1)) := by show _ = _; rw [← hz, ← hx, ← hy]; exact partL_succ VL UL k hkl
                  have c1 : wr.cell? ⟨p, k, none⟩ = some (V32 x) := by rw [HS.out.word k hkl, partL_at _ _ k hkl, hx]
                  have c2 : wr.cell? ⟨gA + 1 + 1, k, none⟩ = some (V32 y) := HV.out.cell k y (by rw [← hy, List.getD_eq_getElem?_getD, List.getElem?_eq_getElem (by rw [HV.out.1]; exact hkl)]; rfl)
                  have hwz : IntKind.u32.wrap (x + y) = z := by rw [IntKind.wrap_u32']; exact hz
                  have hI : (k : Int) < 8 := by omega
                  clear hx hy hz
                  go_wp2
                  go_still_tail 13, (by kernel_rfl)
                  have HSd : Hid (SumAt wr.drew p (partL VL UL k) rv cnt) := HS.out
                  have HVd : Hid (VAt wr.drew (gA + 1 + 1) UL) := HV.out
                  have hgd : w.grownBy wr.drew (some p) := grown_two hg (below_grown ((Below.refl _ _).drew) (some p))
                  change wpList _ _ _ _ _ wr.drew
                  clear HS HV hg c2
                  have c1 : wr.drew.cell? ⟨p, k, none⟩ = some (V32 x) := c1
                  generalize wr.drew = w2 at *
                  have f1 := HSd.out.free k
                  have HS2 : Hid (SumAt (w2.setCell ⟨p, k, none⟩ (V32 z)) p (partL VL UL (k + 1)) rv cnt) := by rw [← HN.out]; exact HSd.out.put k hkl z
                  have HV2 := Lib.hid (HVd.out.of_heap (heap_else w2 p k (gA + 1 + 1) (V32 z) hgvp))
                  have hg2 := grown_two hgd (grown_setCell w2 p k (V32 z))
                  go_wp2
                  go_roundw
                  case rel => exact ⟨k + 1, by omega, by go_num, HS2, HV2, hg2⟩
                  case measure => (simp [intOf]; try omega)
                · obtain rfl : k = 8 := by omega
                  rw [partL_all] at HS
                  go_wp2
                  go_end0
                  exact ⟨rfl, by rw [HUL.out]; exact HS.out, hg⟩
end Go.Proofs.Ytipnhpfpppblhaa
