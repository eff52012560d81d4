/- AlertSees: the card: whatever the arguments, the law returns true and its arguments read as they did. No condition. -/
import Derived.Test.YtipnhpfpppblhaaTopAlertSeesCardP1
import Derived.Laws.CopyOwn
import Derived.StillTailTactics
import Derived.Deep.DeepCutAuto
import Derived.Test.YtipnhpfpppblhaaAppRd
import Derived.Deep.RegionHeld3
import Derived.Test.YtipnhpfpppblhaaHeldS
import Derived.Lib.SliceRun
import Derived.Shelf.Spec.SlicesGrow
import Derived.Test.YtipnhpfpppblhaaBox
import Derived.Test.YtipnhpfpppblhaaShelf
import Derived.Laws.AppendOwn
import Derived.Deep.LoopGhost
import Derived.Lib.ConvBytes
import Derived.Lib.JoinLaws
import Derived.Laws.Tables
import Derived.Great.Walk
import Derived.Test.YtipnhpfpppblhaaFields
import Derived.Test.YtipnhpfpppblhaaBox2
import Derived.Test.YtipnhpfpppblhaaAlRight
import Derived.Test.YtipnhpfpppblhaaAls
import Derived.Test.YtipnhpfpppblhaaRefJ
import Derived.Maps.RangeWalk
import Derived.Test.YtipnhpfpppblhaaHeld
import Derived.Test.YtipnhpfpppblhaaAlCut
import Derived.Maps.OwnSet

/- digest.Sum.round: a contract. -/
namespace Go.Proofs.Ytipnhpfpppblhaa
open Go.RowKit
def WAt (w : World) (g : Nat) (S : List Int) : Prop := S.length ≤ 64 ∧ w.heap[g]? = some (.cells ((S.map V32 ++ List.replicate (64 - S.length) (V32 0)).toArray) 123 (0, 0))
theorem WAt.later {w w' : World} {g : Nat} {S : List Int} (h : WAt w g S) (hb : Below w.heap.size w w') : WAt w' g S :=
  ⟨h.1, by rw [hb.block g (Array.getElem?_eq_some_iff.1 h.2).1]; exact h.2⟩
theorem WAt.lt {w : World} {g : Nat} {S : List Int} (h : WAt w g S) : g < w.heap.size := (Array.getElem?_eq_some_iff.1 h.2).1
theorem cell_row {w : World} {p j : Nat} {cs : Array Value} {t : TypeId} {fr : Nat × Nat} (h : w.heap[p]? = some (.cells cs t fr)) : w.cell? ⟨p, j, none⟩ = cs[j]? := by
  simp [World.cell?, h]
theorem WAt.cell {w : World} {g : Nat} {S : List Int} (h : WAt w g S) (j : Nat) (hj : j < S.length) : w.cell? ⟨g, j, none⟩ = some (V32 S[j]) := by
  rw [cell_row h.2, List.getElem?_toArray, List.getElem?_append_left (by simpa using hj), List.getElem?_map, List.getElem?_eq_getElem hj]; rfl
theorem WAt.free {w : World} {g : Nat} {S : List Int} (h : WAt w g S) (j : Nat) : w.frozen? ⟨g, j, none⟩ = false := by simp [World.frozen?, h.2]
theorem WAt.old {w : World} {g : Nat} {S : List Int} (h : WAt w g S) (hj : S.length < 64) : w.cell? ⟨g, S.length, none⟩ = some (V32 0) := by
  rw [cell_row h.2, List.getElem?_toArray, List.getElem?_append_right (by simp)]
  rw [List.length_map, Nat.sub_self, List.getElem?_replicate, if_pos (by omega)]
theorem WAt.store {w : World} {g : Nat} {S : List Int} (h : WAt w g S) (hj : S.length < 64) (x : Int) : WAt (w.setCell ⟨g, S.length, none⟩ (V32 x)) g (S ++ [x]) := by
  refine ⟨by simp; omega, ?_⟩
  rw [heap_setCell_same w g S.length _ _ _ h.2]
  have e : 64 - S.length = (64 - (S ++ [x]).length) + 1 := by simp; omega
  rw [e, List.replicate_succ]
  congr 2
  simp [List.setIfInBounds_toArray]
theorem below_setCell {B : Nat} (w : World) (g j : Nat) (v : Value) (hB : B ≤ g) : Below B w (w.setCell ⟨g, j, none⟩ v) :=
  ⟨rfl, rfl, rfl, by simp [World.setCell], fun k hk => by have := Below.heap_setCell w ⟨g, j, none⟩ v k (by show k ≠ g; omega); exact this⟩
def word4 (a b c d : Int) : Int := bits BinOp.or .u32 (bits BinOp.or .u32 (bits BinOp.or .u32 (a * 16777216 % 4294967296) (b * 65536 % 4294967296)) (c * 256 % 4294967296)) d
def wordAt (bs : List Int) (k : Nat) : Int := word4 (bs.getD (4 * k) 0) (bs.getD (4 * k + 1) 0) (bs.getD (4 * k + 2) 0) (bs.getD (4 * k + 3) 0)
def wordsL (bs : List Int) (k : Nat) : List Int := (List.range k).map (wordAt bs)
theorem wordsL_succ (bs : List Int) (k : Nat) : wordsL bs (k + 1) = wordsL bs k ++ [wordAt bs k] := by simp [wordsL, List.range_succ]
theorem wordsL_len (bs : List Int) (k : Nat) : (wordsL bs k).length = k := by simp [wordsL]
def Bytes8 (w : World) (a : Addr) (bs : List Int) : Prop := ∃ b o, a = ⟨b, o, none⟩ ∧ b < w.heap.size ∧ ∀ j (h : j < bs.length), w.cell? ⟨b, o + j, none⟩ = some (.int .u8 bs[j]) ∧ 0 ≤ bs[j] ∧ bs[j] < 256
def nextW (S : List Int) : Int :=
  (((S.getD (S.length - 16) 0 + mixW 7 18 0 3 (S.getD (S.length - 15) 0)) % 4294967296 + S.getD (S.length - 7) 0) % 4294967296 + mixW 17 19 0 10 (S.getD (S.length - 2) 0)) % 4294967296
def schedL (bs : List Int) : Nat → List Int
  | 0 => wordsL bs 16
  | k + 1 => schedL bs k ++ [nextW (schedL bs k)]
theorem schedL_len (bs : List Int) (k : Nat) : (schedL bs k).length = 16 + k := by
  induction k with
  | zero => exact wordsL_len bs 16
  | succ k ih => rw [schedL, List.length_append, ih]; simp; omega
def C4 (p : Nat) (a b c d : Value) (W : World) : Prop := W.cell? ⟨p, 0, none⟩ = some a ∧ W.cell? ⟨p, 1, none⟩ = some b ∧ W.cell? ⟨p, 2, none⟩ = some c ∧ W.cell? ⟨p, 3, none⟩ = some d
theorem C4.later {p : Nat} {a b c d : Value} {W W' : World} (h : C4 p a b c d W) (hb : Below W.heap.size W W') (hp : p < W.heap.size) : C4 p a b c d W' :=
  ⟨keep_cell h.1 hb hp, keep_cell h.2.1 hb hp, keep_cell h.2.2.1 hb hp, keep_cell h.2.2.2 hb hp⟩
theorem C4.beside {p g j : Nat} {a b c d v : Value} {W : World} (h : C4 p a b c d W) (hne : p ≠ g) : C4 p a b c d (W.setCell ⟨g, j, none⟩ v) := by
  obtain ⟨h0, h1, h2, h3⟩ := h
  refine ⟨?_, ?_, ?_, ?_⟩ <;> (rw [World.cell?_setCell_far _ _ _ _ (by show g ≠ p; omega)]; assumption)
def SumAt (w : World) (p : Nat) (V : List Int) (rv : Value) (cnt : Int) : Prop := V.length = 8 ∧ w.heap[p]? = some (.cells (V.map V32 ++ [rv, .int .i64 cnt]).toArray 162 (0, 0))
theorem SumAt.later {w w' : World} {p : Nat} {V : List Int} {rv : Value} {cnt : Int} (h : SumAt w p V rv cnt) (hb : Below w.heap.size w w') : SumAt w' p V rv cnt :=
  ⟨h.1, by rw [hb.block p (Array.getElem?_eq_some_iff.1 h.2).1]; exact h.2⟩
theorem SumAt.lt {w : World} {p : Nat} {V : List Int} {rv : Value} {cnt : Int} (h : SumAt w p V rv cnt) : p < w.heap.size := (Array.getElem?_eq_some_iff.1 h.2).1
theorem SumAt.word {w : World} {p : Nat} {V : List Int} {rv : Value} {cnt : Int} (h : SumAt w p V rv cnt) (j : Nat) (hj : j < 8) : w.cell? ⟨p, j, none⟩ = some (V32 (V.getD j 0)) := by
  have hl := h.1
  rw [cell_row h.2, List.getElem?_toArray, List.getElem?_append_left (by simp; omega), List.getElem?_map, List.getD_eq_getElem?_getD, List.getElem?_eq_getElem (by omega)]; rfl
theorem SumAt.rest {w : World} {p : Nat} {V : List Int} {rv : Value} {cnt : Int} (h : SumAt w p V rv cnt) : w.cell? ⟨p, 8, none⟩ = some rv := by
  have hl := h.1
  rw [cell_row h.2, List.getElem?_toArray, List.getElem?_append_right (by simp; omega)]; simp [hl]
theorem SumAt.count {w : World} {p : Nat} {V : List Int} {rv : Value} {cnt : Int} (h : SumAt w p V rv cnt) : w.cell? ⟨p, 9, none⟩ = some (.int .i64 cnt) := by
  have hl := h.1
  rw [cell_row h.2, List.getElem?_toArray, List.getElem?_append_right (by simp; omega)]; simp [hl]
theorem SumAt.free {w : World} {p : Nat} {V : List Int} {rv : Value} {cnt : Int} (h : SumAt w p V rv cnt) (j : Nat) : w.frozen? ⟨p, j, none⟩ = false := by simp [World.frozen?, h.2]
theorem SumAt.put {w : World} {p : Nat} {V : List Int} {rv : Value} {cnt : Int} (h : SumAt w p V rv cnt) (j : Nat) (hj : j < 8) (x : Int) : SumAt (w.setCell ⟨p, j, none⟩ (V32 x)) p (V.set j x) rv cnt := by
  have hl := h.1
  refine ⟨by simp [hl], ?_⟩
  rw [heap_setCell_same w p j _ _ _ h.2]
  congr 2
  rw [List.setIfInBounds_toArray, List.set_append_left _ _ (by simp; omega), List.map_set]
def tL (m : Int) (v4 v5 v6 v7 k x : Int) : Int := IntKind.u32.wrap (IntKind.u32.wrap (IntKind.u32.wrap (IntKind.u32.wrap (v7 + m) + bits BinOp.xor .u32 (bits BinOp.and .u32 v4 v5) (bits BinOp.and .u32 (bits BinOp.xor .u32 (if IntKind.u32.signed = true then -1 else IntKind.u32.max) v4) v6)) + k) + x)
def uL (m : Int) (v0 v1 v2 : Int) : Int := IntKind.u32.wrap (m + bits BinOp.xor .u32 (bits BinOp.xor .u32 (bits BinOp.and .u32 v0 v1) (bits BinOp.and .u32 v0 v2)) (bits BinOp.and .u32 v1 v2))
def roundL : List Int → Int → Int → List Int
  | [v0, v1, v2, v3, v4, v5, v6, v7], k, x =>
    [(tL (mixW 6 11 25 0 v4) v4 v5 v6 v7 k x + uL (mixW 2 13 22 0 v0) v0 v1 v2) % 4294967296, v0, v1, v2, (v3 + tL (mixW 6 11 25 0 v4) v4 v5 v6 v7 k x) % 4294967296, v4, v5, v6]
  | v, _, _ => v
def roundsL (W V : List Int) : Nat → List Int
  | 0 => V
  | k + 1 => roundL (roundsL W V k) (keyL k) (W.getD k 0)
def VAt (w : World) (g : Nat) (v : List Int) : Prop := v.length = 8 ∧ w.heap[g]? = some (.cells (v.map V32).toArray 121 (0, 0))
theorem VAt.later {w w' : World} {g : Nat} {v : List Int} (h : VAt w g v) (hb : Below w.heap.size w w') : VAt w' g v :=
  ⟨h.1, by rw [hb.block g (Array.getElem?_eq_some_iff.1 h.2).1]; exact h.2⟩
theorem VAt.cell {w : World} {g : Nat} {v : List Int} (h : VAt w g v) (j : Nat) (x : Int) (hj : v[j]? = some x) : w.cell? ⟨g, j, none⟩ = some (V32 x) := by
  rw [cell_row h.2, List.getElem?_toArray, List.getElem?_map, hj]; rfl
theorem VAt.free {w : World} {g : Nat} {v : List Int} (h : VAt w g v) (j : Nat) : w.frozen? ⟨g, j, none⟩ = false := by simp [World.frozen?, h.2]
theorem VAt.put {w : World} {g : Nat} {v : List Int} (h : VAt w g v) (j : Nat) (x : Int) : VAt (w.setCell ⟨g, j, none⟩ (V32 x)) g (v.set j x) := by
  refine ⟨by simp [h.1], ?_⟩
  rw [heap_setCell_same w g j _ _ _ h.2, List.setIfInBounds_toArray, List.map_set]
theorem VAt.src {w : World} {g : Nat} {x0 x1 x2 x3 x4 x5 x6 x7 : Int} (h : VAt w g [x0, x1, x2, x3, x4, x5, x6, x7]) : ∀ j v, [V32 x0, V32 x1, V32 x2, V32 x3, V32 x4, V32 x5, V32 x6][j]? = some v → w.cell? ((⟨g, 0, none⟩ : Addr).add j) = some v := by
  intro j v hj
  rw [Addr.add_mid, Nat.zero_add]
  match j, hj with
  | 0, hj => exact (h.cell 0 _ rfl).trans hj
  | 1, hj => exact (h.cell 1 _ rfl).trans hj
  | 2, hj => exact (h.cell 2 _ rfl).trans hj
  | 3, hj => exact (h.cell 3 _ rfl).trans hj
  | 4, hj => exact (h.cell 4 _ rfl).trans hj
  | 5, hj => exact (h.cell 5 _ rfl).trans hj
  | 6, hj => exact (h.cell 6 _ rfl).trans hj
  | j + 7, hj => simp at hj
theorem heap_else (w : World) (g j k : Nat) (v : Value) (h : k ≠ g) : (w.setCell ⟨g, j, none⟩ v).heap[k]? = w.heap[k]? := Below.heap_setCell w ⟨g, j, none⟩ v k h
theorem WAt.of_heap {w w' : World} {g : Nat} {S : List Int} (h : WAt w g S) (he : w'.heap[g]? = w.heap[g]?) : WAt w' g S := ⟨h.1, he.trans h.2⟩
theorem VAt.of_heap {w w' : World} {g : Nat} {S : List Int} (h : VAt w g S) (he : w'.heap[g]? = w.heap[g]?) : VAt w' g S := ⟨h.1, he.trans h.2⟩
theorem SumAt.of_heap {w w' : World} {p : Nat} {V : List Int} {rv : Value} {cnt : Int} (h : SumAt w p V rv cnt) (he : w'.heap[p]? = w.heap[p]?) : SumAt w' p V rv cnt := ⟨h.1, he.trans h.2⟩
theorem C4.of_heap {p : Nat} {a b c d : Value} {W W' : World} (h : C4 p a b c d W) (he : W'.heap[p]? = W.heap[p]?) : C4 p a b c d W' := by
  have hk : ∀ j, W'.cell? ⟨p, j, none⟩ = W.cell? ⟨p, j, none⟩ := fun j => World.cell?_of_block (a := ⟨p, j, none⟩) he
  exact ⟨(hk 0).trans h.1, (hk 1).trans h.2.1, (hk 2).trans h.2.2.1, (hk 3).trans h.2.2.2⟩
theorem grown_two {w w1 w2 : World} {r : Option Nat} (h1 : w.grownBy w1 r) (h2 : w1.grownBy w2 r) : w.grownBy w2 r :=
  ⟨h2.os.trans h1.os, h2.tape.trans h1.tape, h2.output.trans h1.output, Nat.le_trans h1.size h2.size, fun k hk hr => (h2.block k (Nat.lt_of_lt_of_le hk h1.size) hr).trans (h1.block k hk hr)⟩
theorem grown_setCell (w : World) (p i : Nat) (v : Value) : w.grownBy (w.setCell ⟨p, i, none⟩ v) (some p) := ⟨rfl, rfl, rfl, by simp, fun k _ hne => Below.heap_setCell w ⟨p, i, none⟩ v k (fun e => hne (by rw [e]))⟩
theorem three_boxes {w W : World} {xs ys zs : Array Value} {t u v : TypeId} (hb : Below (((w.alloc (.cells xs t)).alloc (.cells ys u)).alloc (.cells zs v)).heap.size (((w.alloc (.cells xs t)).alloc (.cells ys u)).alloc (.cells zs v)) W) :
    Below w.heap.size w W ∧ W.heap[w.heap.size + 1 + 1]? = some (.cells zs v (0, 0)) ∧ (xs.size = 4 → C4 w.heap.size (xs.getD 0 undef) (xs.getD 1 undef) (xs.getD 2 undef) (xs.getD 3 undef) W) ∧ (ys.size = 4 → C4 (w.heap.size + 1) (ys.getD 0 undef) (ys.getD 1 undef) (ys.getD 2 undef) (ys.getD 3 undef) W) ∧ w.heap.size + 1 + 1 < W.heap.size := by
  have hs : (((w.alloc (.cells xs t)).alloc (.cells ys u)).alloc (.cells zs v)).heap.size = w.heap.size + 1 + 1 + 1 := by rw [World.size_alloc, World.size_alloc, World.size_alloc]
  obtain ⟨h1, h2, h3⟩ := box_cells hb
  obtain ⟨h4, h5, h6, h7⟩ := box_two h3
  refine ⟨h7, ?_, fun hx => ⟨h4 0 _ (by simp [hx]), h4 1 _ (by simp [hx]), h4 2 _ (by simp [hx]), h4 3 _ (by simp [hx])⟩, fun hx => ⟨h5 0 _ (by simp [hx]), h5 1 _ (by simp [hx]), h5 2 _ (by simp [hx]), h5 3 _ (by simp [hx])⟩, by rw [World.size_alloc, World.size_alloc] at h2; exact h2⟩
  rw [hb.block (w.heap.size + 1 + 1) (by omega)]
  have := heap_alloc_new ((w.alloc (.cells xs t)).alloc (.cells ys u)) (.cells zs v)
  rwa [World.size_alloc, World.size_alloc] at this
def addL (V U : List Int) : List Int := (List.range 8).map fun i => (V.getD i 0 + U.getD i 0) % 4294967296
def partL (V U : List Int) (k : Nat) : List Int := (List.range 8).map fun i => if i < k then (V.getD i 0 + U.getD i 0) % 4294967296 else V.getD i 0
theorem partL_zero {V U : List Int} (h : V.length = 8) : partL V U 0 = V := by
  match V, h with
  | [a, b, c, d, e, f, g, h], _ => rfl
theorem partL_all (V U : List Int) : partL V U 8 = addL V U := by
  unfold partL addL
  exact List.map_congr_left (fun i hi => by rw [if_pos (List.mem_range.1 hi)])
theorem partL_at (V U : List Int) (k : Nat) (hk : k < 8) : (partL V U k).getD k 0 = V.getD k 0 := by
  unfold partL
  rw [List.getD_eq_getElem?_getD, List.getElem?_map, List.getElem?_range hk]; simp
theorem partL_succ (V U : List Int) (k : Nat) (hk : k < 8) : (partL V U k).set k ((V.getD k 0 + U.getD k 0) % 4294967296) = partL V U (k + 1) := by
  unfold partL
  apply List.ext_getElem?
  intro j
  rw [List.getElem?_set, List.length_map, List.length_range, List.getElem?_map, List.getElem?_map]
  by_cases hj : k = j
  · subst hj
    rw [if_pos rfl, if_pos hk, List.getElem?_range hk]; simp
  · rw [if_neg hj]
    by_cases h8 : j < 8
    · rw [List.getElem?_range h8]
      have e : (j < k) = (j < k + 1) := by rw [eq_iff_iff]; omega
      simp only [Option.map_some, e]
    · rw [List.getElem?_eq_none (by simp; omega)]; simp
def blockL (bs V : List Int) : List Int := addL V (roundsL (schedL bs 48) V 64)
set_option maxHeartbeats 40000000 in
set_option maxRecDepth 100000 in
theorem round_any (bs : List Int) (V : List Int) (p : Nat) (a : Addr) (c : Nat) (w : World) (hb : bs.length = 64) (hB : Bytes8 w a bs) (rv : Value) (cnt : Int) (hS : SumAt w p V rv cnt) :
    Calls Try.prog 101 #[.pointer (some ⟨p, 0, none⟩), .slice (some a) 64 c] w fun e w' => e = .returned (.tuple #[]) ∧ SumAt w' p (blockL bs V) rv cnt ∧ w.grownBy w' (some p) := by
  obtain ⟨b, o, rfl, hlt, hcell⟩ := hB
  have HC := Lib.hid hcell
  have HS := Lib.hid hS
  have hpl := hS.lt
  clear hcell hS
  go_enter Try.func101, Try.ntmps101
  go_wp2
  go_loopw [17] (fun i wr => ∃ k : Nat, k ≤ 16 ∧ i = .int .i64 k ∧ Hid (WAt wr w.heap.size (wordsL bs k)) ∧ Below w.heap.size w wr) (fun i _ => 16 - (intOf i).toNat)
  case atStart => exact ⟨0, Nat.zero_le _, rfl, Lib.hid ⟨by simp [wordsL], heap_alloc_new _ _⟩, (Below.refl _ _).alloc (Nat.le_refl _) _⟩
  case round =>
    obtain ⟨k, hk, rfl, HW, hbr⟩ := hrel
    by_cases hkl : k < 16
    · have hB4 : ∀ i, i < 4 → ∃ x : Int, bs.getD (4 * k + i) 0 = x ∧ wr.cell? ⟨b, o + (4 * k + i), none⟩ = some (.int .u8 x) ∧ 0 ≤ x ∧ x < 256 := fun i hi => by
        obtain ⟨h1, h2, h3⟩ := HC.out (4 * k + i) (by omega)
        refine ⟨_, ?_, keep_cell h1 hbr hlt, h2, h3⟩
        rw [List.getD_eq_getElem?_getD, List.getElem?_eq_getElem (by omega)]; rfl
      obtain ⟨x0, e0, c0, l0, u0⟩ := hB4 0 (by decide)
      obtain ⟨x1, e1, c1, l1, u1⟩ := hB4 1 (by decide)
      obtain ⟨x2, e2, c2, l2, u2⟩ := hB4 2 (by decide)
      obtain ⟨x3, e3, c3, l3, u3⟩ := hB4 3 (by decide)
      rw [Nat.add_zero] at e0 c0
      have HN : Hid (wordsL bs (k + 1) = wordsL bs k ++ [word4 x0 x1 x2 x3]) := by
        show _ = _; rw [wordsL_succ]; unfold wordAt; rw [e0, e1, e2, e3]
      have hwl := wordsL_len bs k
      obtain ⟨q, hq⟩ : ∃ q, 4 * k = q := ⟨_, rfl⟩
      obtain ⟨q1, hq1⟩ : ∃ q, 4 * k + 1 = q := ⟨_, rfl⟩
      obtain ⟨q2, hq2⟩ : ∃ q, 4 * k + 2 = q := ⟨_, rfl⟩
      obtain ⟨q3, hq3⟩ : ∃ q, 4 * k + 3 = q := ⟨_, rfl⟩
      rw [hq] at c0
      rw [hq1] at c1
      rw [hq2] at c2
      rw [hq3] at c3
      have hw0 : IntKind.i64.wrap (4 * (k : Int)) = (q : Int) := by rw [IntKind.wrap_i64]; omega
      have hw1 : IntKind.i64.wrap ((q : Int) + 1) = (q1 : Int) := by rw [IntKind.wrap_i64]; omega
      have hw2 : IntKind.i64.wrap ((q : Int) + 2) = (q2 : Int) := by rw [IntKind.wrap_i64]; omega
      have hw3 : IntKind.i64.wrap ((q : Int) + 3) = (q3 : Int) := by rw [IntKind.wrap_i64]; omega
      have hI0 : (q : Int) < 64 := by omega
      have hI1 : (q1 : Int) < 64 := by omega
      have hI2 : (q2 : Int) < 64 := by omega
      have hI3 : (q3 : Int) < 64 := by omega
      have hI4 : (k : Int) < 64 := by omega
      have v0 : IntKind.u32.wrap x0 = x0 := by rw [IntKind.wrap_u32']; omega
      have v1 : IntKind.u32.wrap x1 = x1 := by rw [IntKind.wrap_u32']; omega
      have v2 : IntKind.u32.wrap x2 = x2 := by rw [IntKind.wrap_u32']; omega
      have v3 : IntKind.u32.wrap x3 = x3 := by rw [IntKind.wrap_u32']; omega
      have y0 : IntKind.u32.wrap (x0 * 16777216) = x0 * 16777216 % 4294967296 := by rw [IntKind.wrap_u32']
      have y1 : IntKind.u32.wrap (x1 * 65536) = x1 * 65536 % 4294967296 := by rw [IntKind.wrap_u32']
      have y2 : IntKind.u32.wrap (x2 * 256) = x2 * 256 % 4294967296 := by rw [IntKind.wrap_u32']
      clear hB4 e0 e1 e2 e3 hq hq1 hq2 hq3
      go_wp2
      go_still_tail 35, (by kernel_rfl)
      have HW2 : Hid (WAt wr.drew w.heap.size (wordsL bs k)) := HW.out
      have hbr2 : Below w.heap.size w wr.drew := hbr.drew
      change wpList _ _ _ _ _ wr.drew
      clear HW hbr c0 c1 c2 c3
      generalize wr.drew = w2 at *
      have hold := HW2.out.old (by omega)
      have hfree := HW2.out.free k
      rw [hwl] at hold
      have HST := Lib.hid (HW2.out.store (by omega) (word4 x0 x1 x2 x3))
      rw [hwl] at HST
      have hbs := hbr2.trans (below_setCell (B := w.heap.size) w2 w.heap.size k (V32 (word4 x0 x1 x2 x3)) (Nat.le_refl _))
      unfold word4 at HST hbs
      go_wp2
      go_roundw
      case rel => exact ⟨k + 1, by omega, by go_num, by rw [HN.out]; exact HST, hbs⟩
      case measure => (simp [intOf]; try omega)
    · obtain rfl : k = 16 := by omega
      rw [show ((16 : Nat) : Int) = 16 from rfl]
      go_wp2
      have hba : Below wr.heap.size wr ((wr.alloc (.cells #[.int .i64 7, .int .i64 18, .int .i64 0, .int .i64 3] 174)).alloc (.cells #[.int .i64 17, .int .i64 19, .int .i64 0, .int .i64 10] 174)) := ((Below.refl _ _).alloc (Nat.le_refl _) _).alloc (by simp) _
      have hbox := box_two (Below.refl ((wr.alloc (.cells #[.int .i64 7, .int .i64 18, .int .i64 0, .int .i64 3] 174)).alloc (.cells #[.int .i64 17, .int .i64 19, .int .i64 0, .int .i64 10] 174)).heap.size ((wr.alloc (.cells #[.int .i64 7, .int .i64 18, .int .i64 0, .int .i64 3] 174)).alloc (.cells #[.int .i64 17, .int .i64 19, .int .i64 0, .int .i64 10] 174)))
      have hm1 : C4 wr.heap.size (.int .i64 7) (.int .i64 18) (.int .i64 0) (.int .i64 3) ((wr.alloc (.cells #[.int .i64 7, .int .i64 18, .int .i64 0, .int .i64 3] 174)).alloc (.cells #[.int .i64 17, .int .i64 19, .int .i64 0, .int .i64 10] 174)) := ⟨hbox.1 0 _ rfl, hbox.1 1 _ rfl, hbox.1 2 _ rfl, hbox.1 3 _ rfl⟩
      have hm2 : C4 (wr.heap.size + 1) (.int .i64 17) (.int .i64 19) (.int .i64 0) (.int .i64 10) ((wr.alloc (.cells #[.int .i64 7, .int .i64 18, .int .i64 0, .int .i64 3] 174)).alloc (.cells #[.int .i64 17, .int .i64 19, .int .i64 0, .int .i64 10] 174)) := ⟨hbox.2.1 0 _ rfl, hbox.2.1 1 _ rfl, hbox.2.1 2 _ rfl, hbox.2.1 3 _ rfl⟩
      have hglt := hbox.2.2.1
      have HWa : Hid (WAt ((wr.alloc (.cells #[.int .i64 7, .int .i64 18, .int .i64 0, .int .i64 3] 174)).alloc (.cells #[.int .i64 17, .int .i64 19, .int .i64 0, .int .i64 10] 174)) w.heap.size (schedL bs 0)) := HW.out.later hba
      have hbra := hbr.trans (hba.mono hbr.size)
      have hgG : w.heap.size < wr.heap.size := HW.out.lt
      have HM1 := Lib.hid hm1
      have HM2 := Lib.hid hm2
      obtain ⟨G1, hG1⟩ : ∃ g, g = wr.heap.size := ⟨_, rfl⟩
      clear hba hbox hm1 hm2 HW hbr
      rw [← hG1] at HM1 HM2 hglt hgG ⊢
      generalize (wr.alloc (.cells #[.int .i64 7, .int .i64 18, .int .i64 0, .int .i64 3] 174)).alloc (.cells #[.int .i64 17, .int .i64 19, .int .i64 0, .int .i64 10] 174) = wa at *
      clear hG1
      go_loopw [8] (fun i wr => ∃ k : Nat, k ≤ 48 ∧ i = .int .i64 ((16 + k : Nat) : Int) ∧ Hid (WAt wr w.heap.size (schedL bs k)) ∧ Hid (C4 G1 (.int .i64 7) (.int .i64 18) (.int .i64 0) (.int .i64 3) wr) ∧ Hid (C4 (G1 + 1) (.int .i64 17) (.int .i64 19) (.int .i64 0) (.int .i64 10) wr) ∧ G1 + 1 < wr.heap.size ∧ Below w.heap.size w wr) (fun i _ => 64 - (intOf i).toNat)
      case atStart => exact ⟨0, Nat.zero_le _, rfl, HWa, HM1, HM2, hglt, hbra⟩
      case round =>
        obtain ⟨k, hk, rfl, HW, HM1, HM2, hglt, hbr⟩ := hrel
        by_cases hkl : k < 48
        · obtain ⟨L, hL⟩ : ∃ L, schedL bs k = L := ⟨_, rfl⟩
          have hLl : L.length = 16 + k := by rw [← hL]; exact schedL_len bs k
          have HN : Hid (schedL bs (k + 1) = L ++ [nextW L]) := by show _ = _; rw [schedL, hL]
          rw [hL] at HW
          have hx : ∀ d, 0 < d → d ≤ 16 → ∃ q x, q + d = 16 + k ∧ L.getD (16 + k - d) 0 = x ∧ q < L.length ∧ ∀ W L', (∀ j, j < L.length → L'[j]? = L[j]?) → WAt W w.heap.size L' → W.cell? ⟨w.heap.size, q, none⟩ = some (V32 x) := fun d h1 h2 => by
            refine ⟨16 + k - d, _, by omega, rfl, by omega, fun W L' hag hW => ?_⟩
            have h3 := hag (16 + k - d) (by omega)
            rw [List.getElem?_eq_getElem (by omega : 16 + k - d < L.length)] at h3
            have h4 := (List.getElem?_eq_some_iff.1 h3).1
            rw [hW.cell (16 + k - d) h4, List.getD_eq_getElem?_getD, List.getElem?_eq_getElem (by omega)]
            rw [List.getElem?_eq_getElem h4] at h3
            rw [Option.some.inj h3]; rfl
          obtain ⟨q16, x16, i16, e16, l16, c16⟩ := hx 16 (by decide) (by decide)
          obtain ⟨q15, x15, i15, e15, l15, c15⟩ := hx 15 (by decide) (by decide)
          obtain ⟨q7, x7, i7, e7, l7, c7⟩ := hx 7 (by decide) (by decide)
          obtain ⟨q2, x2, i2, e2, l2, c2⟩ := hx 2 (by decide) (by decide)
          have HX : Hid (nextW L = (((x16 + mixW 7 18 0 3 x15) % 4294967296 + x7) % 4294967296 + mixW 17 19 0 10 x2) % 4294967296) := by
            show _ = _; unfold nextW; rw [hLl, e16, e15, e7, e2]
          have kA := fun W => of_sh 7 18 0 3 x15 W (by decide) (by decide) (by decide)
          have kB := fun W => of_sh 17 19 0 10 x2 W (by decide) (by decide) (by decide)
          obtain ⟨n, hn⟩ : ∃ n, 16 + k = n := ⟨_, rfl⟩
          rw [hn] at hLl i16 i15 i7 i2 ⊢
          have hw16 : IntKind.i64.wrap ((n : Int) - 16) = (q16 : Int) := by rw [IntKind.wrap_i64]; omega
          have hI16 : (q16 : Int) < 64 := by omega
          have hw15 : IntKind.i64.wrap ((n : Int) - 15) = (q15 : Int) := by rw [IntKind.wrap_i64]; omega
          have hI15 : (q15 : Int) < 64 := by omega
          have hw7 : IntKind.i64.wrap ((n : Int) - 7) = (q7 : Int) := by rw [IntKind.wrap_i64]; omega
          have hI7 : (q7 : Int) < 64 := by omega
          have hw2 : IntKind.i64.wrap ((n : Int) - 2) = (q2 : Int) := by rw [IntKind.wrap_i64]; omega
          have hI2 : (q2 : Int) < 64 := by omega
          have hIn : (n : Int) < 64 := by omega
          obtain ⟨mA, hmA⟩ : ∃ z, mixW 7 18 0 3 x15 = z := ⟨_, rfl⟩
          obtain ⟨mB, hmB⟩ : ∃ z, mixW 17 19 0 10 x2 = z := ⟨_, rfl⟩
          rw [hmA] at kA HX
          rw [hmB] at kB HX
          obtain ⟨s1, hs1⟩ : ∃ z, (x16 + mA) % 4294967296 = z := ⟨_, rfl⟩
          obtain ⟨s2, hs2⟩ : ∃ z, (s1 + x7) % 4294967296 = z := ⟨_, rfl⟩
          obtain ⟨s3, hs3⟩ : ∃ z, (s2 + mB) % 4294967296 = z := ⟨_, rfl⟩
          rw [hs1, hs2, hs3] at HX
          have y1 : IntKind.u32.wrap (x16 + mA) = s1 := by rw [IntKind.wrap_u32']; exact hs1
          have y2 : IntKind.u32.wrap (s1 + x7) = s2 := by rw [IntKind.wrap_u32']; exact hs2
          have y3 : IntKind.u32.wrap (s2 + mB) = s3 := by rw [IntKind.wrap_u32']; exact hs3
          have hcs : ∀ W L', (∀ j, j < L.length → L'[j]? = L[j]?) → WAt W w.heap.size L' → C4 G1 (.int .i64 7) (.int .i64 18) (.int .i64 0) (.int .i64 3) W → C4 (G1 + 1) (.int .i64 17) (.int .i64 19) (.int .i64 0) (.int .i64 10) W →
              W.cell? ⟨w.heap.size, q16, none⟩ = some (V32 x16) ∧ W.cell? ⟨w.heap.size, q15, none⟩ = some (V32 x15) ∧ W.cell? ⟨w.heap.size, q7, none⟩ = some (V32 x7) ∧ W.cell? ⟨w.heap.size, q2, none⟩ = some (V32 x2) ∧ C4 G1 (.int .i64 7) (.int .i64 18) (.int .i64 0) (.int .i64 3) W ∧ C4 (G1 + 1) (.int .i64 17) (.int .i64 19) (.int .i64 0) (.int .i64 10) W := fun W L' h0 h1 h2 h3 => ⟨c16 W L' h0 h1, c15 W L' h0 h1, c7 W L' h0 h1, c2 W L' h0 h1, h2, h3⟩
          have HCS := Lib.hid hcs
          have HWd : Hid (WAt wr.drew w.heap.size L) := HW.out
          have HMd1 : Hid (C4 G1 (.int .i64 7) (.int .i64 18) (.int .i64 0) (.int .i64 3) wr.drew) := HM1.out
          have HMd2 : Hid (C4 (G1 + 1) (.int .i64 17) (.int .i64 19) (.int .i64 0) (.int .i64 10) wr.drew) := HM2.out
          clear hx hL e16 e15 e7 e2 c16 c15 c7 c2 hcs hmA hmB hs1 hs2 hs3
          go_wp2
          refine wp_region_held_drew (S := (fun w' => w'.cell? ⟨w.heap.size, q16, none⟩ = some (V32 x16) ∧ w'.cell? ⟨w.heap.size, q15, none⟩ = some (V32 x15) ∧ w'.cell? ⟨w.heap.size, q7, none⟩ = some (V32 x7) ∧ w'.cell? ⟨w.heap.size, q2, none⟩ = some (V32 x2) ∧ C4 G1 (.int .i64 7) (.int .i64 18) (.int .i64 0) (.int .i64 3) w' ∧ C4 (G1 + 1) (.int .i64 17) (.int .i64 19) (.int .i64 0) (.int .i64 10) w')) (by kernel_rfl) (HCS.out _ L (fun _ _ => rfl) HWd.out HMd1.out HMd2.out) (fun hHeld => ?_)
          refine held_take (i := 0) (v := ?_) rfl rfl (by kernel_rfl) (by kernel_rfl) (by kernel_rfl) (fun _ _ _ h => h) (by rfl) hHeld ?_ ?_
          rotate_left
          · rintro wh ⟨z16, z15, z7, z2, ⟨s0, s1, s2, s3⟩, ⟨r0, r1, r2, r3⟩⟩
            go_simp
            (try with_reducible rfl)
          simp only [Act.put, List.setIfInBounds_toArray, List.set_cons_zero, List.set_cons_succ]
          refine held_take (i := 1) (v := ?_) rfl rfl (by kernel_rfl) (by kernel_rfl) (by kernel_rfl) (fun _ _ _ h => h) (by rfl) hHeld ?_ ?_
          rotate_left
          · rintro wh ⟨z16, z15, z7, z2, ⟨s0, s1, s2, s3⟩, ⟨r0, r1, r2, r3⟩⟩
            go_simp
            (try with_reducible rfl)
          simp only [Act.put, List.setIfInBounds_toArray, List.set_cons_zero, List.set_cons_succ]
          refine held_take (i := 2) (v := ?_) rfl rfl (by kernel_rfl) (by kernel_rfl) (by kernel_rfl) (fun _ _ _ h => h) (by rfl) hHeld ?_ ?_
          rotate_left
          · rintro wh ⟨z16, z15, z7, z2, ⟨s0, s1, s2, s3⟩, ⟨r0, r1, r2, r3⟩⟩
            go_simp
            (try with_reducible rfl)
          simp only [Act.put, List.setIfInBounds_toArray, List.set_cons_zero, List.set_cons_succ]
          refine held_take (i := 3) (v := ?_) rfl rfl (by kernel_rfl) (by kernel_rfl) (by kernel_rfl) (fun _ _ _ h => h) (by rfl) hHeld ?_ ?_
          rotate_left
          · rintro wh ⟨z16, z15, z7, z2, ⟨s0, s1, s2, s3⟩, ⟨r0, r1, r2, r3⟩⟩
            go_simp
            (try with_reducible rfl)
          simp only [Act.put, List.setIfInBounds_toArray, List.set_cons_zero, List.set_cons_succ]
          refine held_take (i := 4) (v := ?_) rfl rfl (by kernel_rfl) (by kernel_rfl) (by kernel_rfl) (fun _ _ _ h => h) (by rfl) hHeld ?_ ?_
          rotate_left
          · rintro wh ⟨z16, z15, z7, z2, ⟨s0, s1, s2, s3⟩, ⟨r0, r1, r2, r3⟩⟩
            go_simp
            (try with_reducible rfl)
          simp only [Act.put, List.setIfInBounds_toArray, List.set_cons_zero, List.set_cons_succ]
          refine held_take (i := 5) (v := ?_) rfl rfl (by kernel_rfl) (by kernel_rfl) (by kernel_rfl) (fun _ _ _ h => h) (by rfl) hHeld ?_ ?_
          rotate_left
          · rintro wh ⟨z16, z15, z7, z2, ⟨s0, s1, s2, s3⟩, ⟨r0, r1, r2, r3⟩⟩
            go_simp
            (try with_reducible rfl)
          simp only [Act.put, List.setIfInBounds_toArray, List.set_cons_zero, List.set_cons_succ]
          refine held_take (i := 6) (v := ?_) rfl rfl (by kernel_rfl) (by kernel_rfl) (by kernel_rfl) (fun _ _ _ h => h) (by rfl) hHeld ?_ ?_
          rotate_left
          · rintro wh ⟨z16, z15, z7, z2, ⟨s0, s1, s2, s3⟩, ⟨r0, r1, r2, r3⟩⟩
            go_simp
            (try with_reducible rfl)
          simp only [Act.put, List.setIfInBounds_toArray, List.set_cons_zero, List.set_cons_succ]
          refine held_take (i := 7) (v := ?_) rfl rfl (by kernel_rfl) (by kernel_rfl) (by kernel_rfl) (fun _ _ _ h => h) (by rfl) hHeld ?_ ?_
          rotate_left
          · rintro wh ⟨z16, z15, z7, z2, ⟨s0, s1, s2, s3⟩, ⟨r0, r1, r2, r3⟩⟩
            go_simp
            (try with_reducible rfl)
          simp only [Act.put, List.setIfInBounds_toArray, List.set_cons_zero, List.set_cons_succ]
          refine held_take (i := 8) (v := ?_) rfl rfl (by kernel_rfl) (by kernel_rfl) (by kernel_rfl) (fun _ _ _ h => h) (by rfl) hHeld ?_ ?_
          rotate_left
          · rintro wh ⟨z16, z15, z7, z2, ⟨s0, s1, s2, s3⟩, ⟨r0, r1, r2, r3⟩⟩
            go_simp
            (try with_reducible rfl)
          simp only [Act.put, List.setIfInBounds_toArray, List.set_cons_zero, List.set_cons_succ]
          refine held_take (i := 9) (v := ?_) rfl rfl (by kernel_rfl) (by kernel_rfl) (by kernel_rfl) (fun _ _ _ h => h) (by rfl) hHeld ?_ ?_
          rotate_left
          · rintro wh ⟨z16, z15, z7, z2, ⟨s0, s1, s2, s3⟩, ⟨r0, r1, r2, r3⟩⟩
            go_simp
            (try with_reducible rfl)
          simp only [Act.put, List.setIfInBounds_toArray, List.set_cons_zero, List.set_cons_succ]
          refine held_take (i := 12) (v := ?_) rfl rfl (by kernel_rfl) (by kernel_rfl) (by kernel_rfl) (fun _ _ _ h => h) (by rfl) hHeld ?_ ?_
          rotate_left
          · rintro wh ⟨z16, z15, z7, z2, ⟨s0, s1, s2, s3⟩, ⟨r0, r1, r2, r3⟩⟩
            go_simp
            (try with_reducible rfl)
          simp only [Act.put, List.setIfInBounds_toArray, List.set_cons_zero, List.set_cons_succ]
          refine held_take (i := 13) (v := ?_) rfl rfl (by kernel_rfl) (by kernel_rfl) (by kernel_rfl) (fun _ _ _ h => h) (by rfl) hHeld ?_ ?_
          rotate_left
          · rintro wh ⟨z16, z15, z7, z2, ⟨s0, s1, s2, s3⟩, ⟨r0, r1, r2, r3⟩⟩
            go_simp
            (try with_reducible rfl)
          simp only [Act.put, List.setIfInBounds_toArray, List.set_cons_zero, List.set_cons_succ]
          refine held_take (i := 14) (v := ?_) rfl rfl (by kernel_rfl) (by kernel_rfl) (by kernel_rfl) (fun _ _ _ h => h) (by rfl) hHeld ?_ ?_
          rotate_left
          · rintro wh ⟨z16, z15, z7, z2, ⟨s0, s1, s2, s3⟩, ⟨r0, r1, r2, r3⟩⟩
            go_simp
            (try with_reducible rfl)
          simp only [Act.put, List.setIfInBounds_toArray, List.set_cons_zero, List.set_cons_succ]
          refine held_take (i := 15) (v := ?_) rfl rfl (by kernel_rfl) (by kernel_rfl) (by kernel_rfl) (fun _ _ _ h => h) (by rfl) hHeld ?_ ?_
          rotate_left
          · rintro wh ⟨z16, z15, z7, z2, ⟨s0, s1, s2, s3⟩, ⟨r0, r1, r2, r3⟩⟩
            go_simp
            (try with_reducible rfl)
          simp only [Act.put, List.setIfInBounds_toArray, List.set_cons_zero, List.set_cons_succ]
          refine held_take (i := 17) (v := ?_) rfl rfl (by kernel_rfl) (by kernel_rfl) (by kernel_rfl) (fun _ _ _ h => h) (by rfl) hHeld ?_ ?_
          rotate_left
          · rintro wh ⟨z16, z15, z7, z2, ⟨s0, s1, s2, s3⟩, ⟨r0, r1, r2, r3⟩⟩
            go_simp
            (try with_reducible rfl)
          simp only [Act.put, List.setIfInBounds_toArray, List.set_cons_zero, List.set_cons_succ]
          refine held_take (i := 18) (v := ?_) rfl rfl (by kernel_rfl) (by kernel_rfl) (by kernel_rfl) (fun _ _ _ h => h) (by rfl) hHeld ?_ ?_
          rotate_left
          · rintro wh ⟨z16, z15, z7, z2, ⟨s0, s1, s2, s3⟩, ⟨r0, r1, r2, r3⟩⟩
            go_simp
            (try with_reducible rfl)
          simp only [Act.put, List.setIfInBounds_toArray, List.set_cons_zero, List.set_cons_succ]
          refine held_take (i := 19) (v := ?_) rfl rfl (by kernel_rfl) (by kernel_rfl) (by kernel_rfl) (fun _ _ _ h => h) (by rfl) hHeld ?_ ?_
          rotate_left
          · rintro wh ⟨z16, z15, z7, z2, ⟨s0, s1, s2, s3⟩, ⟨r0, r1, r2, r3⟩⟩
            go_simp
            (try with_reducible rfl)
          simp only [Act.put, List.setIfInBounds_toArray, List.set_cons_zero, List.set_cons_succ]
          refine held_take (i := 20) (v := ?_) rfl rfl (by kernel_rfl) (by kernel_rfl) (by kernel_rfl) (fun _ _ _ h => h) (by rfl) hHeld ?_ ?_
          rotate_left
          · rintro wh ⟨z16, z15, z7, z2, ⟨s0, s1, s2, s3⟩, ⟨r0, r1, r2, r3⟩⟩
            go_simp
            (try with_reducible rfl)
          simp only [Act.put, List.setIfInBounds_toArray, List.set_cons_zero, List.set_cons_succ]
          refine held_take (i := 21) (v := ?_) rfl rfl (by kernel_rfl) (by kernel_rfl) (by kernel_rfl) (fun _ _ _ h => h) (by rfl) hHeld ?_ ?_
          rotate_left
          · rintro wh ⟨z16, z15, z7, z2, ⟨s0, s1, s2, s3⟩, ⟨r0, r1, r2, r3⟩⟩
            go_simp
            (try with_reducible rfl)
          simp only [Act.put, List.setIfInBounds_toArray, List.set_cons_zero, List.set_cons_succ]
          refine held_call (i := 10) rfl (by kernel_rfl) (by rfl) (fun K hK => ?_)
          (go_simp; go_at_call 111; refine (kA _).mono ?_; rintro e w1 ⟨rfl, hb1⟩; have HW1 := Lib.hid (HWd.out.later hb1); have HN1 := Lib.hid (HMd1.out.later hb1 (by show G1 < wr.heap.size; omega)); have HN2 := Lib.hid (HMd2.out.later hb1 hglt); have hg1 := Nat.lt_of_lt_of_le hglt hb1.size)
          refine hK.out _ _ (HCS.out _ L (fun _ _ => rfl) HW1.out HN1.out HN2.out) (fun hHeld => ?_)
          clear hK K
          (try simp only [Act.put, List.setIfInBounds_toArray, List.set_cons_zero, List.set_cons_succ])
          refine held_take (i := 11) (v := ?_) rfl rfl (by kernel_rfl) (by kernel_rfl) (by kernel_rfl) (fun _ _ _ h => h) (by rfl) hHeld ?_ ?_
          rotate_left
          · rintro wh ⟨z16, z15, z7, z2, ⟨s0, s1, s2, s3⟩, ⟨r0, r1, r2, r3⟩⟩
            go_simp
            (try with_reducible rfl)
          simp only [Act.put, List.setIfInBounds_toArray, List.set_cons_zero, List.set_cons_succ]
          refine held_take (i := 16) (v := ?_) rfl rfl (by kernel_rfl) (by kernel_rfl) (by kernel_rfl) (fun _ _ _ h => h) (by rfl) hHeld ?_ ?_
          rotate_left
          · rintro wh ⟨z16, z15, z7, z2, ⟨s0, s1, s2, s3⟩, ⟨r0, r1, r2, r3⟩⟩
            go_simp
            (try with_reducible rfl)
          simp only [Act.put, List.setIfInBounds_toArray, List.set_cons_zero, List.set_cons_succ]
          refine held_call (i := 22) rfl (by kernel_rfl) (by rfl) (fun K hK => ?_)
          (go_simp; go_at_call 111; refine (kB _).mono ?_; rintro e w2 ⟨rfl, hb2⟩; have HW2 := Lib.hid (HW1.out.later hb2); have HO1 := Lib.hid (HN1.out.later hb2 (by omega)); have HO2 := Lib.hid (HN2.out.later hb2 hg1); have hg2 := Nat.lt_of_lt_of_le hg1 hb2.size)
          refine hK.out _ _ (HCS.out _ L (fun _ _ => rfl) HW2.out HO1.out HO2.out) (fun hHeld => ?_)
          clear hK K
          (try simp only [Act.put, List.setIfInBounds_toArray, List.set_cons_zero, List.set_cons_succ])
          refine held_take (i := 23) (v := ?_) rfl rfl (by kernel_rfl) (by kernel_rfl) (by kernel_rfl) (fun _ _ _ h => h) (by rfl) hHeld ?_ ?_
          rotate_left
          · rintro wh ⟨z16, z15, z7, z2, ⟨s0, s1, s2, s3⟩, ⟨r0, r1, r2, r3⟩⟩
            go_simp
            (try with_reducible rfl)
          simp only [Act.put, List.setIfInBounds_toArray, List.set_cons_zero, List.set_cons_succ]
          refine held_take (i := 24) (v := ?_) rfl rfl (by kernel_rfl) (by kernel_rfl) (by kernel_rfl) (fun _ _ _ h => h) (by rfl) hHeld ?_ ?_
          rotate_left
          · rintro wh ⟨z16, z15, z7, z2, ⟨s0, s1, s2, s3⟩, ⟨r0, r1, r2, r3⟩⟩
            go_simp
            (try with_reducible rfl)
          simp only [Act.put, List.setIfInBounds_toArray, List.set_cons_zero, List.set_cons_succ]
          refine held_call (i := 25) rfl (by kernel_rfl) (by rfl) (fun K hK => ?_)
          (have hold := HW2.out.old (by omega); rw [hLl] at hold; have hfree := HW2.out.free n; have HST := Lib.hid (HW2.out.store (by omega) s3); rw [hLl] at HST; have HP1 := Lib.hid (HO1.out.beside (g := w.heap.size) (j := n) (v := V32 s3) (by omega)); have HP2 := Lib.hid (HO2.out.beside (g := w.heap.size) (j := n) (v := V32 s3) (by omega)); have hbs := (hbr.drew.trans (hb1.mono hbr.size)).trans (hb2.mono (by have := hb1.size; have := hbr.size; simp at *; omega)); have hbs2 := hbs.trans (below_setCell (B := w.heap.size) w2 w.heap.size n (V32 s3) (Nat.le_refl _)); go_simp)
          refine hK.out _ _ (HCS.out _ (L ++ [s3]) (fun j h => List.getElem?_append_left h) HST.out HP1.out HP2.out) (fun hHeld => ?_)
          clear hK K
          (try simp only [Act.put, List.setIfInBounds_toArray, List.set_cons_zero, List.set_cons_succ])
          refine wpAnyH_done (by kernel_rfl) ?_ _
          have hg3 : G1 + 1 < (w2.setCell ⟨w.heap.size, n, none⟩ (V32 s3)).heap.size := by rw [World.size_setCell]; exact hg2
          generalize w2.setCell ⟨w.heap.size, n, none⟩ (V32 s3) = w3 at *
          have R : Hid (WAt w3 w.heap.size (schedL bs (k + 1))) := by rw [HN.out, HX.out]; exact HST
          go_wp2
          go_roundw
          case rel => exact ⟨k + 1, by omega, by (first | go_num | (congr 1; omega)), R, HP1, HP2, hg3, hbs2⟩
          case measure => (simp [intOf]; try omega)
        · obtain rfl : k = 48 := by omega
          rw [show ((16 + 48 : Nat) : Int) = 64 from rfl]
          have HSr := Lib.hid (HS.out.later hbr)
          obtain ⟨h0, h1, h2, h3, h4, h5, h6, h7, rfl⟩ : ∃ h0 h1 h2 h3 h4 h5 h6 h7, V = [h0, h1, h2, h3, h4, h5, h6, h7] := by
            have hl := HS.out.1
            match V, hl with
            | [a, b, c, d, e, f, g, h], _ => exact ⟨a, b, c, d, e, f, g, h, rfl⟩
          have g0 : wr.cell? ⟨p, 0, none⟩ = some (V32 h0) := HSr.out.word 0 (by decide)
          have g1 : wr.cell? ⟨p, 1, none⟩ = some (V32 h1) := HSr.out.word 1 (by decide)
          have g2 : wr.cell? ⟨p, 2, none⟩ = some (V32 h2) := HSr.out.word 2 (by decide)
          have g3 : wr.cell? ⟨p, 3, none⟩ = some (V32 h3) := HSr.out.word 3 (by decide)
          have g4 : wr.cell? ⟨p, 4, none⟩ = some (V32 h4) := HSr.out.word 4 (by decide)
          have g5 : wr.cell? ⟨p, 5, none⟩ = some (V32 h5) := HSr.out.word 5 (by decide)
          have g6 : wr.cell? ⟨p, 6, none⟩ = some (V32 h6) := HSr.out.word 6 (by decide)
          have g7 : wr.cell? ⟨p, 7, none⟩ = some (V32 h7) := HSr.out.word 7 (by decide)
          have hpr : p < wr.heap.size := HSr.out.lt
          go_wp2_with fail
          refine (keys_any _).mono ?_
          rintro e w3 ⟨rfl, hb3⟩
          clear g0 g1 g2 g3 g4 g5 g6 g7
          obtain ⟨hB3, hV3, hA3, hN3, hlt3⟩ := three_boxes hb3
          have hW3 := Lib.hid (HW.out.later hB3)
          have hS3 := Lib.hid (HSr.out.later hB3)
          have hbr3 := hbr.trans (hB3.mono hbr.size)
          obtain ⟨gA, hgA⟩ : ∃ g, g = wr.heap.size := ⟨_, rfl⟩
          have hGA : w.heap.size < gA := by rw [hgA]; exact HW.out.lt
          rw [← hgA] at hV3 hA3 hN3 hlt3 ⊢
          have HV3 : Hid (VAt w3 (gA + 1 + 1) (roundsL (schedL bs 48) [h0, h1, h2, h3, h4, h5, h6, h7] 0)) := ⟨rfl, hV3⟩
          have HA3 := Lib.hid (hA3 rfl)
          have HN3 := Lib.hid (hN3 rfl)
          clear hB3 hb3 HW HM1 HM2 HSr hbr hgA hV3 hA3 hN3 hglt
          obtain ⟨WL, hWL⟩ : ∃ W, schedL bs 48 = W := ⟨_, rfl⟩
          have hWl : WL.length = 64 := by rw [← hWL]; exact schedL_len bs 48
          rw [hWL] at hW3 HV3
          have HWL := Lib.hid hWL
          clear hWL
          go_wp2
          go_loopw [94] (fun i wr => ∃ k : Nat, k ≤ 64 ∧ i = .int .i64 k ∧ Hid (WAt wr w.heap.size WL) ∧ Hid (VAt wr (gA + 1 + 1) (roundsL WL [h0, h1, h2, h3, h4, h5, h6, h7] k)) ∧ Hid (C4 gA (.int .i64 6) (.int .i64 11) (.int .i64 25) (.int .i64 0) wr) ∧ Hid (C4 (gA + 1) (.int .i64 2) (.int .i64 13) (.int .i64 22) (.int .i64 0) wr) ∧ Hid (SumAt wr p [h0, h1, h2, h3, h4, h5, h6, h7] rv cnt) ∧ gA + 1 + 1 < wr.heap.size ∧ Below w.heap.size w wr) (fun i _ => 64 - (intOf i).toNat)
          case atStart => exact ⟨0, Nat.zero_le _, rfl, hW3, HV3, HA3, HN3, hS3, hlt3, hbr3⟩
          case round =>
            obtain ⟨k, hk, rfl, HW, HV, HA, HN, HS3, hlt3, hbr⟩ := hrel
            by_cases hkl : k < 64
            · obtain ⟨x0, x1, x2, x3, x4, x5, x6, x7, hv⟩ : ∃ x0 x1 x2 x3 x4 x5 x6 x7, roundsL WL [h0, h1, h2, h3, h4, h5, h6, h7] k = [x0, x1, x2, x3, x4, x5, x6, x7] := by
                have hl := HV.out.1
                match roundsL WL [h0, h1, h2, h3, h4, h5, h6, h7] k, hl with
                | [a, b, c, d, e, f, g, h], _ => exact ⟨a, b, c, d, e, f, g, h, rfl⟩
              have HNX : Hid (roundsL WL [h0, h1, h2, h3, h4, h5, h6, h7] (k + 1) = roundL [x0, x1, x2, x3, x4, x5, x6, x7] (keyL k) (WL.getD k 0)) := by show _ = _; rw [roundsL, hv]
              rw [hv] at HV
              have hkv := keysV_at k hkl
              obtain ⟨xk, hxk⟩ : ∃ x, WL.getD k 0 = x := ⟨_, rfl⟩
              have hck : ∀ W, WAt W w.heap.size WL → W.cell? ⟨w.heap.size, k, none⟩ = some (V32 xk) := fun W hW => by
                rw [hW.cell k (by omega), ← hxk, List.getD_eq_getElem?_getD, List.getElem?_eq_getElem (by omega)]; rfl
              rw [hxk] at HNX
              obtain ⟨kk, hkk⟩ : ∃ x, keyL k = x := ⟨_, rfl⟩
              have hidx := run_index_keys k hkl wr
              rw [hkk] at hkv HNX hidx
              have hI : (k : Int) < 64 := by omega
              clear hv hxk hkk
              have kA := fun W => of_rot 6 11 25 x4 W (by decide) (by decide) (by decide)
              have kN := fun W => of_rot 2 13 22 x0 W (by decide) (by decide) (by decide)
              obtain ⟨mA, hmA⟩ : ∃ z, mixW 6 11 25 0 x4 = z := ⟨_, rfl⟩
              obtain ⟨mN, hmN⟩ : ∃ z, mixW 2 13 22 0 x0 = z := ⟨_, rfl⟩
              rw [hmA] at kA
              rw [hmN] at kN
              obtain ⟨t1, e1⟩ : ∃ z, IntKind.u32.wrap (x7 + mA) = z := ⟨_, rfl⟩
              obtain ⟨n1, e2⟩ : ∃ z, bits BinOp.and .u32 x4 x5 = z := ⟨_, rfl⟩
              obtain ⟨n2, e3⟩ : ∃ z, bits BinOp.xor .u32 (if IntKind.u32.signed = true then -1 else IntKind.u32.max) x4 = z := ⟨_, rfl⟩
              obtain ⟨n3, e4⟩ : ∃ z, bits BinOp.and .u32 n2 x6 = z := ⟨_, rfl⟩
              obtain ⟨n4, e5⟩ : ∃ z, bits BinOp.xor .u32 n1 n3 = z := ⟨_, rfl⟩
              obtain ⟨t2, e6⟩ : ∃ z, IntKind.u32.wrap (t1 + n4) = z := ⟨_, rfl⟩
              obtain ⟨t3, e7⟩ : ∃ z, IntKind.u32.wrap (t2 + kk) = z := ⟨_, rfl⟩
              obtain ⟨T, e8⟩ : ∃ z, IntKind.u32.wrap (t3 + xk) = z := ⟨_, rfl⟩
              have hT : tL mA x4 x5 x6 x7 kk xk = T := by unfold tL; rw [e1, e2, e3, e4, e5, e6, e7, e8]
              obtain ⟨m1, f1⟩ : ∃ z, bits BinOp.and .u32 x0 x1 = z := ⟨_, rfl⟩
              obtain ⟨m2, f2⟩ : ∃ z, bits BinOp.and .u32 x0 x2 = z := ⟨_, rfl⟩
              obtain ⟨m3, f3⟩ : ∃ z, bits BinOp.xor .u32 m1 m2 = z := ⟨_, rfl⟩
              obtain ⟨m4, f4⟩ : ∃ z, bits BinOp.and .u32 x1 x2 = z := ⟨_, rfl⟩
              obtain ⟨m5, f5⟩ : ∃ z, bits BinOp.xor .u32 m3 m4 = z := ⟨_, rfl⟩
              obtain ⟨U, f6⟩ : ∃ z, IntKind.u32.wrap (mN + m5) = z := ⟨_, rfl⟩
              have hU : uL mN x0 x1 x2 = U := by unfold uL; rw [f1, f2, f3, f4, f5, f6]
              have HR : Hid (roundsL WL [h0, h1, h2, h3, h4, h5, h6, h7] (k + 1) = [(T + U) % 4294967296, x0, x1, x2, (x3 + T) % 4294967296, x4, x5, x6]) := by
                show _ = _; rw [HNX.out]; simp only [roundL]; rw [hmA, hmN, hT, hU]
              clear hmA hmN hT hU HNX
              have hcs : ∀ W, VAt W (gA + 1 + 1) [x0, x1, x2, x3, x4, x5, x6, x7] → C4 gA (.int .i64 6) (.int .i64 11) (.int .i64 25) (.int .i64 0) W → WAt W w.heap.size WL →
                  W.cell? ⟨gA + 1 + 1, 7, none⟩ = some (V32 x7) ∧ W.cell? ⟨gA + 1 + 1, 4, none⟩ = some (V32 x4) ∧ W.cell? ⟨gA + 1 + 1, 5, none⟩ = some (V32 x5) ∧ W.cell? ⟨gA + 1 + 1, 6, none⟩ = some (V32 x6) ∧ C4 gA (.int .i64 6) (.int .i64 11) (.int .i64 25) (.int .i64 0) W ∧ W.cell? ⟨w.heap.size, k, none⟩ = some (V32 xk) := fun W h1 h2 h3 => ⟨h1.cell 7 _ rfl, h1.cell 4 _ rfl, h1.cell 5 _ rfl, h1.cell 6 _ rfl, h2, hck W h3⟩
              have HCS := Lib.hid hcs
              have HVd : Hid (VAt wr.drew (gA + 1 + 1) [x0, x1, x2, x3, x4, x5, x6, x7]) := HV.out
              have HAd : Hid (C4 gA (.int .i64 6) (.int .i64 11) (.int .i64 25) (.int .i64 0) wr.drew) := HA.out
              have HWd : Hid (WAt wr.drew w.heap.size WL) := HW.out
              clear hcs hck hkv
              go_wp2
              refine wp_region_held_drew (S := (fun w' => w'.cell? ⟨gA + 1 + 1, 7, none⟩ = some (V32 x7) ∧ w'.cell? ⟨gA + 1 + 1, 4, none⟩ = some (V32 x4) ∧ w'.cell? ⟨gA + 1 + 1, 5, none⟩ = some (V32 x5) ∧ w'.cell? ⟨gA + 1 + 1, 6, none⟩ = some (V32 x6) ∧ C4 gA (.int .i64 6) (.int .i64 11) (.int .i64 25) (.int .i64 0) w' ∧ w'.cell? ⟨w.heap.size, k, none⟩ = some (V32 xk))) (by kernel_rfl) (HCS.out _ HVd.out HAd.out HWd.out) (fun hHeld => ?_)
              refine held_take (i := 0) (v := ?_) rfl rfl (by kernel_rfl) (by kernel_rfl) (by kernel_rfl) (fun _ _ _ h => h) (by rfl) hHeld ?_ ?_
              rotate_left
              · rintro wh ⟨z7, z4, z5, z6, ⟨s0, s1, s2, s3⟩, zk⟩
                go_simp
                (try with_reducible rfl)
              simp only [Act.put, List.setIfInBounds_toArray, List.set_cons_zero, List.set_cons_succ]
              refine held_take (i := 1) (v := ?_) rfl rfl (by kernel_rfl) (by kernel_rfl) (by kernel_rfl) (fun _ _ _ h => h) (by rfl) hHeld ?_ ?_
              rotate_left
              · rintro wh ⟨z7, z4, z5, z6, ⟨s0, s1, s2, s3⟩, zk⟩
                go_simp
                (try with_reducible rfl)
              simp only [Act.put, List.setIfInBounds_toArray, List.set_cons_zero, List.set_cons_succ]
              refine held_take (i := 2) (v := ?_) rfl rfl (by kernel_rfl) (by kernel_rfl) (by kernel_rfl) (fun _ _ _ h => h) (by rfl) hHeld ?_ ?_
              rotate_left
              · rintro wh ⟨z7, z4, z5, z6, ⟨s0, s1, s2, s3⟩, zk⟩
                go_simp
                (try with_reducible rfl)
              simp only [Act.put, List.setIfInBounds_toArray, List.set_cons_zero, List.set_cons_succ]
              refine held_take (i := 3) (v := ?_) rfl rfl (by kernel_rfl) (by kernel_rfl) (by kernel_rfl) (fun _ _ _ h => h) (by rfl) hHeld ?_ ?_
              rotate_left
              · rintro wh ⟨z7, z4, z5, z6, ⟨s0, s1, s2, s3⟩, zk⟩
                go_simp
                (try with_reducible rfl)
              simp only [Act.put, List.setIfInBounds_toArray, List.set_cons_zero, List.set_cons_succ]
              refine held_take (i := 4) (v := ?_) rfl rfl (by kernel_rfl) (by kernel_rfl) (by kernel_rfl) (fun _ _ _ h => h) (by rfl) hHeld ?_ ?_
              rotate_left
              · rintro wh ⟨z7, z4, z5, z6, ⟨s0, s1, s2, s3⟩, zk⟩
                go_simp
                (try with_reducible rfl)
              simp only [Act.put, List.setIfInBounds_toArray, List.set_cons_zero, List.set_cons_succ]
              refine held_take (i := 7) (v := ?_) rfl rfl (by kernel_rfl) (by kernel_rfl) (by kernel_rfl) (fun _ _ _ h => h) (by rfl) hHeld ?_ ?_
              rotate_left
              · rintro wh ⟨z7, z4, z5, z6, ⟨s0, s1, s2, s3⟩, zk⟩
                go_simp
                (try with_reducible rfl)
              simp only [Act.put, List.setIfInBounds_toArray, List.set_cons_zero, List.set_cons_succ]
              refine held_take (i := 8) (v := ?_) rfl rfl (by kernel_rfl) (by kernel_rfl) (by kernel_rfl) (fun _ _ _ h => h) (by rfl) hHeld ?_ ?_
              rotate_left
              · rintro wh ⟨z7, z4, z5, z6, ⟨s0, s1, s2, s3⟩, zk⟩
                go_simp
                (try with_reducible rfl)
              simp only [Act.put, List.setIfInBounds_toArray, List.set_cons_zero, List.set_cons_succ]
              refine held_take (i := 9) (v := ?_) rfl rfl (by kernel_rfl) (by kernel_rfl) (by kernel_rfl) (fun _ _ _ h => h) (by rfl) hHeld ?_ ?_
              rotate_left
              · rintro wh ⟨z7, z4, z5, z6, ⟨s0, s1, s2, s3⟩, zk⟩
                go_simp
                (try with_reducible rfl)
              simp only [Act.put, List.setIfInBounds_toArray, List.set_cons_zero, List.set_cons_succ]
              refine held_take (i := 10) (v := ?_) rfl rfl (by kernel_rfl) (by kernel_rfl) (by kernel_rfl) (fun _ _ _ h => h) (by rfl) hHeld ?_ ?_
              rotate_left
              · rintro wh ⟨z7, z4, z5, z6, ⟨s0, s1, s2, s3⟩, zk⟩
                go_simp
                (try with_reducible rfl)
              simp only [Act.put, List.setIfInBounds_toArray, List.set_cons_zero, List.set_cons_succ]
              refine held_take (i := 11) (v := ?_) rfl rfl (by kernel_rfl) (by kernel_rfl) (by kernel_rfl) (fun _ _ _ h => h) (by rfl) hHeld ?_ ?_
              rotate_left
              · rintro wh ⟨z7, z4, z5, z6, ⟨s0, s1, s2, s3⟩, zk⟩
                go_simp
                (try with_reducible rfl)
              simp only [Act.put, List.setIfInBounds_toArray, List.set_cons_zero, List.set_cons_succ]
              refine held_take (i := 12) (v := ?_) rfl rfl (by kernel_rfl) (by kernel_rfl) (by kernel_rfl) (fun _ _ _ h => h) (by rfl) hHeld ?_ ?_
              rotate_left
              · rintro wh ⟨z7, z4, z5, z6, ⟨s0, s1, s2, s3⟩, zk⟩
                go_simp
                (try with_reducible rfl)
              simp only [Act.put, List.setIfInBounds_toArray, List.set_cons_zero, List.set_cons_succ]
              refine held_take (i := 13) (v := ?_) rfl rfl (by kernel_rfl) (by kernel_rfl) (by kernel_rfl) (fun _ _ _ h => h) (by rfl) hHeld ?_ ?_
              rotate_left
              · rintro wh ⟨z7, z4, z5, z6, ⟨s0, s1, s2, s3⟩, zk⟩
                go_simp
                (try with_reducible rfl)
              simp only [Act.put, List.setIfInBounds_toArray, List.set_cons_zero, List.set_cons_succ]
              refine held_take (i := 14) (v := ?_) rfl rfl (by kernel_rfl) (by kernel_rfl) (by kernel_rfl) (fun _ _ _ h => h) (by rfl) hHeld ?_ ?_
              rotate_left
              · rintro wh ⟨z7, z4, z5, z6, ⟨s0, s1, s2, s3⟩, zk⟩
                go_simp
                (try with_reducible rfl)
              simp only [Act.put, List.setIfInBounds_toArray, List.set_cons_zero, List.set_cons_succ]
              refine held_take (i := 15) (v := ?_) rfl rfl (by kernel_rfl) (by kernel_rfl) (by kernel_rfl) (fun _ _ _ h => h) (by rfl) hHeld ?_ ?_
              rotate_left
              · rintro wh ⟨z7, z4, z5, z6, ⟨s0, s1, s2, s3⟩, zk⟩
                go_simp
                (try with_reducible rfl)
              simp only [Act.put, List.setIfInBounds_toArray, List.set_cons_zero, List.set_cons_succ]
              refine held_take (i := 16) (v := ?_) rfl rfl (by kernel_rfl) (by kernel_rfl) (by kernel_rfl) (fun _ _ _ h => h) (by rfl) hHeld ?_ ?_
              rotate_left
              · rintro wh ⟨z7, z4, z5, z6, ⟨s0, s1, s2, s3⟩, zk⟩
                go_simp
                (try with_reducible rfl)
              simp only [Act.put, List.setIfInBounds_toArray, List.set_cons_zero, List.set_cons_succ]
              refine held_take (i := 17) (v := ?_) rfl rfl (by kernel_rfl) (by kernel_rfl) (by kernel_rfl) (fun _ _ _ h => h) (by rfl) hHeld ?_ ?_
              rotate_left
              · rintro wh ⟨z7, z4, z5, z6, ⟨s0, s1, s2, s3⟩, zk⟩
                go_simp
                (try with_reducible rfl)
              simp only [Act.put, List.setIfInBounds_toArray, List.set_cons_zero, List.set_cons_succ]
              refine held_take (i := 18) (v := ?_) rfl rfl (by kernel_rfl) (by kernel_rfl) (by kernel_rfl) (fun _ _ _ h => h) (by rfl) hHeld ?_ ?_
              rotate_left
              · rintro wh ⟨z7, z4, z5, z6, ⟨s0, s1, s2, s3⟩, zk⟩
                go_simp
                (try with_reducible rfl)
              simp only [Act.put, List.setIfInBounds_toArray, List.set_cons_zero, List.set_cons_succ]
              refine held_take (i := 20) (v := ?_) rfl rfl (by kernel_rfl) (by kernel_rfl) (by kernel_rfl) (fun _ _ _ h => h) (by rfl) hHeld ?_ ?_
              rotate_left
              · rintro wh ⟨z7, z4, z5, z6, ⟨s0, s1, s2, s3⟩, zk⟩
                go_simp
                (try with_reducible rfl)
              simp only [Act.put, List.setIfInBounds_toArray, List.set_cons_zero, List.set_cons_succ]
              refine held_take (i := 22) (v := ?_) rfl rfl (by kernel_rfl) (by kernel_rfl) (by kernel_rfl) (fun _ _ _ h => h) (by rfl) hHeld ?_ ?_
              rotate_left
              · rintro wh ⟨z7, z4, z5, z6, ⟨s0, s1, s2, s3⟩, zk⟩
                go_simp
                (try with_reducible rfl)
              simp only [Act.put, List.setIfInBounds_toArray, List.set_cons_zero, List.set_cons_succ]
              refine held_take (i := 23) (v := ?_) rfl rfl (by kernel_rfl) (by kernel_rfl) (by kernel_rfl) (fun _ _ _ h => h) (by rfl) hHeld ?_ ?_
              rotate_left
              · rintro wh ⟨z7, z4, z5, z6, ⟨s0, s1, s2, s3⟩, zk⟩
                go_simp
                (try with_reducible rfl)
              simp only [Act.put, List.setIfInBounds_toArray, List.set_cons_zero, List.set_cons_succ]
              refine held_take (i := 24) (v := ?_) rfl rfl (by kernel_rfl) (by kernel_rfl) (by kernel_rfl) (fun _ _ _ h => h) (by rfl) hHeld ?_ ?_
              rotate_left
              · rintro wh ⟨z7, z4, z5, z6, ⟨s0, s1, s2, s3⟩, zk⟩
                go_simp
                (try with_reducible rfl)
              simp only [Act.put, List.setIfInBounds_toArray, List.set_cons_zero, List.set_cons_succ]
              refine held_call (i := 5) rfl (by kernel_rfl) (by rfl) (fun K hK => ?_)
              (go_simp; go_at_call 111; refine (kA _).mono ?_; rintro e w1 ⟨rfl, hb1⟩; have HV1 := Lib.hid (HVd.out.later hb1); have HA1 := Lib.hid (HAd.out.later hb1 (by show gA < wr.heap.size; omega)); have HW1 := Lib.hid (HWd.out.later hb1))
              refine hK.out _ _ (HCS.out _ HV1.out HA1.out HW1.out) (fun hHeld => ?_)
              clear hK K
              (try simp only [Act.put, List.setIfInBounds_toArray, List.set_cons_zero, List.set_cons_succ])
              refine held_take (i := 6) (v := ?_) rfl rfl (by kernel_rfl) (by kernel_rfl) (by kernel_rfl) (fun _ _ _ h => h) (by rfl) hHeld ?_ ?_
              rotate_left
              · rintro wh ⟨z7, z4, z5, z6, ⟨s0, s1, s2, s3⟩, zk⟩
                go_simp
                (try with_reducible rfl)
              simp only [Act.put, List.setIfInBounds_toArray, List.set_cons_zero, List.set_cons_succ]
              refine held_take (i := 19) (v := ?_) rfl rfl (by kernel_rfl) (by kernel_rfl) (by kernel_rfl) (fun _ _ _ h => h) (by rfl) hHeld ?_ ?_
              rotate_left
              · rintro wh ⟨z7, z4, z5, z6, ⟨s0, s1, s2, s3⟩, zk⟩
                go_simp
                (try with_reducible rfl)
              simp only [Act.put, List.setIfInBounds_toArray, List.set_cons_zero, List.set_cons_succ]
              refine held_take (i := 21) (v := ?_) rfl rfl (by kernel_rfl) (by kernel_rfl) (by kernel_rfl) (fun _ _ _ h => h) (by rfl) hHeld ?_ ?_
              rotate_left
              · rintro wh ⟨z7, z4, z5, z6, ⟨s0, s1, s2, s3⟩, zk⟩
                go_simp
                (try with_reducible rfl)
              simp only [Act.put, List.setIfInBounds_toArray, List.set_cons_zero, List.set_cons_succ]
              refine held_take (i := 25) (v := ?_) rfl rfl (by kernel_rfl) (by kernel_rfl) (by kernel_rfl) (fun _ _ _ h => h) (by rfl) hHeld ?_ ?_
              rotate_left
              · rintro wh ⟨z7, z4, z5, z6, ⟨s0, s1, s2, s3⟩, zk⟩
                go_simp
                (try with_reducible rfl)
              simp only [Act.put, List.setIfInBounds_toArray, List.set_cons_zero, List.set_cons_succ]
              refine held_take (i := 26) (v := ?_) rfl rfl (by kernel_rfl) (by kernel_rfl) (by kernel_rfl) (fun _ _ _ h => h) (by rfl) hHeld ?_ ?_
              rotate_left
              · rintro wh ⟨z7, z4, z5, z6, ⟨s0, s1, s2, s3⟩, zk⟩
                go_simp
                (try with_reducible rfl)
              simp only [Act.put, List.setIfInBounds_toArray, List.set_cons_zero, List.set_cons_succ]
              refine wpAnyH_done (by kernel_rfl) ?_ _
              clear e1 e2 e3 e4 e5 e6 e7 e8
              have hlt1 := Nat.lt_of_lt_of_le hlt3 hb1.size
              have HN1 := Lib.hid (HN.out.later (bl_drewN (Below.refl wr.heap.size wr) 1) (by omega) |>.later hb1 (by show gA + 1 < wr.heap.size; omega))
              have HS1 := Lib.hid ((HS3.out.later (bl_drewN (Below.refl wr.heap.size wr) 1)).later hb1)
              have hbr1 := (hbr.drew).trans (hb1.mono hbr.size)
              have HNd : Hid (C4 (gA + 1) (.int .i64 2) (.int .i64 13) (.int .i64 22) (.int .i64 0) w1.drew) := HN1.out
              have HV1d : Hid (VAt w1.drew (gA + 1 + 1) [x0, x1, x2, x3, x4, x5, x6, x7]) := HV1.out
              have hcs2 : ∀ W, VAt W (gA + 1 + 1) [x0, x1, x2, x3, x4, x5, x6, x7] → C4 (gA + 1) (.int .i64 2) (.int .i64 13) (.int .i64 22) (.int .i64 0) W →
                  W.cell? ⟨gA + 1 + 1, 0, none⟩ = some (V32 x0) ∧ W.cell? ⟨gA + 1 + 1, 1, none⟩ = some (V32 x1) ∧ W.cell? ⟨gA + 1 + 1, 2, none⟩ = some (V32 x2) ∧ C4 (gA + 1) (.int .i64 2) (.int .i64 13) (.int .i64 22) (.int .i64 0) W := fun W h1 h2 => ⟨h1.cell 0 _ rfl, h1.cell 1 _ rfl, h1.cell 2 _ rfl, h2⟩
              have HC2 := Lib.hid hcs2
              clear hcs2 hHeld HV HA HN HS3 HW hbr kA HCS HVd HAd HWd hidx
              go_wp2
              refine wp_region_held_drew (S := (fun w' => w'.cell? ⟨gA + 1 + 1, 0, none⟩ = some (V32 x0) ∧ w'.cell? ⟨gA + 1 + 1, 1, none⟩ = some (V32 x1) ∧ w'.cell? ⟨gA + 1 + 1, 2, none⟩ = some (V32 x2) ∧ C4 (gA + 1) (.int .i64 2) (.int .i64 13) (.int .i64 22) (.int .i64 0) w')) (by kernel_rfl) (HC2.out _ HV1d.out HNd.out) (fun hHeld => ?_)
              refine held_take (i := 0) (v := ?_) rfl rfl (by kernel_rfl) (by kernel_rfl) (by kernel_rfl) (fun _ _ _ h => h) (by rfl) hHeld ?_ ?_
              rotate_left
              · rintro wh ⟨z0, z1, z2, ⟨s0, s1, s2, s3⟩⟩
                go_simp
                (try with_reducible rfl)
              simp only [Act.put, List.setIfInBounds_toArray, List.set_cons_zero, List.set_cons_succ]
              refine held_take (i := 1) (v := ?_) rfl rfl (by kernel_rfl) (by kernel_rfl) (by kernel_rfl) (fun _ _ _ h => h) (by rfl) hHeld ?_ ?_
              rotate_left
              · rintro wh ⟨z0, z1, z2, ⟨s0, s1, s2, s3⟩⟩
                go_simp
                (try with_reducible rfl)
              simp only [Act.put, List.setIfInBounds_toArray, List.set_cons_zero, List.set_cons_succ]
              refine held_take (i := 2) (v := ?_) rfl rfl (by kernel_rfl) (by kernel_rfl) (by kernel_rfl) (fun _ _ _ h => h) (by rfl) hHeld ?_ ?_
              rotate_left
              · rintro wh ⟨z0, z1, z2, ⟨s0, s1, s2, s3⟩⟩
                go_simp
                (try with_reducible rfl)
              simp only [Act.put, List.setIfInBounds_toArray, List.set_cons_zero, List.set_cons_succ]
              refine held_take (i := 4) (v := ?_) rfl rfl (by kernel_rfl) (by kernel_rfl) (by kernel_rfl) (fun _ _ _ h => h) (by rfl) hHeld ?_ ?_
              rotate_left
              · rintro wh ⟨z0, z1, z2, ⟨s0, s1, s2, s3⟩⟩
                go_simp
                (try with_reducible rfl)
              simp only [Act.put, List.setIfInBounds_toArray, List.set_cons_zero, List.set_cons_succ]
              refine held_take (i := 5) (v := ?_) rfl rfl (by kernel_rfl) (by kernel_rfl) (by kernel_rfl) (fun _ _ _ h => h) (by rfl) hHeld ?_ ?_
              rotate_left
              · rintro wh ⟨z0, z1, z2, ⟨s0, s1, s2, s3⟩⟩
                go_simp
                (try with_reducible rfl)
              simp only [Act.put, List.setIfInBounds_toArray, List.set_cons_zero, List.set_cons_succ]
              refine held_take (i := 6) (v := ?_) rfl rfl (by kernel_rfl) (by kernel_rfl) (by kernel_rfl) (fun _ _ _ h => h) (by rfl) hHeld ?_ ?_
              rotate_left
              · rintro wh ⟨z0, z1, z2, ⟨s0, s1, s2, s3⟩⟩
                go_simp
                (try with_reducible rfl)
              simp only [Act.put, List.setIfInBounds_toArray, List.set_cons_zero, List.set_cons_succ]
              refine held_take (i := 7) (v := ?_) rfl rfl (by kernel_rfl) (by kernel_rfl) (by kernel_rfl) (fun _ _ _ h => h) (by rfl) hHeld ?_ ?_
              rotate_left
              · rintro wh ⟨z0, z1, z2, ⟨s0, s1, s2, s3⟩⟩
                go_simp
                (try with_reducible rfl)
              simp only [Act.put, List.setIfInBounds_toArray, List.set_cons_zero, List.set_cons_succ]
              refine held_take (i := 8) (v := ?_) rfl rfl (by kernel_rfl) (by kernel_rfl) (by kernel_rfl) (fun _ _ _ h => h) (by rfl) hHeld ?_ ?_
              rotate_left
              · rintro wh ⟨z0, z1, z2, ⟨s0, s1, s2, s3⟩⟩
                go_simp
                (try with_reducible rfl)
              simp only [Act.put, List.setIfInBounds_toArray, List.set_cons_zero, List.set_cons_succ]
              refine held_take (i := 9) (v := ?_) rfl rfl (by kernel_rfl) (by kernel_rfl) (by kernel_rfl) (fun _ _ _ h => h) (by rfl) hHeld ?_ ?_
              rotate_left
              · rintro wh ⟨z0, z1, z2, ⟨s0, s1, s2, s3⟩⟩
                go_simp
                (try with_reducible rfl)
              simp only [Act.put, List.setIfInBounds_toArray, List.set_cons_zero, List.set_cons_succ]
              refine held_take (i := 10) (v := ?_) rfl rfl (by kernel_rfl) (by kernel_rfl) (by kernel_rfl) (fun _ _ _ h => h) (by rfl) hHeld ?_ ?_
              rotate_left
              · rintro wh ⟨z0, z1, z2, ⟨s0, s1, s2, s3⟩⟩
                go_simp
                (try with_reducible rfl)
              simp only [Act.put, List.setIfInBounds_toArray, List.set_cons_zero, List.set_cons_succ]
              refine held_take (i := 11) (v := ?_) rfl rfl (by kernel_rfl) (by kernel_rfl) (by kernel_rfl) (fun _ _ _ h => h) (by rfl) hHeld ?_ ?_
              rotate_left
              · rintro wh ⟨z0, z1, z2, ⟨s0, s1, s2, s3⟩⟩
                go_simp
                (try with_reducible rfl)
              simp only [Act.put, List.setIfInBounds_toArray, List.set_cons_zero, List.set_cons_succ]
              refine held_take (i := 12) (v := ?_) rfl rfl (by kernel_rfl) (by kernel_rfl) (by kernel_rfl) (fun _ _ _ h => h) (by rfl) hHeld ?_ ?_
              rotate_left
              · rintro wh ⟨z0, z1, z2, ⟨s0, s1, s2, s3⟩⟩
                go_simp
                (try with_reducible rfl)
              simp only [Act.put, List.setIfInBounds_toArray, List.set_cons_zero, List.set_cons_succ]
              refine held_take (i := 13) (v := ?_) rfl rfl (by kernel_rfl) (by kernel_rfl) (by kernel_rfl) (fun _ _ _ h => h) (by rfl) hHeld ?_ ?_
              rotate_left
              · rintro wh ⟨z0, z1, z2, ⟨s0, s1, s2, s3⟩⟩
                go_simp
                (try with_reducible rfl)
              simp only [Act.put, List.setIfInBounds_toArray, List.set_cons_zero, List.set_cons_succ]
              refine held_take (i := 14) (v := ?_) rfl rfl (by kernel_rfl) (by kernel_rfl) (by kernel_rfl) (fun _ _ _ h => h) (by rfl) hHeld ?_ ?_
              rotate_left
              · rintro wh ⟨z0, z1, z2, ⟨s0, s1, s2, s3⟩⟩
                go_simp
                (try with_reducible rfl)
              simp only [Act.put, List.setIfInBounds_toArray, List.set_cons_zero, List.set_cons_succ]
              refine held_take (i := 15) (v := ?_) rfl rfl (by kernel_rfl) (by kernel_rfl) (by kernel_rfl) (fun _ _ _ h => h) (by rfl) hHeld ?_ ?_
              rotate_left
              · rintro wh ⟨z0, z1, z2, ⟨s0, s1, s2, s3⟩⟩
                go_simp
                (try with_reducible rfl)
              simp only [Act.put, List.setIfInBounds_toArray, List.set_cons_zero, List.set_cons_succ]
              refine held_take (i := 16) (v := ?_) rfl rfl (by kernel_rfl) (by kernel_rfl) (by kernel_rfl) (fun _ _ _ h => h) (by rfl) hHeld ?_ ?_
              rotate_left
              · rintro wh ⟨z0, z1, z2, ⟨s0, s1, s2, s3⟩⟩
                go_simp
                (try with_reducible rfl)
              simp only [Act.put, List.setIfInBounds_toArray, List.set_cons_zero, List.set_cons_succ]
              refine held_take (i := 17) (v := ?_) rfl rfl (by kernel_rfl) (by kernel_rfl) (by kernel_rfl) (fun _ _ _ h => h) (by rfl) hHeld ?_ ?_
              rotate_left
              · rintro wh ⟨z0, z1, z2, ⟨s0, s1, s2, s3⟩⟩
                go_simp
                (try with_reducible rfl)
              simp only [Act.put, List.setIfInBounds_toArray, List.set_cons_zero, List.set_cons_succ]
              refine held_take (i := 18) (v := ?_) rfl rfl (by kernel_rfl) (by kernel_rfl) (by kernel_rfl) (fun _ _ _ h => h) (by rfl) hHeld ?_ ?_
              rotate_left
              · rintro wh ⟨z0, z1, z2, ⟨s0, s1, s2, s3⟩⟩
                go_simp
                (try with_reducible rfl)
              simp only [Act.put, List.setIfInBounds_toArray, List.set_cons_zero, List.set_cons_succ]
              refine held_take (i := 19) (v := ?_) rfl rfl (by kernel_rfl) (by kernel_rfl) (by kernel_rfl) (fun _ _ _ h => h) (by rfl) hHeld ?_ ?_
              rotate_left
              · rintro wh ⟨z0, z1, z2, ⟨s0, s1, s2, s3⟩⟩
                go_simp
                (try with_reducible rfl)
              simp only [Act.put, List.setIfInBounds_toArray, List.set_cons_zero, List.set_cons_succ]
              refine held_take (i := 20) (v := ?_) rfl rfl (by kernel_rfl) (by kernel_rfl) (by kernel_rfl) (fun _ _ _ h => h) (by rfl) hHeld ?_ ?_
              rotate_left
              · rintro wh ⟨z0, z1, z2, ⟨s0, s1, s2, s3⟩⟩
                go_simp
                (try with_reducible rfl)
              simp only [Act.put, List.setIfInBounds_toArray, List.set_cons_zero, List.set_cons_succ]
              refine held_call (i := 3) rfl (by kernel_rfl) (by rfl) (fun K hK => ?_)
              (go_simp; go_at_call 111; refine (kN _).mono ?_; rintro e w2 ⟨rfl, hb2⟩; have HV2 := Lib.hid (HV1d.out.later hb2); have HN2 := Lib.hid (HNd.out.later hb2 (by show gA + 1 < w1.heap.size; omega)))
              refine hK.out _ _ (HC2.out _ HV2.out HN2.out) (fun hHeld => ?_)
              clear hK K
              (try simp only [Act.put, List.setIfInBounds_toArray, List.set_cons_zero, List.set_cons_succ])
              refine held_take (i := 21) (v := ?_) rfl rfl (by kernel_rfl) (by kernel_rfl) (by kernel_rfl) (fun _ _ _ h => h) (by rfl) hHeld ?_ ?_
              rotate_left
              · rintro wh ⟨z0, z1, z2, ⟨s0, s1, s2, s3⟩⟩
                go_simp
                (try with_reducible rfl)
              simp only [Act.put, List.setIfInBounds_toArray, List.set_cons_zero, List.set_cons_succ]
              refine held_take (i := 22) (v := ?_) rfl rfl (by kernel_rfl) (by kernel_rfl) (by kernel_rfl) (fun _ _ _ h => h) (by rfl) hHeld ?_ ?_
              rotate_left
              · rintro wh ⟨z0, z1, z2, ⟨s0, s1, s2, s3⟩⟩
                go_simp
                (try with_reducible rfl)
              simp only [Act.put, List.setIfInBounds_toArray, List.set_cons_zero, List.set_cons_succ]
              refine wpAnyH_done (by kernel_rfl) ?_ _
              clear f1 f2 f3 f4 f5 f6
              have hlt2 := Nat.lt_of_lt_of_le hlt1 hb2.size
              have HA2 := Lib.hid (HA1.out.later (bl_drewN (Below.refl w1.heap.size w1) 1) (by omega) |>.later hb2 (by show gA < w1.heap.size; omega))
              have HW2 := Lib.hid ((HW1.out.later (bl_drewN (Below.refl w1.heap.size w1) 1)).later hb2)
              have HS2 := Lib.hid ((HS1.out.later (bl_drewN (Below.refl w1.heap.size w1) 1)).later hb2)
              have hbr2 := (hbr1.drew).trans (hb2.mono hbr1.size)
              clear hHeld HV1 HA1 HN1 HS1 HW1 hbr1 kN HC2 HNd HV1d hb1 hb2 hlt3 hlt1
              have HV2d : Hid (VAt w2.drew (gA + 1 + 1) [x0, x1, x2, x3, x4, x5, x6, x7]) := HV2.out
              have hv2h := HV2d.out.2
              have HV2s := Lib.hid HV2d.out.src
              have HH2 := Lib.hid hv2h
              clear hv2h
              go_wp2
              refine wp_region_held_drew (S := (fun _ => True)) (by kernel_rfl) trivial (fun hHeld => ?_)
              refine held_take (i := 0) (v := ?_) rfl rfl (by kernel_rfl) (by kernel_rfl) (by kernel_rfl) (fun _ _ _ h => h) (by rfl) hHeld ?_ ?_
              rotate_left
              · rintro wh _
                go_simp
                (try with_reducible rfl)
              simp only [Act.put, List.setIfInBounds_toArray, List.set_cons_zero, List.set_cons_succ]
              refine held_take (i := 1) (v := ?_) rfl rfl (by kernel_rfl) (by kernel_rfl) (by kernel_rfl) (fun _ _ _ h => h) (by rfl) hHeld ?_ ?_
              rotate_left
              · rintro wh _
                go_simp
                (try with_reducible rfl)
              simp only [Act.put, List.setIfInBounds_toArray, List.set_cons_zero, List.set_cons_succ]
              refine held_step (i := 2) rfl (by kernel_rfl) (fun K hK => ?_)
              (refine step_copy_splice rfl (.tmp 146) (.tmp 147) 176 176 rfl 32 Try.underlying176 (by kernel_rfl) (some ⟨gA + 1 + 1, 1, none⟩) (some ⟨gA + 1 + 1, 0, none⟩) 7 7 7 8 rfl rfl (gA + 1 + 1) 1 [V32 x0, V32 x1, V32 x2, V32 x3, V32 x4, V32 x5, V32 x6, V32 x7] 121 HH2.out [V32 x0, V32 x1, V32 x2, V32 x3, V32 x4, V32 x5, V32 x6] rfl (fun _ => ⟨rfl, _, rfl, HV2s.out⟩) (by simp) (by simp [Value.oneCell']) (gA + 1 + 1) w2 ((Below.refl _ _).drew) (Nat.le_refl _) ?_; intro w4 hg4 hb4)
              refine hK.out _ _ trivial (fun hHeld => ?_)
              clear hK K
              (try simp only [Act.put, List.setIfInBounds_toArray])
              refine wpAnyH_done (by kernel_rfl) ?_ _
              have HV4 : Hid (VAt w4 (gA + 1 + 1) [x0, x0, x1, x2, x3, x4, x5, x6]) := ⟨rfl, hg4.out⟩
              have HA4 := Lib.hid (HA2.out.of_heap (hb4.block gA (by omega)))
              have HN4 := Lib.hid (HN2.out.of_heap (hb4.block (gA + 1) (by omega)))
              have HW4 := Lib.hid (HW2.out.of_heap (hb4.block w.heap.size (by omega)))
              have HS4 := Lib.hid (HS2.out.of_heap (hb4.block p (by omega)))
              have hlt4 := Nat.lt_of_lt_of_le hlt2 hb4.size
              have hbr4 := hbr2.trans (hb4.mono (by omega))
              have d4 := HV4.out.cell 4 x3 rfl
              have f4 := HV4.out.free 4
              have HV5 := Lib.hid (HV4.out.put 4 ((x3 + T) % 4294967296))
              clear hHeld HV2 HA2 HN2 HW2 HS2 HV2d HV2s HH2 hg4 hb4 hbr2 hlt2
              go_upto_region 20 with fail
              have HA5 := Lib.hid (HA4.out.of_heap (heap_else w4 (gA + 1 + 1) 4 gA (V32 ((x3 + T) % 4294967296)) (by omega)))
              have HN5 := Lib.hid (HN4.out.of_heap (heap_else w4 (gA + 1 + 1) 4 (gA + 1) (V32 ((x3 + T) % 4294967296)) (by omega)))
              have HW5 := Lib.hid (HW4.out.of_heap (heap_else w4 (gA + 1 + 1) 4 w.heap.size (V32 ((x3 + T) % 4294967296)) (by omega)))
              have HS5 := Lib.hid (HS4.out.of_heap (heap_else w4 (gA + 1 + 1) 4 p (V32 ((x3 + T) % 4294967296)) (by omega)))
              have hbr5 := hbr4.trans (below_setCell (B := w.heap.size) w4 (gA + 1 + 1) 4 (V32 ((x3 + T) % 4294967296)) (by omega))
              have hlt5 : gA + 1 + 1 < (w4.setCell ⟨gA + 1 + 1, 4, none⟩ (V32 ((x3 + T) % 4294967296))).heap.size := by rw [World.size_setCell]; exact hlt4
              clear d4 f4 HV4 HA4 HN4 HW4 HS4 hbr4 hlt4
              generalize w4.setCell ⟨gA + 1 + 1, 4, none⟩ (V32 ((x3 + T) % 4294967296)) = w5 at *
              have d0 := HV5.out.cell 0 x0 rfl
              have f0 := HV5.out.free 0
              have HV6 : Hid (VAt (w5.setCell ⟨gA + 1 + 1, 0, none⟩ (V32 ((T + U) % 4294967296))) (gA + 1 + 1) (roundsL WL [h0, h1, h2, h3, h4, h5, h6, h7] (k + 1))) := by rw [HR.out]; exact HV5.out.put 0 ((T + U) % 4294967296)
              have HA6 := Lib.hid (HA5.out.of_heap (heap_else w5 (gA + 1 + 1) 0 gA (V32 ((T + U) % 4294967296)) (by omega)))
              have HN6 := Lib.hid (HN5.out.of_heap (heap_else w5 (gA + 1 + 1) 0 (gA + 1) (V32 ((T + U) % 4294967296)) (by omega)))
              have HW6 := Lib.hid (HW5.out.of_heap (heap_else w5 (gA + 1 + 1) 0 w.heap.size (V32 ((T + U) % 4294967296)) (by omega)))
              have HS6 := Lib.hid (HS5.out.of_heap (heap_else w5 (gA + 1 + 1) 0 p (V32 ((T + U) % 4294967296)) (by omega)))
              have hbr6 := hbr5.trans (below_setCell (B := w.heap.size) w5 (gA + 1 + 1) 0 (V32 ((T + U) % 4294967296)) (by omega))
              have hlt6 : gA + 1 + 1 < (w5.setCell ⟨gA + 1 + 1, 0, none⟩ (V32 ((T + U) % 4294967296))).heap.size := by rw [World.size_setCell]; exact hlt5
              clear HV5 HA5 HN5 HW5 HS5 hbr5 hlt5
              go_wp2
              go_roundw
              case rel => exact ⟨k + 1, by omega, by go_num, HW6, HV6, HA6, HN6, HS6, hlt6, hbr6⟩
              case measure => (simp [intOf]; try omega)
            · obtain rfl : k = 64 := by omega
              rw [show ((64 : Nat) : Int) = 64 from rfl]
              have HVl := HV.out.1
              obtain ⟨UL, hUL⟩ : ∃ u, roundsL WL [h0, h1, h2, h3, h4, h5, h6, h7] 64 = u := ⟨_, rfl⟩
              obtain ⟨VL, hVL⟩ : ∃ v, [h0, h1, h2, h3, h4, h5, h6, h7] = v := ⟨_, rfl⟩
              have HUL : Hid (blockL bs [h0, h1, h2, h3, h4, h5, h6, h7] = addL VL UL) := by show _ = _; unfold blockL; rw [HWL.out, hUL, hVL]
              rw [hUL] at HV HVl
              rw [hVL] at HS3
              have hg := below_grown hbr (some p)
              have HVg := Lib.hid HV.out
              have HSg : Hid (SumAt wr p (partL VL UL 0) rv cnt) := by rw [partL_zero HS3.out.1]; exact HS3
              have hgvp : gA + 1 + 1 ≠ p := by omega
              clear HV HS3 HW HA HN hUL hVL hbr
              go_wp2
              go_loopw [159] (fun i wr => ∃ k : Nat, k ≤ 8 ∧ i = .int .i64 k ∧ Hid (SumAt wr p (partL VL UL k) rv cnt) ∧ Hid (VAt wr (gA + 1 + 1) UL) ∧ w.grownBy wr (some p)) (fun i _ => 8 - (intOf i).toNat)
              case atStart => exact ⟨0, Nat.zero_le _, rfl, HSg, HVg, hg⟩
              case round =>
                obtain ⟨k, hk, rfl, HS, HV, hg⟩ := hrel
                by_cases hkl : k < 8
                · obtain ⟨x, hx⟩ : ∃ x, VL.getD k 0 = x := ⟨_, rfl⟩
                  obtain ⟨y, hy⟩ : ∃ y, UL.getD k 0 = y := ⟨_, rfl⟩
                  obtain ⟨z, hz⟩ : ∃ z, (x + y) % 4294967296 = z := ⟨_, rfl⟩
                  have HN : Hid ((partL VL UL k).set k z = partL VL UL (k + 1)) := by show _ = _; rw [← hz, ← hx, ← hy]; exact partL_succ VL UL k hkl
                  have c1 : wr.cell? ⟨p, k, none⟩ = some (V32 x) := by rw [HS.out.word k hkl, partL_at _ _ k hkl, hx]
                  have c2 : wr.cell? ⟨gA + 1 + 1, k, none⟩ = some (V32 y) := HV.out.cell k y (by rw [← hy, List.getD_eq_getElem?_getD, List.getElem?_eq_getElem (by rw [HV.out.1]; exact hkl)]; rfl)
                  have hwz : IntKind.u32.wrap (x + y) = z := by rw [IntKind.wrap_u32']; exact hz
                  have hI : (k : Int) < 8 := by omega
                  clear hx hy hz
                  go_wp2
                  go_still_tail 13, (by kernel_rfl)
                  have HSd : Hid (SumAt wr.drew p (partL VL UL k) rv cnt) := HS.out
                  have HVd : Hid (VAt wr.drew (gA + 1 + 1) UL) := HV.out
                  have hgd : w.grownBy wr.drew (some p) := grown_two hg (below_grown ((Below.refl _ _).drew) (some p))
                  change wpList _ _ _ _ _ wr.drew
                  clear HS HV hg c2
                  have c1 : wr.drew.cell? ⟨p, k, none⟩ = some (V32 x) := c1
                  generalize wr.drew = w2 at *
                  have f1 := HSd.out.free k
                  have HS2 : Hid (SumAt (w2.setCell ⟨p, k, none⟩ (V32 z)) p (partL VL UL (k + 1)) rv cnt) := by rw [← HN.out]; exact HSd.out.put k hkl z
                  have HV2 := Lib.hid (HVd.out.of_heap (heap_else w2 p k (gA + 1 + 1) (V32 z) hgvp))
                  have hg2 := grown_two hgd (grown_setCell w2 p k (V32 z))
                  go_wp2
                  go_roundw
                  case rel => exact ⟨k + 1, by omega, by go_num, HS2, HV2, hg2⟩
                  case measure => (simp [intOf]; try omega)
                · obtain rfl : k = 8 := by omega
                  rw [partL_all] at HS
                  go_wp2
                  go_end0
                  exact ⟨rfl, by rw [HUL.out]; exact HS.out, hg⟩
end Go.Proofs.Ytipnhpfpppblhaa

/- digest.Sum.Add: a contract. -/
namespace Go.Proofs.Ytipnhpfpppblhaa
open Go.RowKit
abbrev V8 (x : Int) : Value := .int .u8 x
def ByteL (bs : List Int) : Prop := ∀ x ∈ bs, 0 ≤ x ∧ x < 256
theorem v8_cells (z : List Int) : ∀ y ∈ z.map V8, y.oneCell' = true := by
  intro y hy
  obtain ⟨x, _, rfl⟩ := List.mem_map.1 hy
  rfl
def ByAt (w : World) (v : Value) (l : List Int) : Prop := RdAt w v l.length 1 (l.map V8)
theorem ByAt.later {w w' : World} {v : Value} {l : List Int} (h : ByAt w v l) (hb : Below w.heap.size w w') : ByAt w' v l := RdAt.later h hb
def blocksL (V bs : List Int) : Nat → List Int
  | 0 => V
  | k + 1 => blockL ((bs.drop (64 * k)).take 64) (blocksL V bs k)
theorem info_u8 : (Try.prog.info? 5).map (fun i => (i.zero, i.size, i.bytes)) = some (some (.int .u8 0), 1, 1) := by kernel_rfl
theorem by_block {w : World} {v : Value} {l : List Int} (h : ByAt w v l) (h0 : 64 ≤ l.length) (hB : ByteL l) : ∃ b o c, v = .slice (some ⟨b, o, none⟩) l.length c ∧ l.length ≤ c ∧ b < w.heap.size ∧ Bytes8 w ⟨b, o, none⟩ (l.take 64) ∧
    ∀ j x, l[j]? = some x → w.cell? ⟨b, o + j, none⟩ = some (V8 x) := by
  obtain ⟨b, o, c, hv, hc, hlt, hcell⟩ := RdAt.some h (by omega)
  have hx : ∀ j x, l[j]? = some x → w.cell? ⟨b, o + j, none⟩ = some (V8 x) := fun j x hx => hcell j _ (by rw [List.getElem?_map, hx]; rfl)
  refine ⟨b, o, c, hv, hc, hlt, ⟨b, o, rfl, hlt, fun j hj => ?_⟩, hx⟩
  have hj' : j < l.length := by rw [List.length_take] at hj; omega
  rw [List.getElem_take]
  exact ⟨hx j _ (List.getElem?_eq_getElem hj'), hB _ (List.getElem_mem hj')⟩
theorem SumAt.setCount {w : World} {p : Nat} {V : List Int} {rv : Value} {cnt : Int} (h : SumAt w p V rv cnt) (c : Int) : SumAt (w.setCell ⟨p, 9, none⟩ (.int .i64 c)) p V rv c := by
  refine ⟨h.1, ?_⟩
  rw [heap_setCell_same w p 9 _ _ _ h.2]
  have hl := h.1
  match V, hl with
  | [x0, x1, x2, x3, x4, x5, x6, x7], _ => rfl
theorem SumAt.setRest {w : World} {p : Nat} {V : List Int} {rv : Value} {cnt : Int} (h : SumAt w p V rv cnt) (r : Value) : SumAt (w.setCell ⟨p, 8, none⟩ r) p V r cnt := by
  refine ⟨h.1, ?_⟩
  rw [heap_setCell_same w p 8 _ _ _ h.2]
  have hl := h.1
  match V, hl with
  | [x0, x1, x2, x3, x4, x5, x6, x7], _ => rfl
def restLen (w : World) (p : Nat) : Nat := match w.cell? ⟨p, 8, none⟩ with | some (.slice _ n _) => n | _ => 0
theorem SumAt.restLen {w : World} {p : Nat} {V : List Int} {a : Option Addr} {n c : Nat} {cnt : Int} (h : SumAt w p V (.slice a n c) cnt) : Go.Proofs.Ytipnhpfpppblhaa.restLen w p = n := by
  unfold Go.Proofs.Ytipnhpfpppblhaa.restLen; rw [h.rest]
theorem row_apart {w : World} {base p : Nat} {e t : TypeId} {size n : Nat} {v : Value} {xs : List Value} {cs : Array Value} {fr : Nat × Nat} (h : w.ownsRow base e size v n xs) (hp : w.heap[p]? = some (.cells cs t fr)) (hne : e ≠ t) : v.ownBlock ≠ some p := by
  rcases h.2 with ⟨rfl, _⟩ | ⟨g, cap, cur, rfl, _, hg, _⟩
  · simp [Value.ownBlock]
  · intro hk
    have : g = p := by simpa [Value.ownBlock] using hk
    subst this
    rw [hg] at hp
    simp only [Option.some.injEq, Obj.cells.injEq] at hp
    exact hne hp.2.1
theorem rd_beside {w w' : World} {v : Value} {n k : Nat} {xs : List Value} {p : Nat} (h : RdAt w v n k xs) (hg : w.grownBy w' (some p)) (hne : v.ownBlock ≠ some p) : RdAt w' v n k xs := by
  refine ⟨h.1, ?_⟩
  rcases h.2 with h | ⟨a, c, rfl, hc, hr⟩
  · exact .inl h
  · refine .inr ⟨a, c, rfl, hc, fun hn => ?_⟩
    obtain ⟨b, o, rfl, hlt, hcell⟩ := hr hn
    refine ⟨b, o, rfl, Nat.lt_of_lt_of_le hlt hg.size, fun j x hx => ?_⟩
    rw [World.cell?_of_block (a := ⟨b, o + j, none⟩) (hg.block b hlt (fun e => hne (by rw [← e]; rfl)))]
    exact hcell j x hx
theorem below_row {w w' : World} {base p : Nat} (hg : w.grownBy w' (some p)) (hp : base ≤ p) (hs : base ≤ w.heap.size) : Below base w w' := (Below.refl base w).grown hg hs (fun k hk => by cases hk; exact hp)
set_option maxHeartbeats 3200000 in
set_option maxRecDepth 100000 in
theorem add_any (V rb bs : List Int) (cnt : Int) (rv v : Value) (p base : Nat) (w : World) (hS : SumAt w p V rv cnt) (hown : w.ownsRow base 5 1 rv rb.length (rb.map V8)) (hb : ByAt w v bs) (hB : ByteL (rb ++ bs))
    (hvp : v.ownBlock ≠ some p) (hbp : base ≤ p) (hbw : base ≤ w.heap.size) (hl : rb.length + bs.length ≤ 140737488355328) (hc : 0 ≤ cnt ∧ cnt + bs.length ≤ 4611686018427387904) :
    Calls Try.prog 83 #[.pointer (some ⟨p, 0, none⟩), v] w fun e w' => ∃ rv' k, e = .returned (.int .i64 (cnt + bs.length)) ∧ k = (rb ++ bs).length / 64 ∧ SumAt w' p (blocksL V (rb ++ bs) k) rv' (cnt + bs.length) ∧ ByAt w' rv' ((rb ++ bs).drop (64 * k)) ∧ Below base w w' := by
  obtain ⟨a, c, rfl, hcap, _⟩ := RdAt.shape hb
  obtain ⟨i0, hi, hz0, hz1, hz2⟩ := info_parts info_u8
  have hne1 : rv.ownBlock ≠ some p := row_apart hown hS.2 (by decide)
  have g9 := hS.count
  have f9 := hS.free 9
  have hS1 := hS.setCount (cnt + bs.length)
  have hg1 := grown_setCell w p 9 (.int .i64 (cnt + bs.length))
  have hown1 : (w.setCell ⟨p, 9, none⟩ (.int .i64 (cnt + bs.length))).ownsRow base 5 1 rv rb.length (rb.map V8) := hown.kept hg1 (.inr hne1)
  have hb1 : ByAt (w.setCell ⟨p, 9, none⟩ (.int .i64 (cnt + bs.length))) (.slice a bs.length c) bs := rd_beside hb hg1 hvp
  have hbl1 : Below base w (w.setCell ⟨p, 9, none⟩ (.int .i64 (cnt + bs.length))) := below_row hg1 hbp hbw
  have hww : (w.setCell ⟨p, 9, none⟩ (.int .i64 (cnt + bs.length))).heap.size = w.heap.size := World.size_setCell _ _ _
  have hcn : cnt + (bs.length : Int) ≤ 4611686018427387904 := hc.2
  have HB := Lib.hid hB
  clear hS hown hb hg1 hB
  go_enter Try.func83, Try.ntmps83
  go_upto_region 4 with fail
  clear g9 f9
  generalize w.setCell ⟨p, 9, none⟩ (.int .i64 (cnt + bs.length)) = w1 at *
  generalize hC : cnt + (bs.length : Int) = C at *
  have HC := Lib.hid hC
  clear hC
  have g8 := hS1.rest
  go_wp2_with (at_builtin; (refine wpList_append_rd rfl (.tmp 20) (.tmp 21) 103 rfl base 5 i0 (.int .u8 0) 1 1 Try.underlying103 hi hz0 hz1 hz2 rfl (by decide) _ _ _ rfl hown1 _ bs.length (bs.map V8) rfl hb1 (v8_cells bs) (by unfold maxLen; omega) (by omega) (by omega) ?_); intro v2 w2 hown2 hgrow2; obtain ⟨a2, c2, rfl, hc2, _⟩ := RdAt.shape (RdAt.own hown2); have hS2 := hS1.of_heap (hgrow2.block p hS1.lt (fun e => hne1 e.symm)); have g8 := hS2.rest; have f8 := hS2.free 8)
  have hne2 := row_apart hown2 hS2.2 (by decide)
  have hbl2 : Below base w w2 := hbl1.trans ((Below.refl base w1).grown hgrow2 (by omega) (fun k hk => (hown1.lt k hk).1))
  have hbs2 : base ≤ w2.heap.size := by have := hgrow2.size; omega
  have hS3 := hS2.setRest (.slice a2 (rb.length + bs.length) c2)
  have hg3 := grown_setCell w2 p 8 (.slice a2 (rb.length + bs.length) c2)
  have hrd3 := rd_beside (RdAt.own hown2) hg3 hne2
  have hbl3 : Below base w (w2.setCell ⟨p, 8, none⟩ (.slice a2 (rb.length + bs.length) c2)) := hbl2.trans (below_row hg3 hbp hbs2)
  have hbs3 : base ≤ (w2.setCell ⟨p, 8, none⟩ (.slice a2 (rb.length + bs.length) c2)).heap.size := by rw [World.size_setCell]; exact hbs2
  clear hS1 hS2 hown1 hown2 hgrow2 hbl1 hbl2 hbs2 hg3 g8 f8 hb1 hww
  generalize w2.setCell ⟨p, 8, none⟩ (.slice a2 (rb.length + bs.length) c2) = w3 at *
  obtain ⟨BS, hBS⟩ : ∃ l, rb ++ bs = l := ⟨_, rfl⟩
  have hBl : rb.length + bs.length = BS.length := by rw [← hBS, List.length_append]
  have hrd : ByAt w3 (.slice a2 BS.length c2) (BS.drop (64 * 0)) := by
    have e : rb.map V8 ++ bs.map V8 = BS.map V8 := by rw [← hBS, List.map_append]
    rw [hBl, e] at hrd3
    exact hrd3
  rw [hBl] at hS3 hne2
  rw [hBS] at HB
  have hSl : SumAt w3 p (blocksL V BS 0) (.slice a2 BS.length c2) C := hS3
  have hblen : Hid ((rb ++ bs) = BS) := Lib.hid hBS
  have hBl2 : BS.length ≤ 140737488355328 := by omega
  clear hrd3 hS3 hBS hBl
  have hrd0 : Hid (ByAt w3 (.slice a2 BS.length c2) (BS.drop (64 * 0))) := Lib.hid hrd
  have hSl0 := Lib.hid hSl
  clear hrd hSl
  go_wp2
  go_loopw [25] (fun _ wr => ∃ (k n c' : Nat) (a' : Option Addr), n + 64 * k = BS.length ∧ Hid (SumAt wr p (blocksL V BS k) (.slice a' n c') C) ∧ Hid (ByAt wr (.slice a' n c') (BS.drop (64 * k))) ∧ (Value.slice a' n c').ownBlock ≠ some p ∧ Below base w wr ∧ base ≤ wr.heap.size) (fun _ wr => restLen wr p)
  case atStart => exact ⟨0, BS.length, c2, a2, by omega, hSl0, hrd0, hne2, hbl3, hbs3⟩
  case round =>
    obtain ⟨k, n, c', a', hn, HS, HR, hne, hbl, hbs⟩ := hrel
    have hdl : (BS.drop (64 * k)).length = n := by rw [List.length_drop]; omega
    have hrl := HS.out.restLen
    have g8 := HS.out.rest
    by_cases h64 : 64 ≤ n
    · have hBk : ByteL (BS.drop (64 * k)) := fun x hx => HB.out x (List.mem_of_mem_drop hx)
      obtain ⟨b, o, c'', hv, hcc, hlt, h8, hcell⟩ := by_block HR.out (by omega) hBk
      rw [hdl] at hv hcc
      cases hv
      have hbp2 : b ≠ p := fun e => hne (by rw [e]; rfl)
      have hround := round_any ((BS.drop (64 * k)).take 64) (blocksL V BS k) p ⟨b, o, none⟩ c' wr (by rw [List.length_take]; omega) h8 (.slice (some ⟨b, o, none⟩) n c') C HS.out
      have hI1 : (64 : Int) ≤ (n : Int) := by omega
      have hI2 : (64 : Int) ≤ (c' : Int) := by omega
      have hI3 : (n : Int) ≤ (c' : Int) := by omega
      have HCELL := Lib.hid hcell
      clear hcell h8 hBk
      go_wp2_with fail
      refine hround.mono ?_
      rintro e w4 ⟨rfl, hS4, hg4⟩
      have hbl4 := hbl.trans (below_row hg4 hbp hbs)
      have hbs4 : base ≤ w4.heap.size := Nat.le_trans hbs hg4.size
      have g8' := hS4.rest
      have f8 := hS4.free 8
      have hb4 : b < w4.heap.size := Nat.lt_of_lt_of_le hlt hg4.size
      have hc4 : Hid (∀ j x, (BS.drop (64 * k))[j]? = some x → w4.cell? ⟨b, o + j, none⟩ = some (V8 x)) := Lib.hid (fun j x hx => by
        rw [World.cell?_of_block (a := ⟨b, o + j, none⟩) (hg4.block b hlt (fun e => hbp2 (by cases e; rfl)))]
        exact HCELL.out j x hx)
      have hst : ∀ (oa : Option Addr) (c9 : Nat), n - 64 ≤ c9 → (∃ a9, oa = some a9 ∧ (0 < n - 64 → a9 = ⟨b, o + 64, none⟩) ∧ a9.block = b) → (∃ (k n' c' : Nat) (a' : Option Addr), n' + 64 * k = BS.length ∧ Hid (SumAt (w4.setCell ⟨p, 8, none⟩ (.slice oa (n - 64) c9)) p (blocksL V BS k) (.slice a' n' c') C) ∧ Hid (ByAt (w4.setCell ⟨p, 8, none⟩ (.slice oa (n - 64) c9)) (.slice a' n' c') (BS.drop (64 * k))) ∧ (Value.slice a' n' c').ownBlock ≠ some p ∧ Below base w (w4.setCell ⟨p, 8, none⟩ (.slice oa (n - 64) c9)) ∧ base ≤ (w4.setCell ⟨p, 8, none⟩ (.slice oa (n - 64) c9)).heap.size) := by
        rintro oa c9 h9 ⟨a9, rfl, ha, hab⟩
        have hg9 := grown_setCell w4 p 8 (.slice (some a9) (n - 64) c9)
        refine ⟨k + 1, n - 64, c9, some a9, by omega, Lib.hid (hS4.setRest _), Lib.hid ?_, ?_, hbl4.trans (below_row hg9 hbp hbs4), by rw [World.size_setCell]; exact hbs4⟩
        · refine ⟨by simp, .inr ⟨a9, c9, by rw [List.length_drop]; congr 1; omega, by rw [List.length_drop]; omega, fun h0 => ?_⟩⟩
          rw [List.length_drop] at h0
          refine ⟨b, o + 64, ha (by omega), by rw [World.size_setCell]; exact hb4, fun j x hx => ?_⟩
          rw [World.cell?_of_block (a := ⟨b, o + 64 + j, none⟩) (hg9.block b hb4 (fun e => hbp2 (by cases e; rfl)))]
          rw [List.getElem?_map, Option.map_eq_some_iff] at hx
          obtain ⟨y, hy, rfl⟩ := hx
          have := hc4.out (64 + j) y (by rw [List.getElem?_drop] at hy ⊢; rw [← hy]; congr 1; omega)
          rw [Nat.add_assoc]; exact this
        · intro e
          have : a9.block = p := by simpa [Value.ownBlock] using e
          exact hbp2 (by rw [← hab, this])
      have HST := Lib.hid hst
      have hrl2 : ∀ (a9 : Option Addr) (c9 : Nat), Go.Proofs.Ytipnhpfpppblhaa.restLen (w4.setCell ⟨p, 8, none⟩ (.slice a9 (n - 64) c9)) p = n - 64 := fun a9 c9 => (hS4.setRest (.slice a9 (n - 64) c9)).restLen
      have HRL := Lib.hid hrl2
      clear hst hrl2 hS4 hg4 HS HR hround g8 hbl HCELL
      go_wp2
      go_roundw
      case rel => exact HST.out _ _ (by omega) (by split; exact ⟨_, rfl, fun h => by omega, rfl⟩; exact ⟨_, rfl, fun _ => rfl, rfl⟩)
      case measure => rw [HRL.out, hrl]; omega
    · have hI1 : (n : Int) < 64 := by omega
      have g9 := HS.out.count
      clear hrl
      go_wp2
      go_ret
      rw [HC.out, hblen.out]
      exact ⟨_, k, rfl, by omega, HS.out, HR.out, hbl⟩
end Go.Proofs.Ytipnhpfpppblhaa

/- digest.New, slices.Clone at bytes, digest.Sum.Now: contracts. -/
namespace Go.Proofs.Ytipnhpfpppblhaa
open Go.RowKit
set_option maxHeartbeats 800000 in
theorem new_any (w : World) : Calls Try.prog 82 #[] w fun e w' => ∃ p, e = .returned (.pointer (some ⟨p, 0, none⟩)) ∧ w.heap.size ≤ p ∧ SumAt w' p startL (.slice none 0 0) 0 ∧ Below w.heap.size w w' := by
  go_enter Try.func82, Try.ntmps82
  go_wp2_with fail
  refine (start_any _).mono ?_
  rintro e w1 ⟨rfl, hb1⟩
  have hs : startV = #[V32 1779033703, V32 3144134277, V32 1013904242, V32 2773480762, V32 1359893119, V32 2600822924, V32 528734635, V32 1541459225] := rfl
  rw [hs]
  go_wp2
  go_ret
  exact ⟨w1.heap.size, rfl, hb1.size, ⟨rfl, heap_alloc_new _ _⟩, hb1.alloc hb1.size _⟩
theorem own_empty (w : World) (t : TypeId) : (w.alloc (.cells #[] t)).ownsRow w.heap.size t 1 (.slice (some ⟨w.heap.size, 0, none⟩) 0 0) 0 [] :=
  ⟨rfl, .inr ⟨w.heap.size, 0, #[], rfl, Nat.le_refl _, heap_alloc_new _ _, Nat.le_refl _, by decide, rfl, rfl⟩⟩
set_option maxHeartbeats 800000 in
set_option maxRecDepth 100000 in
theorem clone8 (l : List Int) (w : World) (v : Value) (h : ByAt w v l) (hl : l.length ≤ 140737488355328) :
    Calls Try.prog 102 #[v] w fun e w' => ∃ v', e = .returned v' ∧ w'.ownsRow w.heap.size 5 1 v' l.length (l.map V8) ∧ Below w.heap.size w w' := by
  obtain ⟨i0, hi, hz0, hz1, hz2⟩ := info_parts info_u8
  have q22 : ∀ (w : World) (a : Option Addr) (n c n' c' : Nat), (binOp .eql 103 (.slice a n c) (.slice none n' c')).run Try.prog w = .ok (.bool a.isNone) w := fun w a n c n' c' => Lib.run_eql_slice_nil w _ _ a n c n' c' Try.underlying103
  rcases h.2 with ⟨rfl, h0⟩ | ⟨a, c, rfl, hc, hr⟩
  · have hnil : l = [] := List.length_eq_zero_iff.1 h0
    subst hnil
    go_enter Try.func102, Try.ntmps102
    go_wp2
    go_ret
    exact ⟨_, rfl, World.ownsRow_nil _ _ _ _, Below.refl _ _⟩
  · have h1 := h.later (alloc_below w (.cells #[] 5))
    have h2 := own_empty w 5
    have hb := alloc_below w (.cells #[] 5)
    go_enter Try.func102, Try.ntmps102
    go_wp2_with (at_builtin; (refine wpList_append_rd rfl (.tmp 5) (.tmp 6) 103 rfl w.heap.size 5 i0 (.int .u8 0) 1 1 Try.underlying103 hi hz0 hz1 hz2 rfl (by decide) _ 0 [] rfl h2 _ l.length (l.map V8) rfl h1 (v8_cells l) (by unfold maxLen; omega) (by omega) (by simp) ?_); intro v2 w2 hown2 hgrow2)
    go_ret
    refine ⟨_, rfl, ?_, hb.grown hgrow2 hb.size (fun k hk => (h2.lt k hk).1)⟩
    have e : 0 + l.length = l.length := Nat.zero_add _
    rw [e] at hown2
    exact hown2
theorem rd_one8 (w : World) (x : Value) (t : TypeId) : RdAt (w.alloc (.cells #[x] t)) (.slice (some ⟨w.heap.size, 0, none⟩) 1 1) 1 1 [x] :=
  RdAt.mk rfl (Nat.le_refl _) (by rw [World.size_alloc]; omega) (fun j y hj => by
    have hj0 : j = 0 := by have := (List.getElem?_eq_some_iff.1 hj).1; simpa using this
    subst hj0
    have := cell_one_new w x t 0 y hj
    simpa [Addr.add] using this)
def lenL (N : Int) (k : Nat) : List Int := (List.range k).map (fun (i : Nat) => N / 2 ^ (56 - 8 * i) % 256)
theorem lenL_succ (N : Int) (k : Nat) : lenL N (k + 1) = lenL N k ++ [N / 2 ^ (56 - 8 * k) % 256] := by simp [lenL, List.range_succ]
def outAt (X : List Int) (j : Nat) : Int := X.getD (j / 4) 0 / 2 ^ (24 - 8 * (j % 4)) % 256
def outL (X : List Int) (k : Nat) : List Int := (List.range k).map (outAt X)
theorem outL_succ (X : List Int) (k : Nat) : outL X (k + 1) = outL X k ++ [outAt X k] := by simp [outL, List.range_succ]
def ORow (w : World) (g : Nat) (S : List Int) : Prop := S.length ≤ 32 ∧ w.heap[g]? = some (.cells ((S.map V8 ++ List.replicate (32 - S.length) (V8 0)).toArray) 106 (0, 0))
theorem outL_len (X : List Int) (k : Nat) : (outL X k).length = k := by simp [outL]
theorem orow_new {w : World} {g : Nat} (h : w.heap[g]? = some (.cells (Array.replicate 32 (.int .u8 0)) 106 (0, 0))) (X : List Int) : ORow w g (outL X 0) := ⟨by simp [outL], by rw [h]; rfl⟩
theorem ORow.free {w : World} {g : Nat} {S : List Int} (h : ORow w g S) (j : Nat) : w.frozen? ⟨g, j, none⟩ = false := by simp [World.frozen?, h.2]
theorem ORow.old {w : World} {g : Nat} {S : List Int} (h : ORow w g S) (k : Nat) (hk : S.length = k) (hj : k < 32) : w.cell? ⟨g, k, none⟩ = some (V8 0) := by
  subst hk
  rw [cell_row h.2, List.getElem?_toArray, List.getElem?_append_right (by simp)]
  rw [List.length_map, Nat.sub_self, List.getElem?_replicate, if_pos (by omega)]
theorem ORow.store {w : World} {g : Nat} {S : List Int} (h : ORow w g S) {k : Nat} (hk : S.length = k) (hj : k < 32) (x : Int) : ORow (w.setCell ⟨g, k, none⟩ (V8 x)) g (S ++ [x]) := by
  subst hk
  refine ⟨by simp; omega, ?_⟩
  rw [heap_setCell_same w g S.length _ _ _ h.2]
  have e : 32 - S.length = (32 - (S ++ [x]).length) + 1 := by simp; omega
  rw [e, List.replicate_succ]
  congr 2
  simp [List.setIfInBounds_toArray]
def padL (rb : List Int) (m : Nat) (cnt : Int) : List Int := rb ++ [128] ++ List.replicate m 0 ++ lenL (IntKind.u64.wrap (IntKind.u64.wrap cnt * 8)) 8
def padN (n : Nat) : Nat := if n < 56 then 55 - n else 119 - n
theorem padN_eq {n m : Nat} (h64 : m < 64) (h : (n + 1 + m) % 64 = 56) (hn : n < 64) : m = padN n := by
  unfold padN; split <;> omega
def sumOut (V bs : List Int) : List Int := outL (blocksL V bs (bs.length / 64)) 32
theorem pad_bytes {rb : List Int} (hB : ByteL rb) (m : Nat) (N : Int) : ByteL ((rb ++ [128] ++ List.replicate m 0 ++ lenL N 8) ++ []) := by
  intro x hx
  rw [List.append_nil] at hx
  simp only [List.mem_append] at hx
  rcases hx with ((h | h) | h) | h
  · exact hB x h
  · obtain rfl := List.mem_singleton.1 h
    omega
  · obtain rfl := (List.mem_replicate.1 h).2
    omega
  · simp only [lenL, List.mem_map] at h
    obtain ⟨j, _, rfl⟩ := h
    omega
set_option maxHeartbeats 4000000 in
set_option maxRecDepth 100000 in
theorem now_any (V rb : List Int) (cnt : Int) (rv : Value) (p : Nat) (w : World) (hS : SumAt w p V rv cnt) (hr : ByAt w rv rb) (hB : ByteL rb) (hl : rb.length < 64) :
    Calls Try.prog 84 #[.pointer (some ⟨p, 0, none⟩)] w fun e w' => e = .returned (.agg ((sumOut V (padL rb (padN rb.length) cnt)).map V8).toArray) ∧ Below w.heap.size w w' := by
  obtain ⟨h0, h1, h2, h3, h4, h5, h6, h7, rfl⟩ : ∃ h0 h1 h2 h3 h4 h5 h6 h7, V = [h0, h1, h2, h3, h4, h5, h6, h7] := by
    have hl := hS.1
    match V, hl with
    | [a, b, c, d, e, f, g, h], _ => exact ⟨a, b, c, d, e, f, g, h, rfl⟩
  obtain ⟨i0, hi, hz0, hz1, hz2⟩ := info_parts info_u8
  obtain ⟨ra, rc, rfl, _, _⟩ := RdAt.shape hr
  have hb0 := alloc_below w (.cells (Array.replicate 32 (.int .u8 0)) 106)
  have hS0 := hS.later hb0
  have hr0 := hr.later hb0
  have hR0 : (w.alloc (.cells (Array.replicate 32 (.int .u8 0)) 106)).heap[w.heap.size]? = some (.cells (Array.replicate 32 (.int .u8 0)) 106 (0, 0)) := heap_alloc_new _ _
  have hsz0 := Lib.hid (World.size_alloc w (.cells (Array.replicate 32 (.int .u8 0)) 106))
  clear hS hr
  go_enter Try.func84, Try.ntmps84
  go_upto_region 3 with fail
  change Code.wp _ _ _ _ (w.alloc (.cells (Array.replicate 32 (.int .u8 0)) 106))
  generalize w.alloc (.cells (Array.replicate 32 (.int .u8 0)) 106) = w0 at *
  have hp0 := hS0.lt
  have g : w0.cell? ⟨p, 0, none⟩ = some (V32 h0) ∧ w0.cell? ⟨p, 1, none⟩ = some (V32 h1) ∧ w0.cell? ⟨p, 2, none⟩ = some (V32 h2) ∧ w0.cell? ⟨p, 3, none⟩ = some (V32 h3) ∧ w0.cell? ⟨p, 4, none⟩ = some (V32 h4) ∧ w0.cell? ⟨p, 5, none⟩ = some (V32 h5) ∧ w0.cell? ⟨p, 6, none⟩ = some (V32 h6) ∧ w0.cell? ⟨p, 7, none⟩ = some (V32 h7) ∧ w0.cell? ⟨p, 8, none⟩ = some (.slice ra rb.length rc) :=
    ⟨hS0.word 0 (by decide), hS0.word 1 (by decide), hS0.word 2 (by decide), hS0.word 3 (by decide), hS0.word 4 (by decide), hS0.word 5 (by decide), hS0.word 6 (by decide), hS0.word 7 (by decide), hS0.rest⟩
  have KS : ∀ W, Below w0.heap.size w0 W → W.cell? ⟨p, 0, none⟩ = some (V32 h0) ∧ W.cell? ⟨p, 1, none⟩ = some (V32 h1) ∧ W.cell? ⟨p, 2, none⟩ = some (V32 h2) ∧ W.cell? ⟨p, 3, none⟩ = some (V32 h3) ∧ W.cell? ⟨p, 4, none⟩ = some (V32 h4) ∧ W.cell? ⟨p, 5, none⟩ = some (V32 h5) ∧ W.cell? ⟨p, 6, none⟩ = some (V32 h6) ∧ W.cell? ⟨p, 7, none⟩ = some (V32 h7) ∧ W.cell? ⟨p, 8, none⟩ = some (.slice ra rb.length rc) := fun W hb =>
    ⟨keep_cell g.1 hb hp0, keep_cell g.2.1 hb hp0, keep_cell g.2.2.1 hb hp0, keep_cell g.2.2.2.1 hb hp0, keep_cell g.2.2.2.2.1 hb hp0, keep_cell g.2.2.2.2.2.1 hb hp0, keep_cell g.2.2.2.2.2.2.1 hb hp0, keep_cell g.2.2.2.2.2.2.2.1 hb hp0, keep_cell g.2.2.2.2.2.2.2.2 hb hp0⟩
  have hcl : ∀ W, Below w0.heap.size w0 W → Calls Try.prog 102 #[.slice ra rb.length rc] W fun e w' => ∃ v', e = .returned v' ∧ w'.ownsRow w0.heap.size 5 1 v' rb.length (rb.map V8) ∧ Below W.heap.size W w' := fun W hb => (clone8 rb W _ (hr0.later hb) (by omega)).mono (fun e w' ⟨v', h1, h2, h3⟩ => ⟨v', h1, own_base h2 hb.size, h3⟩)
  have HKS := Lib.hid KS
  have HCL := Lib.hid hcl
  have HG := Lib.hid g
  clear KS hcl g
  go_cut [3] (fun s3 wx => ∃ E v2, s3 = .pointer (some ⟨E, 0, none⟩) ∧ w0.heap.size ≤ E ∧ SumAt wx E [h0, h1, h2, h3, h4, h5, h6, h7] v2 0 ∧ wx.ownsRow w0.heap.size 5 1 v2 (rb.length + 1) ((rb ++ [128]).map V8) ∧ Below w0.heap.size w0 wx)
  case first =>
    go_region_held3 (fun w' => w'.cell? ⟨p, 0, none⟩ = some (V32 h0) ∧ w'.cell? ⟨p, 1, none⟩ = some (V32 h1) ∧ w'.cell? ⟨p, 2, none⟩ = some (V32 h2) ∧ w'.cell? ⟨p, 3, none⟩ = some (V32 h3) ∧ w'.cell? ⟨p, 4, none⟩ = some (V32 h4) ∧ w'.cell? ⟨p, 5, none⟩ = some (V32 h5) ∧ w'.cell? ⟨p, 6, none⟩ = some (V32 h6) ∧ w'.cell? ⟨p, 7, none⟩ = some (V32 h7) ∧ w'.cell? ⟨p, 8, none⟩ = some (.slice ra rb.length rc))
      (first | exact HG.out | exact HKS.out _ ((Below.refl _ _).drew) | exact HKS.out _ (((Below.refl w0.heap.size w0).drew).alloc (Nat.le_refl _) _) | exact HKS.out _ hB2 | exact HKS.out _ hB1 | exact HKS.out _ (hB1.alloc hB1.size _) | exact HKS.out _ (hB2.alloc hB2.size _))
      (first
        | (refine step_append_rd (by rfl) (.tmp 19) (.tmp 20) _ (by rfl) w0.heap.size 5 i0 (.int .u8 0) 1 1 Try.underlying103 hi hz0 hz1 hz2 rfl (by decide) _ rb.length (rb.map V8) (by rfl) (by first | exact hown1 | exact own_later hown1 ((Below.refl _ _).alloc (Nat.le_refl _) _)) _ 1 [V8 128] (by rfl) (by first | exact rd_one8 w1 (V8 128) 5 | exact RdAt.later (w := (w0.alloc (.cells #[V8 128] 5)).drew) (rd_one8 w0 (V8 128) 5) hb1) (by simp [Value.oneCell']) (by unfold maxLen; omega) (by omega) (by first | exact hB1.size | exact Nat.le_trans hB1.size (by simp)) ?_; intro v2 w2 hown2 hgrow2 _; obtain ⟨a2, c2, rfl, _, _⟩ := RdAt.shape (RdAt.own hown2); have hB2 : Below w0.heap.size w0 w2 := by first | exact hB1.grown hgrow2 hB1.size (fun m hm => (hown1.lt m hm).1) | exact (hB1.alloc hB1.size _).grown hgrow2 (Nat.le_trans hB1.size (by simp)) (fun m hm => (hown1.lt m hm).1))
        | (go_at_call 102; refine (HCL.out _ (by first | exact (Below.refl _ _).drew | exact ((Below.refl w0.heap.size w0).drew).alloc (Nat.le_refl _) _)).mono ?_; rintro e w1 ⟨v1, rfl, hown1, hb1⟩; have hB1 : Below w0.heap.size w0 w1 := by first | exact ((Below.refl _ _).drew).trans hb1 | exact (((Below.refl w0.heap.size w0).drew).alloc (Nat.le_refl _) _).trans (hb1.mono (by simp))))
    all_goals (
      clear hown1 hgrow2 hb1 hB1
      go_wp2
      go_meet
      exact ⟨_, _, rfl, hB2.size, ⟨rfl, heap_alloc_new _ _⟩, by rw [List.map_append]; exact own_later hown2 (alloc_below _ _), hB2.alloc hB2.size _⟩)
  case rest =>
    obtain ⟨E, v2, rfl, hE, hSE, hown, hbE⟩ := hcut
    obtain ⟨M, hM1, hM2⟩ : ∃ M, (rb.length + 1 + M) % 64 = 56 ∧ ∀ m, m < M → (rb.length + 1 + m) % 64 ≠ 56 := by
      rcases Nat.lt_or_ge 55 rb.length with h | h
      · exact ⟨119 - rb.length, by omega, fun m hm => by omega⟩
      · exact ⟨55 - rb.length, by omega, fun m hm => by omega⟩
    have hM64 : M < 64 := by
      rcases Nat.lt_or_ge M 64 with h | h
      · exact h
      · rcases Nat.lt_or_ge 55 rb.length with h' | h'
        · exact absurd (by omega) (hM2 (119 - rb.length) (by omega))
        · exact absurd (by omega) (hM2 (55 - rb.length) (by omega))
    have HR0 := Lib.hid hR0
    have hSE' := Lib.hid hSE
    have hown' := Lib.hid hown
    have HS0 := Lib.hid hS0
    clear hSE hown HKS HCL HG hS0 hr0 hR0
    go_wp2
    go_loopw [24] (fun _ wr => ∃ (m n : Nat) (v : Value), m ≤ M ∧ n = rb.length + 1 + m ∧ Hid (SumAt wr E [h0, h1, h2, h3, h4, h5, h6, h7] v 0) ∧ Hid (wr.ownsRow w0.heap.size 5 1 v n ((rb ++ [128] ++ List.replicate m 0).map V8)) ∧ Below w0.heap.size w0 wr) (fun _ wr => rb.length + 1 + M - restLen wr E)
    case atStart => exact ⟨0, rb.length + 1, v2, Nat.zero_le _, rfl, hSE', Lib.hid (by simpa using hown'.out), hbE⟩
    case round =>
      obtain ⟨m, n, v, hm, hn, HS, HO, hbr⟩ := hrel
      have HNn := Lib.hid hn
      have hn70 : n ≤ 200 := by omega
      clear hn
      obtain ⟨a2, c2, rfl, hc2, _⟩ := RdAt.shape (RdAt.own HO.out)
      have g8 := HS.out.rest
      have hrl := HS.out.restLen
      have hne1 : (Value.slice a2 n c2).ownBlock ≠ some E := row_apart HO.out HS.out.2 (by decide)
      by_cases hmM : m < M
      · have hne := hM2 m hmM
        have hnb : ((n : Int) % 64 != 56) = true := by rw [bne_iff_ne]; have := HNn.out; omega
        have hrd := rd_one8 wr (V8 0) 5
        have hoa := own_later HO.out (alloc_below wr (.cells #[V8 0] 5))
        have hSa := HS.out.later (alloc_below wr (.cells #[V8 0] 5))
        have hba := hbr.alloc hbr.size (.cells #[V8 0] 5)
        go_wp2_with (at_builtin; (refine wpList_append_rd rfl (.tmp 35) (.tmp 36) 103 rfl w0.heap.size 5 i0 (.int .u8 0) 1 1 Try.underlying103 hi hz0 hz1 hz2 rfl (by decide) _ _ _ rfl hoa _ 1 [V8 0] rfl hrd (by simp [Value.oneCell']) (by unfold maxLen; omega) (by omega) hba.size ?_); intro v3 w3 hown3 hgrow3; obtain ⟨a3, c3, rfl, _, _⟩ := RdAt.shape (RdAt.own hown3); have hS3 := hSa.of_heap (hgrow3.block E hSa.lt (fun e => hne1 e.symm)); have g8' := hS3.rest; have f8' := hS3.free 8)
        have hb3 := hba.grown hgrow3 hba.size (fun k hk => (hoa.lt k hk).1)
        have hne3 := row_apart hown3 hS3.2 (by decide)
        have hS4 := Lib.hid (hS3.setRest (.slice a3 (n + 1) c3))
        have hg4 := grown_setCell w3 E 8 (.slice a3 (n + 1) c3)
        have hO4 := Lib.hid (hown3.kept hg4 (.inr hne3))
        have hb4 := hb3.trans (below_row hg4 hE hb3.size)
        have hrl4 := hS4.out.restLen
        clear hS3 g8' f8' hown3 hgrow3 hg4 hoa hSa hba hrd
        generalize w3.setCell ⟨E, 8, none⟩ (.slice a3 (n + 1) c3) = w4 at *
        go_wp2
        go_roundw
        case rel =>
          refine ⟨m + 1, n + 1, _, by omega, by have := HNn.out; omega, hS4, Lib.hid ?_, hb4⟩
          have := hO4.out
          rw [List.replicate_succ', ← List.append_assoc, List.map_append]
          exact this
        case measure => rw [hrl4, hrl]; have := HNn.out; omega
      · obtain rfl : m = M := by omega
        have hnb : ((n : Int) % 64 != 56) = false := by rw [bne_eq_false_iff_eq]; have := HNn.out; omega
        have g9 := (HS0.out.later hbr).count
        go_wp2
        have HM56 := Lib.hid hM1
        have HM64 := Lib.hid hM64
        clear g8 hrl hne1 hnb hM1 hM2 hM64 hm hmM g9 hown' hSE' HNn
        obtain ⟨N, hN⟩ : ∃ N, IntKind.u64.wrap (IntKind.u64.wrap cnt * 8) = N := ⟨_, rfl⟩
        rw [hN]
        have HN := Lib.hid hN
        clear hN
        obtain ⟨L, hL⟩ : ∃ L, rb ++ [128] ++ List.replicate m 0 = L := ⟨_, rfl⟩
        have HL := Lib.hid hL
        rw [hL] at HO
        clear hL
        have HBL : Hid (ByteL ((L ++ lenL N 8) ++ [])) := Lib.hid (by rw [← HL.out]; exact pad_bytes hB m N)
        go_loopw [46] (fun i wr => ∃ (k n' : Nat) (v : Value), k ≤ 8 ∧ i = .int .i64 k ∧ n' = n + k ∧ Hid (SumAt wr E [h0, h1, h2, h3, h4, h5, h6, h7] v 0) ∧ Hid (wr.ownsRow w0.heap.size 5 1 v n' ((L ++ lenL N k).map V8)) ∧ Below w0.heap.size w0 wr) (fun i _ => 8 - (intOf i).toNat)
        case atStart => exact ⟨0, n, _, Nat.zero_le _, rfl, rfl, HS, Lib.hid (by simpa [lenL] using HO.out), hbr⟩
        case round =>
          clear HS HO hbr
          obtain ⟨k, n', v, hk, rfl, hn', HS, HO, hbr⟩ := hrel
          have hn270 : n' ≤ 300 := by omega
          have HNn := Lib.hid hn'
          clear hn'
          obtain ⟨a2, c2, rfl, hc2, _⟩ := RdAt.shape (RdAt.own HO.out)
          have g8 := HS.out.rest
          have hne1 : (Value.slice a2 n' c2).ownBlock ≠ some E := row_apart HO.out HS.out.2 (by decide)
          by_cases hk8 : k < 8
          · have hI : (k : Int) < 8 := by omega
            have q1 : IntKind.i64.wrap (8 * (k : Int)) = 8 * (k : Int) := by rw [IntKind.wrap_i64]; omega
            obtain ⟨s, hs⟩ : ∃ s, 56 - 8 * (k : Int) = s := ⟨_, rfl⟩
            have q2 : IntKind.i64.wrap (56 - 8 * (k : Int)) = s := by rw [IntKind.wrap_i64]; omega
            have hs0 : 0 ≤ s := by omega
            have hs1 : s ≤ 64 := by omega
            obtain ⟨x, hx⟩ : ∃ x, IntKind.u8.wrap (N / 2 ^ s.toNat) = x := ⟨_, rfl⟩
            have HX : Hid (x = N / 2 ^ (56 - 8 * k) % 256) := Lib.hid (by rw [← hx, IntKind.wrap_u8']; congr 2; congr 1; omega)
            have hrd := rd_one8 wr (V8 x) 5
            have hoa := own_later HO.out (alloc_below wr (.cells #[V8 x] 5))
            have hSa := HS.out.later (alloc_below wr (.cells #[V8 x] 5))
            have hba := hbr.alloc hbr.size (.cells #[V8 x] 5)
            clear hs
            go_upto_region 10 with fail
            refine wp_region_heldS 15 (S := fun W : World => W.cell? ⟨E, 8, none⟩ = some (.slice a2 n' c2)) (by kernel_rfl) g8 (fun hHeld => ?_)
            refine heldS_take (i := 0) (v := ?_) rfl rfl (by kernel_rfl) (by kernel_rfl) (by kernel_rfl) (by kernel_rfl) (by kernel_rfl) (fun _ _ _ h => h) (by rfl) hHeld ?_ ?_
            rotate_left
            · rintro wh hcw
              go_simp
              (try with_reducible rfl)
            simp only [Act.put, List.setIfInBounds_toArray, List.set_cons_zero, List.set_cons_succ]
            refine heldS_take (i := 1) (v := ?_) rfl rfl (by kernel_rfl) (by kernel_rfl) (by kernel_rfl) (by kernel_rfl) (by kernel_rfl) (fun _ _ _ h => h) (by rfl) hHeld ?_ ?_
            rotate_left
            · rintro wh hcw
              go_simp
              (try with_reducible rfl)
            simp only [Act.put, List.setIfInBounds_toArray, List.set_cons_zero, List.set_cons_succ]
            refine heldS_take (i := 2) (v := ?_) rfl rfl (by kernel_rfl) (by kernel_rfl) (by kernel_rfl) (by kernel_rfl) (by kernel_rfl) (fun _ _ _ h => h) (by rfl) hHeld ?_ ?_
            rotate_left
            · rintro wh hcw
              go_simp
              (try with_reducible rfl)
            simp only [Act.put, List.setIfInBounds_toArray, List.set_cons_zero, List.set_cons_succ]
            refine heldS_take (i := 3) (v := ?_) rfl rfl (by kernel_rfl) (by kernel_rfl) (by kernel_rfl) (by kernel_rfl) (by kernel_rfl) (fun _ _ _ h => h) (by rfl) hHeld ?_ ?_
            rotate_left
            · rintro wh hcw
              go_simp
              (try with_reducible rfl)
            simp only [Act.put, List.setIfInBounds_toArray, List.set_cons_zero, List.set_cons_succ]
            refine heldS_take (i := 4) (v := ?_) rfl rfl (by kernel_rfl) (by kernel_rfl) (by kernel_rfl) (by kernel_rfl) (by kernel_rfl) (fun _ _ _ h => h) (by rfl) hHeld ?_ ?_
            rotate_left
            · rintro wh hcw
              go_simp
              (try with_reducible rfl)
            simp only [Act.put, List.setIfInBounds_toArray, List.set_cons_zero, List.set_cons_succ]
            refine heldS_take (i := 5) (v := ?_) rfl rfl (by kernel_rfl) (by kernel_rfl) (by kernel_rfl) (by kernel_rfl) (by kernel_rfl) (fun _ _ _ h => h) (by rfl) hHeld ?_ ?_
            rotate_left
            · rintro wh hcw
              go_simp
              (try with_reducible rfl)
            simp only [Act.put, List.setIfInBounds_toArray, List.set_cons_zero, List.set_cons_succ]
            refine heldS_take (i := 6) (v := ?_) rfl rfl (by kernel_rfl) (by kernel_rfl) (by kernel_rfl) (by kernel_rfl) (by kernel_rfl) (fun _ _ _ h => h) (by rfl) hHeld ?_ ?_
            rotate_left
            · rintro wh hcw
              go_simp
              (try with_reducible rfl)
            simp only [Act.put, List.setIfInBounds_toArray, List.set_cons_zero, List.set_cons_succ]
            refine heldS_take (i := 7) (v := ?_) rfl rfl (by kernel_rfl) (by kernel_rfl) (by kernel_rfl) (by kernel_rfl) (by kernel_rfl) (fun _ _ _ h => h) (by rfl) hHeld ?_ ?_
            rotate_left
            · rintro wh hcw
              go_simp
              (try with_reducible rfl)
            simp only [Act.put, List.setIfInBounds_toArray, List.set_cons_zero, List.set_cons_succ]
            refine heldS_take (i := 8) (v := ?_) rfl rfl (by kernel_rfl) (by kernel_rfl) (by kernel_rfl) (by kernel_rfl) (by kernel_rfl) (fun _ _ _ h => h) (by rfl) hHeld ?_ ?_
            rotate_left
            · rintro wh hcw
              go_simp
              (try with_reducible rfl)
            simp only [Act.put, List.setIfInBounds_toArray, List.set_cons_zero, List.set_cons_succ]
            refine heldS_take (i := 9) (v := ?_) rfl rfl (by kernel_rfl) (by kernel_rfl) (by kernel_rfl) (by kernel_rfl) (by kernel_rfl) (fun _ _ _ h => h) (by rfl) hHeld ?_ ?_
            rotate_left
            · rintro wh hcw
              go_simp
              (try with_reducible rfl)
            simp only [Act.put, List.setIfInBounds_toArray, List.set_cons_zero, List.set_cons_succ]
            refine heldS_take (i := 10) (v := ?_) rfl rfl (by kernel_rfl) (by kernel_rfl) (by kernel_rfl) (by kernel_rfl) (by kernel_rfl) (fun _ _ _ h => h) (by rfl) hHeld ?_ ?_
            rotate_left
            · rintro wh hcw
              go_simp
              (try with_reducible rfl)
            simp only [Act.put, List.setIfInBounds_toArray, List.set_cons_zero, List.set_cons_succ]
            refine heldS_step (i := 11) rfl (by kernel_rfl) (fun K hK => ?_)
            go_simp
            refine hK.out _ _ hSa.rest (fun hHeld => ?_)
            clear hK K
            (try simp only [Act.put, List.setIfInBounds_toArray])
            refine heldS_step (i := 12) rfl (by kernel_rfl) (fun K hK => ?_)
            (refine step_append_rd (by rfl) (.tmp 53) (.tmp 60) _ (by rfl) w0.heap.size 5 i0 (.int .u8 0) 1 1 Try.underlying103 hi hz0 hz1 hz2 rfl (by decide) _ _ _ (by rfl) hoa _ 1 [V8 x] (by rfl) hrd (by simp [Value.oneCell']) (by unfold maxLen; omega) (by omega) hba.size ?_); intro v3 w3 hown3 hgrow3 _; obtain ⟨a3, c3, rfl, _, _⟩ := RdAt.shape (RdAt.own hown3); have hS3 := hSa.of_heap (hgrow3.block E hSa.lt (fun e => hne1 e.symm)); have g8' := hS3.rest; have f8' := hS3.free 8
            refine hK.out _ _ g8' (fun hHeld => ?_)
            clear hK K
            (try simp only [Act.put, List.setIfInBounds_toArray])
            refine heldS_step (i := 13) rfl (by kernel_rfl) (fun K hK => ?_)
            go_simp
            refine hK.out _ _ g8' (fun hHeld => ?_)
            clear hK K
            (try simp only [Act.put, List.setIfInBounds_toArray])
            refine heldS_step (i := 14) rfl (by kernel_rfl) (fun K hK => ?_)
            go_simp
            refine hK.out _ _ g8' (fun hHeld => ?_)
            clear hK K
            (try simp only [Act.put, List.setIfInBounds_toArray])
            refine heldS_last (i := 15) rfl (by kernel_rfl) (by kernel_rfl) (fun K hK => ?_)
            go_simp
            refine hK.out _ _ ?_
            clear hK K
            (try simp only [Act.put, List.setIfInBounds_toArray])
            refine wpAnyEnd_done (by kernel_rfl) ?_ _
            have hb3 := hba.drew.grown hgrow3 hba.size (fun k hk => (hoa.lt k hk).1)
            have hne3 := row_apart hown3 hS3.2 (by decide)
            have hS4 := Lib.hid (hS3.setRest (.slice a3 (n' + 1) c3))
            have hg4 := grown_setCell w3 E 8 (.slice a3 (n' + 1) c3)
            have hO4 := Lib.hid (hown3.kept hg4 (.inr hne3))
            have hb4 := hb3.trans (below_row hg4 hE hb3.size)
            clear hS3 g8' f8' hown3 hgrow3 hg4 hoa hSa hba hrd g8 hb3 hne3 HS HO hbr hHeld q1 q2 hs0 hs1 hx
            change Exit.inBlock _ _ _ _ (w3.setCell ⟨E, 8, none⟩ (.slice a3 (n' + 1) c3))
            generalize w3.setCell ⟨E, 8, none⟩ (.slice a3 (n' + 1) c3) = w4 at *
            go_wp2
            go_roundw
            case rel =>
              refine ⟨k + 1, n' + 1, _, by omega, by go_num, by have := HNn.out; omega, hS4, Lib.hid ?_, hb4⟩
              rw [lenL_succ, ← HX.out, ← List.append_assoc, List.map_append]
              exact hO4.out
            case measure => (simp [intOf]; try omega)
          · obtain rfl : k = 8 := by omega
            rw [show ((8 : Nat) : Int) = 8 from rfl]
            have hLl : Hid ((L ++ lenL N 8).length = n') := Lib.hid (by have := HO.out.1; rw [List.length_map] at this; omega)
            have hadd := add_any [h0, h1, h2, h3, h4, h5, h6, h7] (L ++ lenL N 8) [] 0 (.slice a2 n' c2) (.slice none 0 0) E w0.heap.size wr HS.out (by rw [hLl.out]; exact HO.out) (RdAt.nil _ _) HBL.out (by simp [Value.ownBlock]) hE hbr.size (by rw [hLl.out]; simp; omega) (by simp)
            clear g8 hne1
            go_wp2_with fail
            refine hadd.mono ?_
            rintro e wa ⟨rv', kk, rfl, hkk, hSA, _, hba⟩
            obtain ⟨X, hX⟩ : ∃ X, blocksL [h0, h1, h2, h3, h4, h5, h6, h7] ((L ++ lenL N 8) ++ []) kk = X := ⟨_, rfl⟩
            rw [hX] at hSA
            have HXX : Hid (X = blocksL [h0, h1, h2, h3, h4, h5, h6, h7] (padL rb m cnt) ((padL rb m cnt).length / 64)) := Lib.hid (by rw [← hX, hkk, List.append_nil, ← HL.out, ← HN.out]; rfl)
            have hbA := hbr.trans hba
            have hR1' := Lib.hid ((hbA.block w.heap.size (by rw [hsz0.out]; omega)).trans HR0.out)
            have hSA2 := hSA.later (alloc_below wa (.cells (Array.replicate 32 (.int .u8 0)) 106))
            have hbA2 := hbA.alloc hbA.size (.cells (Array.replicate 32 (.int .u8 0)) 106)
            have hO2 : (wa.alloc (.cells (Array.replicate 32 (.int .u8 0)) 106)).heap[wa.heap.size]? = some (.cells (Array.replicate 32 (.int .u8 0)) 106 (0, 0)) := heap_alloc_new _ _
            have hEO : E < wa.heap.size := hSA.lt
            have hbw : w0.heap.size ≤ wa.heap.size := hbA.size
            clear hX hkk hSA hba hadd HBL hLl HO HS hbr hbA
            generalize (0 : Int) + (([] : List Int).length : Int) = cz at *
            have HSA := Lib.hid hSA2
            have HO3 : Hid (ORow (wa.alloc (.cells (Array.replicate 32 (.int .u8 0)) 106)) wa.heap.size (outL X 0)) := Lib.hid (orow_new hO2 X)
            have HbA := Lib.hid hbA2
            have HR2 : Hid ((wa.alloc (.cells (Array.replicate 32 (.int .u8 0)) 106)).heap[w.heap.size]? = some (.cells (Array.replicate 32 (.int .u8 0)) 106 (0, 0))) := Lib.hid ((hbA2.block w.heap.size (by rw [hsz0.out]; omega)).trans HR0.out)
            clear hSA2 hO2 hbA2 hR1'
            go_wp2
            obtain ⟨O, hO⟩ : ∃ O, O = wa.heap.size := ⟨_, rfl⟩
            have HOO := Lib.hid hO
            rw [← hO] at HO3 hEO hbw ⊢
            clear hO
            go_loopw [67] (fun i wr => ∃ (k : Nat), k ≤ 32 ∧ i = .int .i64 k ∧ Hid (SumAt wr E X rv' cz) ∧ Hid (ORow wr O (outL X k)) ∧ Hid (wr.heap[w.heap.size]? = some (.cells (Array.replicate 32 (.int .u8 0)) 106 (0, 0))) ∧ Hid (Below w0.heap.size w0 wr)) (fun i _ => 32 - (intOf i).toNat)
            case atStart => exact ⟨0, Nat.zero_le _, rfl, HSA, HO3, HR2, HbA⟩
            case round =>
              clear HSA HO3 HR2 HbA
              obtain ⟨k, hk, rfl, HS, HO, HR, HB⟩ := hrel
              by_cases hkl : k < 32
              · obtain ⟨q, hq⟩ : ∃ q, k / 4 = q := ⟨_, rfl⟩
                have hq1 : (k : Int) / 4 = (q : Int) := by omega
                have hq8 : q < 8 := by omega
                have hI1 : (q : Int) < 8 := by omega
                have hI2 : (k : Int) < 32 := by omega
                have g1 := HS.out.word q hq8
                obtain ⟨y, hy⟩ : ∃ y, X.getD q 0 = y := ⟨_, rfl⟩
                rw [hy] at g1
                obtain ⟨m8, hm8⟩ : ∃ m : Int, 8 * ((k : Int) % 4) = m := ⟨_, rfl⟩
                have q1 : IntKind.i64.wrap (8 * ((k : Int) % 4)) = m8 := by rw [IntKind.wrap_i64]; omega
                obtain ⟨s, hs⟩ : ∃ s : Int, 24 - m8 = s := ⟨_, rfl⟩
                have q2 : IntKind.i64.wrap (24 - m8) = s := by rw [IntKind.wrap_i64]; omega
                have hs0 : 0 ≤ s := by omega
                have hs1 : s ≤ 32 := by omega
                obtain ⟨x, hx⟩ : ∃ x, IntKind.u8.wrap (y / 2 ^ s.toNat) = x := ⟨_, rfl⟩
                have HX2 : Hid (x = outAt X k) := Lib.hid (by rw [← hx, IntKind.wrap_u8']; unfold outAt; rw [hq, hy]; congr 3; omega)
                have g2 := HO.out.old k (by simp [outL]) hkl
                have f2 := HO.out.free k
                have HST := Lib.hid (HO.out.store (k := k) (by simp [outL]) hkl x)
                have hS2 := Lib.hid (HS.out.of_heap (w' := wr.setCell ⟨O, k, none⟩ (V8 x)) (heap_setCell_other wr ⟨O, k, none⟩ E _ (by show E ≠ O; omega)))
                have hR2 := Lib.hid ((heap_setCell_other wr ⟨O, k, none⟩ w.heap.size (V8 x) (by have := hsz0.out; show w.heap.size ≠ O; omega)).trans HR.out)
                have hB2 := Lib.hid (HB.out.trans (below_setCell (B := w0.heap.size) wr O k (V8 x) (by omega)))
                clear hq hm8 hs hy HS HO HR HB
                go_wp2
                go_roundw
                case rel =>
                  refine ⟨k + 1, by omega, by go_num, hS2, Lib.hid ?_, hR2, hB2⟩
                  rw [outL_succ, ← HX2.out]
                  exact HST.out
                case measure => (simp [intOf]; try omega)
              · obtain rfl : k = 32 := by omega
                rw [show ((32 : Nat) : Int) = 32 from rfl]
                have hO5 : wr.heap[O]? = some (.cells ((outL X 32).map V8).toArray 106 (0, 0)) := by have := HO.out.2; rw [outL_len] at this; simpa using this
                go_upto_region 19 with fail
                have hOl : ((outL X 32).map V8).toArray.size = 32 := by simp [outL]
                have hI9 : (Try.prog.info? 106).map (·.size) = some ((outL X 32).map V8).toArray.size := by rw [hOl]; kernel_rfl
                apply wp_region_lit
                refine wpList_load_row rfl 106 (.tmp 6) rfl O rfl 106 ((outL X 32).map V8).toArray (0, 0) _ hO5 Try.underlying106 rfl hI9 ?_
                refine wpList_store_row rfl 106 (.tmp 2) (.tmp 86) rfl w.heap.size ((outL X 32).map V8).toArray rfl rfl 106 _ HR.out hI9 (by rw [hOl]; rfl) (all_oneCell_toArray (v8_cells _)) ?_
                have hg2 := setRow_heap wr w.heap.size _ ((outL X 32).map V8).toArray _ _ HR.out
                have hb2 : Below w.heap.size w (wr.setRow w.heap.size ((outL X 32).map V8).toArray) := below_setRow (hb0.trans (HB.out.mono hb0.size)) (Nat.le_refl _) _
                generalize wr.setRow w.heap.size ((outL X 32).map V8).toArray = w1 at *
                have hfin : outL X 32 = sumOut [h0, h1, h2, h3, h4, h5, h6, h7] (padL rb m cnt) := by unfold sumOut; rw [← HXX.out]
                have hm56 : (rb.length + 1 + m) % 64 = 56 := HM56.out
                simp only [Act.put, List.setIfInBounds_toArray, List.set_cons_zero, List.set_cons_succ]
                show Exit.then _ _ Exit.normal _ _
                simp only [Exit.then]
                refine (by assumption : ∀ (a : Act) (w : World), Code.wp _ Code.ret _ a w → _) _ _ ?_
                go_wp2
                refine bodyPost_ret (results_cell_row rfl _ _ w.heap.size 106 ((outL X 32).map V8).toArray (0, 0) (.array 32 5) rfl hg2 Try.underlying106 rfl hI9) rfl ?_
                refine ⟨?_, hb2⟩
                rw [hfin, padN_eq HM64.out hm56 hl]
end Go.Proofs.Ytipnhpfpppblhaa

/- slices.Concat at []byte: a contract. -/
namespace Go.Proofs.Ytipnhpfpppblhaa
open Go.RowKit Go.Sort
theorem grow_any (n : Nat) (w : World) (h0 : 0 < n) (hn : n ≤ 4000000) :
    Calls Try.prog 69 #[.slice none 0 0, .int .i64 n] w fun e w' => ∃ g cap, e = .returned (.slice (some ⟨g, 0, none⟩) 0 cap) ∧ w'.ownsRow w.heap.size 5 1 (.slice (some ⟨g, 0, none⟩) 0 cap) 0 [] ∧ Below w.heap.size w w' := by
  obtain ⟨i0, hi, hz0, hz1, hz2⟩ := info_parts info_u8
  have h := Any8.slices_Grow_grow Try.lays8n4b i0 (.int .u8 0) hi hz0 (by rw [hz1]; decide) none 0 0 n [] w (Nat.le_refl _) (by omega) (by rw [hz2]; omega) (by omega) (by simp) (fun _ => rfl) (fun _ h => by cases h)
  refine Calls.mono h ?_
  rintro e w' ⟨rfl, rfl⟩
  refine ⟨_, _, rfl, ⟨rfl, .inr ⟨w.heap.size, _, _, rfl, Nat.le_refl _, heap_alloc_new _ _, Nat.zero_le _, grownCap_le_maxLen _ _ _ _ (by unfold maxLen; omega), ?_, by simp⟩⟩, ((Below.refl _ _).drew).alloc (Nat.le_refl _) _⟩
  have hge := grownCap_ge w (0 + n) 0 (Try.lays8n4b_ren.t 25)
  have e1 : (Value.int IntKind.u8 0).cells.size = 1 := rfl
  simp [Builtin.zeroCells, e1] at hge ⊢
  omega
def SlsAt (w : World) (a : Addr) (ls : List (Value × List Int)) : Prop :=
  ∃ b o, a = ⟨b, o, none⟩ ∧ b < w.heap.size ∧ ∀ j (h : j < ls.length), w.cell? ⟨b, o + j, none⟩ = some ls[j].1 ∧ ByAt w ls[j].1 ls[j].2
def sumL (ls : List (Value × List Int)) : List Int := ls.flatMap (·.2)
theorem sumL_take {ls : List (Value × List Int)} {k : Nat} (h : k < ls.length) : sumL (ls.take (k + 1)) = sumL (ls.take k) ++ ls[k].2 := by
  unfold sumL
  rw [List.take_succ_eq_append_getElem h, List.flatMap_append]; simp
theorem sumL_le (ls : List (Value × List Int)) (k : Nat) : (sumL (ls.take k)).length ≤ (sumL ls).length := by
  have : sumL ls = sumL (ls.take k) ++ sumL (ls.drop k) := by unfold sumL; rw [← List.flatMap_append, List.take_append_drop]
  rw [this, List.length_append]; omega
set_option maxHeartbeats 1600000 in
set_option maxRecDepth 10000000 in
theorem concat_any (ls : List (Value × List Int)) (a : Addr) (c : Nat) (w : World) (hls : SlsAt w a ls) (hne : 0 < (sumL ls).length) (hl : (sumL ls).length ≤ 4000000) (hn : ls.length ≤ 4000000) :
    Calls Try.prog 54 #[.slice (some a) ls.length c] w fun e w' => ∃ v, e = .returned v ∧ w'.ownsRow w.heap.size 5 1 v (sumL ls).length ((sumL ls).map V8) ∧ Below w.heap.size w w' := by
  obtain ⟨b, o, rfl, hb, hcell⟩ := hls
  obtain ⟨i0, hi, hz0, hz1, hz2⟩ := info_parts info_u8
  have HC := Lib.hid hcell
  clear hcell
  go_enter Try.func54, Try.ntmps54
  go_wp2
  go_loopw [3, 11] (fun s i wr => ∃ k t : Nat, k ≤ ls.length ∧ i = .int .i64 k ∧ s = .int .i64 t ∧ t ≤ 4000000 ∧ Hid (t = (sumL (ls.take k)).length) ∧ Below w.heap.size w wr) (fun _ i _ => ls.length - (intOf i).toNat)
  case atStart => exact ⟨0, 0, Nat.zero_le _, rfl, rfl, by omega, Lib.hid rfl, Below.refl _ _⟩
  case round =>
    obtain ⟨k, t, hk, rfl, rfl, ht, HT, hbr⟩ := hrel
    by_cases hkl : k < ls.length
    · obtain ⟨h1, h2⟩ := HC.out k hkl
      obtain ⟨x, hx⟩ : ∃ x, ls[k] = x := ⟨_, rfl⟩
      have HN : Hid (t + x.2.length = (sumL (ls.take (k + 1))).length) := by show _ = _; rw [sumL_take hkl, List.length_append, HT.out, hx]
      have hle : t + x.2.length ≤ 4000000 := by rw [HN.out]; exact Nat.le_trans (sumL_le ls (k + 1)) hl
      rw [hx] at h1 h2
      obtain ⟨va, vl⟩ := x
      obtain ⟨a1, c1, hva, hc1, _⟩ := RdAt.shape h2
      dsimp only at hva hc1
      subst hva
      have hcr : wr.cell? ⟨b, o + k, none⟩ = some (.slice a1 vl.length c1) := keep_cell h1 hbr hb
      have hle' : (t : Int) + (vl.length : Int) ≤ 4000000 := by dsimp only at hle; omega
      clear h1 h2 hx HT
      go_wp2
      go_roundw
      case rel => exact ⟨k + 1, t + vl.length, by omega, by go_num, by go_num, hle, HN, hbr⟩
      case measure => (simp [intOf]; try omega)
    · obtain rfl : k = ls.length := by omega
      obtain rfl : t = (sumL ls).length := by rw [HT.out, List.take_length]
      clear HT
      have hg := grow_any (sumL ls).length wr hne hl
      go_wp2_with fail
      refine hg.mono ?_
      rintro e w1 ⟨g, cap, rfl, hown, hb1⟩
      have hown1 := own_base hown hbr.size
      have hbr1 := hbr.trans (hb1.mono hbr.size)
      clear hg hown hbr hb1
      go_wp2
      go_loopw [6, 27] (fun v i wr => ∃ k : Nat, k ≤ ls.length ∧ i = .int .i64 k ∧ wr.ownsRow w.heap.size 5 1 v (sumL (ls.take k)).length ((sumL (ls.take k)).map V8) ∧ Below w.heap.size w wr) (fun _ i _ => ls.length - (intOf i).toNat)
      case atStart => exact ⟨0, Nat.zero_le _, rfl, hown1, hbr1⟩
      case round =>
        obtain ⟨k, hk, rfl, hown, hbr⟩ := hrel
        by_cases hkl : k < ls.length
        · obtain ⟨h1, h2⟩ := HC.out k hkl
          have e1 := sumL_take hkl
          have hle1 : (sumL (ls.take (k + 1))).length ≤ 4000000 := Nat.le_trans (sumL_le ls (k + 1)) hl
          obtain ⟨x, hx⟩ : ∃ x, ls[k] = x := ⟨_, rfl⟩
          rw [hx] at h1 h2 e1
          obtain ⟨va, vl⟩ := x
          have hcr : wr.cell? ⟨b, o + k, none⟩ = some va := keep_cell h1 hbr hb
          have hrd : ByAt wr va vl := ByAt.later h2 hbr
          have hle : (sumL (ls.take k)).length + vl.length ≤ 4000000 := by rw [e1, List.length_append] at hle1; exact hle1
          have HE := Lib.hid e1
          clear h1 h2 hx e1 hle1
          go_wp2_with (at_builtin; (refine wpList_append_rd rfl (.tmp 31) (.tmp 32) 103 rfl w.heap.size 5 i0 (.int .u8 0) 1 1 Try.underlying103 hi hz0 hz1 hz2 rfl (by decide) _ _ _ rfl hown _ vl.length (vl.map V8) rfl hrd (v8_cells vl) (by unfold maxLen; omega) (by omega) hbr.size ?_); intro v' w' hown' hgrow)
          have hb' : Below w.heap.size w w' := hbr.grown hgrow hbr.size (fun m hm => (hown.lt m hm).1)
          clear hown hgrow hbr hrd hcr
          go_wp2
          go_roundw
          case rel => exact ⟨k + 1, by omega, by go_num, by rw [HE.out, List.length_append, List.map_append]; exact hown', hb'⟩
          case measure => (simp [intOf]; try omega)
        · obtain rfl : k = ls.length := by omega
          rw [List.take_length] at hown
          go_wp2
          go_ret
          exact ⟨_, rfl, hown, hbr⟩
end Go.Proofs.Ytipnhpfpppblhaa

/- []byte(text): what lies in memory; one byte appended to it. -/
namespace Go.Proofs.Ytipnhpfpppblhaa
open Go.RowKit
def byL (s : ByteArray) : List Int := (B s).map (fun c => (c.toNat : Int))
theorem byL_len (s : ByteArray) : (byL s).length = s.size := by simp [byL]
theorem byL_byte (s : ByteArray) : ByteL (byL s) := by
  intro x hx
  simp only [byL, List.mem_map] at hx
  obtain ⟨c, _, rfl⟩ := hx
  have := c.toNat_lt
  omega
def cvW (w : World) (s : ByteArray) : World := Lib.bytesWorld w 5 s
def cvC (w : World) (s : ByteArray) : Nat := grownCap w s.size 0 5
theorem cv_run (w : World) (s : ByteArray) : (convert 9 103 (.string s)).run Try.prog w = .ok (.slice (some ⟨w.heap.size, 0, none⟩) s.size (cvC w s)) (cvW w s) :=
  Lib.run_convert_string_bytes (P := Try.prog) w 9 103 5 s Try.underlying9 Try.underlying103 Try.underlying5
theorem cv_below (w : World) (s : ByteArray) : Below w.heap.size w (cvW w s) :=
  ⟨rfl, rfl, rfl, by rw [cvW, Lib.bytesWorld_size]; omega, fun k hk => Lib.bytesWorld_at_old w _ s k hk⟩
theorem cv_size (w : World) (s : ByteArray) : (cvW w s).heap.size = w.heap.size + 1 := Lib.bytesWorld_size _ _ _
theorem cv_cap (w : World) (s : ByteArray) : s.size ≤ cvC w s := grownCap_ge w s.size 0 _
theorem byL_at (s : ByteArray) (j : Nat) (y : Value) (h : ((byL s).map V8)[j]? = some y) : j < s.size ∧ y = .int .u8 (s.data.toList.getD j 0).toNat := by
  rw [List.getElem?_map, Option.map_eq_some_iff] at h
  obtain ⟨x, hx, rfl⟩ := h
  have hj := (List.getElem?_eq_some_iff.1 hx).1
  rw [byL_len] at hj
  refine ⟨hj, ?_⟩
  simp only [byL, List.getElem?_map, Option.map_eq_some_iff] at hx
  obtain ⟨c, hc, rfl⟩ := hx
  rw [List.getD_eq_getElem?_getD, hc]; rfl
theorem cv_at (w : World) (s : ByteArray) : ByAt (cvW w s) (.slice (some ⟨w.heap.size, 0, none⟩) s.size (cvC w s)) (byL s) := by
  have h := RdAt.mk (w := cvW w s) (b := w.heap.size) (o := 0) (n := s.size) (c := cvC w s) (k := 1) (xs := (byL s).map V8) (by simp [byL_len]) (cv_cap w s) (by rw [cv_size]; omega) (fun j y hj => by
    obtain ⟨h1, rfl⟩ := byL_at s j y hj
    rw [Nat.zero_add]
    exact Lib.bytesWorld_cell w 5 s j h1)
  unfold ByAt
  rw [byL_len]
  exact h
theorem cv_free (w : World) (s : ByteArray) (j : Nat) (hj : j < cvC w s) : ((cvW w s).cell? ⟨w.heap.size, j, none⟩).isSome = true ∧ (cvW w s).frozen? ⟨w.heap.size, j, none⟩ = false := by
  have hg := Lib.bytesWorld_at_new w 5 s
  have hs : (Lib.bytesCells w 5 s).size = cvC w s := by
    have := cv_cap w s
    unfold cvC at *
    simp [Lib.bytesCells]; omega
  constructor
  · rw [World.cell?, cvW, hg]
    simp [hs, hj]
  · rw [World.frozen?, cvW, hg]
    simp [hs]; omega
theorem run_append_cv (w W : World) (s : ByteArray) (hw : Below (cvW w s).heap.size (cvW w s) W) (hs : s.size ≤ 4000000) (x : Int) (u : Value) (hu : RdAt W u 1 1 [V8 x]) (ty : TypeId) (i0 : TypeInfo)
    (hi : Try.prog.info? 5 = some i0) (hz0 : i0.zero = some (.int .u8 0)) (hz1 : i0.size = 1) (hz2 : i0.bytes = 1) :
    ∃ a' c' w', (Builtin.append_ #[103, 103] ty #[.slice (some ⟨w.heap.size, 0, none⟩) s.size (cvC w s), u]).run Try.prog W = .ok (.slice (some a') (s.size + 1) c') w' ∧
      ByAt w' (.slice (some a') (s.size + 1) c') (byL s ++ [x]) ∧ Below w.heap.size w w' ∧ a'.block < w'.heap.size ∧ w.heap.size ≤ a'.block := by
  have hlt : w.heap.size < (cvW w s).heap.size := by rw [cv_size]; omega
  have hb0 : Below w.heap.size w W := (cv_below w s).trans (hw.mono (Nat.le_of_lt hlt))
  obtain ⟨b, o, c, rfl, hc, hbl, hcell⟩ := RdAt.some hu (by decide)
  have hx0 : W.cell? ⟨b, o, none⟩ = some (V8 x) := hcell 0 _ rfl
  have hat := (cv_at w s).later hw
  have holds : ∀ j y, ((byL s).map V8)[j]? = some y → W.cell? ⟨w.heap.size, j, none⟩ = some y := fun j y hj => by
    obtain ⟨h1, rfl⟩ := byL_at s j y hj
    rw [hw.cell (p := ⟨w.heap.size, j, none⟩) hlt]
    exact Lib.bytesWorld_cell w 5 s j h1
  have hbig : w.heap.size < W.heap.size := Nat.lt_of_lt_of_le hlt hw.size
  have key : ∀ w' (g c' : Nat), s.size + 1 ≤ c' → g < w'.heap.size → (∀ j y, ((byL s ++ [x]).map V8)[j]? = some y → w'.cell? ⟨g, j, none⟩ = some y) → ByAt w' (.slice (some ⟨g, 0, none⟩) (s.size + 1) c') (byL s ++ [x]) := fun w' g c' h1 h2 h3 => by
    have h := RdAt.mk (w := w') (b := g) (o := 0) (n := s.size + 1) (c := c') (k := 1) (xs := (byL s ++ [x]).map V8) (by simp [byL_len]) h1 h2 (fun j y hj => by rw [Nat.zero_add]; exact h3 j y hj)
    unfold ByAt
    rw [show (byL s ++ [x]).length = s.size + 1 by simp [byL_len]]
    exact h
  have hsrc : Src Try.prog i0.size 103 (.slice (some ⟨b, o, none⟩) 1 c) 1 [V8 x] W := by
    rw [hz1]
    exact Src.ofSlice W Try.underlying103 _ _ _ [V8 x] rfl (fun j y hj => by
      have hj0 : j = 0 := by have := (List.getElem?_eq_some_iff.1 hj).1; simpa using this
      subst hj0
      have : V8 x = y := by simpa using hj
      subst this
      simpa [Addr.add] using hx0) (by simp [Value.oneCell'])
  rcases Nat.lt_or_ge s.size (cvC w s) with hroom | hroom
  · obtain ⟨hf1, hf2⟩ := cv_free w s s.size hroom
    have hq1 : (W.cell? ⟨w.heap.size, s.size, none⟩).isSome = true := by rw [hw.cell (p := ⟨w.heap.size, s.size, none⟩) hlt]; exact hf1
    have hq2 : W.frozen? ⟨w.heap.size, s.size, none⟩ = false := by rw [World.frozen?_of_block (a := ⟨w.heap.size, s.size, none⟩) (hw.block _ hlt)]; exact hf2
    have hr := run_append_room_src (P := Try.prog) (w := W) 103 103 ty 5 i0 Try.underlying103 hi w.heap.size 0 s.size (cvC w s) _ 1 [V8 x] hsrc hroom
      (fun j hj => by have : j = 0 := by simpa using hj
                      subst this; simpa [hz1] using hq1) (fun j hj => by have : j = 0 := by simpa using hj
                                                                         subst this; simpa [hz1] using hq2)
    refine ⟨_, _, _, hr, ?_, ?_, ?_, Nat.le_refl _⟩
    · refine key _ _ _ hroom ?_ (fun j y hj => ?_)
      · simp [World.setCells]; exact hbig
      · simp only [World.setCells, hz1, Nat.mul_one, Nat.zero_add]
        rw [List.map_append] at hj
        by_cases hjs : j < s.size
        · rw [List.getElem?_append_left (by simpa [byL_len] using hjs)] at hj
          rw [World.cell?_setCell_other _ _ _ _ (by intro e; cases e; omega)]
          exact holds j y hj
        · have hjl := (List.getElem?_eq_some_iff.1 hj).1
          have : j = s.size := by simp [byL_len] at hjl; omega
          subst this
          rw [List.getElem?_append_right (by simp [byL_len])] at hj
          have hy : V8 x = y := by simpa [byL_len] using hj
          rw [World.cell?_setCell_same' _ _ _ hq1, hy]
    · refine hb0.trans ?_
      simp only [World.setCells]
      exact below_setCell W _ _ _ (Nat.le_refl _)
    · simp [World.setCells]; exact hbig
  · have e1 : cvC w s = s.size := Nat.le_antisymm hroom (cv_cap w s)
    have hr := run_append_grow (P := Try.prog) W 103 ty 5 i0 (.int .u8 0) Try.underlying103 hi hz0 ⟨w.heap.size, 0, none⟩ s.size (cvC w s) ((byL s).map V8) (by simp [byL_len, hz1])
      (fun j y hj => by rw [Addr.add_mid, Nat.zero_add]; exact holds j y hj) ⟨b, o, none⟩ 1 c [V8 x] (by simp [hz1]) (fun j y hj => by
        have hj0 : j = 0 := by have := (List.getElem?_eq_some_iff.1 hj).1; simpa using this
        subst hj0
        have : V8 x = y := by simpa using hj
        subst this
        simpa [Addr.add] using hx0) (by omega) (by omega) (growslice_fits (by omega) (by rw [hz2]; omega))
    have hge := grownCap_ge W (s.size + 1) (cvC w s) 5
    refine ⟨_, _, _, hr, ?_, ?_, ?_, Nat.le_of_lt hbig⟩
    · refine key _ _ _ hge (by simp) (fun j y hj => ?_)
      have e2 : (W.drew.alloc (.cells (((byL s).map V8).toArray ++ [V8 x].toArray ++ Builtin.zeroCells (Value.int .u8 0).cells (grownCap W (s.size + 1) (cvC w s) 5 - (s.size + 1))) 5)).cell? ⟨W.heap.size, j, none⟩ = _ := World.cell?_alloc_new W.drew _ _ j
      rw [e2]
      rw [List.map_append] at hj
      have hjl := (List.getElem?_eq_some_iff.1 hj).1
      rw [Array.getElem?_append_left (by simpa using hjl)]
      simpa using hj
    · exact hb0.trans (((Below.refl _ _).drew).alloc (Nat.le_of_lt hbig) _)
    · simp
end Go.Proofs.Ytipnhpfpppblhaa

/- digest.Of: a contract. -/
namespace Go.Proofs.Ytipnhpfpppblhaa
open Go.RowKit
def ofL (bs : List Int) : List Int := sumOut (blocksL startL bs (bs.length / 64)) (padL (bs.drop (64 * (bs.length / 64))) (padN (bs.drop (64 * (bs.length / 64))).length) bs.length)
theorem ofL_len (bs : List Int) : (ofL bs).length = 32 := outL_len _ _
theorem outL_byte (X : List Int) (k : Nat) : ByteL (outL X k) := by
  intro x hx
  simp only [outL, List.mem_map] at hx
  obtain ⟨j, _, rfl⟩ := hx
  unfold outAt
  omega
set_option maxHeartbeats 1600000 in
set_option maxRecDepth 100000 in
theorem of_any (bs : List Int) (v : Value) (w : World) (hb : ByAt w v bs) (hB : ByteL bs) (hv : ∀ p, v.ownBlock = some p → p < w.heap.size) (hl : bs.length ≤ 1000000000000) :
    Calls Try.prog 70 #[v] w fun e w' => e = .returned (.agg ((ofL bs).map V8).toArray) ∧ Below w.heap.size w w' := by
  have hb0 := alloc_below w (.cells (Array.replicate 32 (.int .u8 0)) 106)
  have hr0 := hb.later hb0
  have hR0 : (w.alloc (.cells (Array.replicate 32 (.int .u8 0)) 106)).heap[w.heap.size]? = some (.cells (Array.replicate 32 (.int .u8 0)) 106 (0, 0)) := heap_alloc_new _ _
  have hsz0 := Lib.hid (World.size_alloc w (.cells (Array.replicate 32 (.int .u8 0)) 106))
  have HR0 := Lib.hid hR0
  have HB := Lib.hid hB
  have HL := Lib.hid hl
  clear hb hR0 hB hl
  go_enter Try.func70, Try.ntmps70
  go_upto_region 1 with fail
  change Code.wp _ _ _ _ (w.alloc (.cells (Array.replicate 32 (.int .u8 0)) 106))
  generalize w.alloc (.cells (Array.replicate 32 (.int .u8 0)) 106) = w0 at *
  go_wp2_with fail
  refine (new_any _).mono ?_
  rintro e w1 ⟨p, rfl, hp, hS1, hb1⟩
  have hv1 : v.ownBlock ≠ some p := fun e => by have := hv p e; have := hsz0.out; omega
  have hadd := add_any startL [] bs 0 (.slice none 0 0) v p w0.heap.size w1 hS1 (World.ownsRow_nil _ _ _ _) (hr0.later hb1) HB.out hv1 hp hb1.size (by have := HL.out; simp; omega) (by have := HL.out; omega)
  go_wp2_with fail
  refine hadd.mono ?_
  rintro e w2 ⟨rv, k, rfl, hk, hS2, hr2, hb2⟩
  rw [List.nil_append] at hk hS2 hr2
  rw [Int.zero_add] at hS2
  have hlen : (bs.drop (64 * k)).length < 64 := by rw [List.length_drop]; omega
  have hnow := now_any (blocksL startL bs k) (bs.drop (64 * k)) bs.length rv p w2 hS2 hr2 (fun x hx => HB.out x (List.mem_of_mem_drop hx)) hlen
  clear hadd
  go_wp2_with fail
  refine hnow.mono ?_
  rintro e w3 ⟨rfl, hb3⟩
  subst hk
  have hE : (sumOut (blocksL startL bs (bs.length / 64)) (padL (bs.drop (64 * (bs.length / 64))) (padN (bs.drop (64 * (bs.length / 64))).length) bs.length)) = ofL bs := rfl
  rw [hE]
  have hB3 : Below w0.heap.size w0 w3 := (hb1.trans hb2).trans (hb3.mono (Nat.le_trans hb1.size hb2.size))
  have hR3 := (hB3.block w.heap.size (by rw [hsz0.out]; omega)).trans HR0.out
  have hOl : ((ofL bs).map V8).toArray.size = 32 := by simp [ofL_len]
  have hI9 : (Try.prog.info? 106).map (·.size) = some ((ofL bs).map V8).toArray.size := by rw [hOl]; kernel_rfl
  have hcs := all_oneCell_toArray (v8_cells (ofL bs))
  obtain ⟨C, hC⟩ : ∃ C, ((ofL bs).map V8).toArray = C := ⟨_, rfl⟩
  rw [hC] at hOl hI9 hcs ⊢
  have HCC := Lib.hid hC
  clear hC hnow hE hS1 hS2 hr2
  rename_i hKK
  refine hKK _ _ ?_
  refine wpList_store_row rfl 106 (.tmp 2) (.tmp 9) rfl w.heap.size C rfl rfl 106 _ hR3 hI9 (by rw [hOl]; rfl) hcs ?_
  have hg2 := setRow_heap w3 w.heap.size _ C _ _ hR3
  have hb2 : Below w.heap.size w (w3.setRow w.heap.size C) := below_setRow (hb0.trans (hB3.mono hb0.size)) (Nat.le_refl _) _
  generalize w3.setRow w.heap.size C = w4 at *
  show Exit.then _ _ Exit.normal _ _
  simp only [Exit.then]
  refine (by assumption : ∀ (a : Act) (w : World), Code.wp _ Code.ret _ a w → _) _ _ ?_
  go_wp2
  refine bodyPost_ret (results_cell_row rfl _ _ w.heap.size 106 C (0, 0) (.array 32 5) rfl hg2 Try.underlying106 rfl hI9) rfl ?_
  exact ⟨by rw [HCC.out], hb2⟩
def shortS (n x : Int) : Int := bits BinOp.or .u64 (IntKind.u64.wrap (n * 256)) x
def shortK (l : List Int) : Nat → Int
  | 0 => 0
  | k + 1 => shortS (shortK l k) (l.getD k 0)
def shortL (bs : List Int) : Int := shortK (ofL bs) 8
set_option maxHeartbeats 1600000 in
set_option maxRecDepth 100000 in
theorem short_any (bs : List Int) (v : Value) (w : World) (hb : ByAt w v bs) (hB : ByteL bs) (hv : ∀ p, v.ownBlock = some p → p < w.heap.size) (hl : bs.length ≤ 1000000000000) :
    Calls Try.prog 55 #[v] w fun e w' => e = .returned (.int .u64 (shortL bs)) ∧ Below w.heap.size w w' := by
  have hof := of_any bs v w hb hB hv hl
  clear hb hB hv hl
  go_enter Try.func55, Try.ntmps55
  go_upto_region 2 with fail
  go_wp2_with fail
  refine hof.mono ?_
  rintro e w1 ⟨rfl, hb1⟩
  have hbyte : Hid (ByteL (ofL bs)) := Lib.hid (outL_byte _ _)
  obtain ⟨F, hF⟩ : ∃ F, ofL bs = F := ⟨_, rfl⟩
  have hFl : F.length = 32 := by rw [← hF]; exact ofL_len bs
  have HSH : Hid (shortL bs = shortK F 8) := Lib.hid (by unfold shortL; rw [hF])
  rw [hF] at hbyte ⊢
  have hOl : (F.map V8).toArray.size = 32 := by simp [hFl]
  have hI9 : (Try.prog.info? 106).map (·.size) = some (F.map V8).toArray.size := by rw [hOl]; kernel_rfl
  have hcs := all_oneCell_toArray (v8_cells F)
  have hcell : ∀ k, k < 32 → (F.map V8).toArray[k]? = some (V8 (F.getD k 0)) := fun k hk => by
    rw [List.getElem?_toArray, List.getElem?_map, List.getD_eq_getElem?_getD, List.getElem?_eq_getElem (by omega)]; rfl
  have HC := Lib.hid hcell
  generalize (F.map V8).toArray = C at *
  clear hof hF hcell
  rename_i hKK
  refine hKK _ _ ?_
  refine Go.Great.wpList_allocTo rfl (some 4) rfl (.pointer (some ⟨w1.heap.size, 0, none⟩)) (.cells (Array.replicate 32 (.int .u8 0)) 106) (by go_simp; rfl) ?_
  refine wpList_store_row rfl 106 (.tmp 4) (.tmp 8) rfl w1.heap.size C rfl rfl 106 _ (heap_alloc_new _ _) hI9 (by rw [hOl]; rfl) hcs ?_
  have hg2 := setRow_heap (w1.alloc (.cells (Array.replicate 32 (.int .u8 0)) 106)) w1.heap.size _ C _ _ (heap_alloc_new _ _)
  have hb2 : Below w.heap.size w ((w1.alloc (.cells (Array.replicate 32 (.int .u8 0)) 106)).setRow w1.heap.size C) := below_setRow (hb1.alloc hb1.size _) hb1.size _
  generalize (w1.alloc (.cells (Array.replicate 32 (.int .u8 0)) 106)).setRow w1.heap.size C = w4 at *
  show Exit.then _ _ Exit.normal _ _
  simp only [Exit.then]
  have hc4 : Hid (∀ k, k < 32 → w4.cell? ⟨w1.heap.size, k, none⟩ = some (V8 (F.getD k 0))) := Lib.hid (fun k hk => by rw [cell_row hg2]; exact HC.out k hk)
  clear hg2 hI9 hcs hOl HC
  go_wp2
  go_loopw [11, 3] (fun i n wr => ∃ k : Nat, k ≤ 8 ∧ i = .int .i64 k ∧ n = .int .u64 (shortK F k) ∧ wr = w4) (fun i _ _ => 8 - (intOf i).toNat)
  case atStart => exact ⟨0, Nat.zero_le _, rfl, rfl, rfl⟩
  case round =>
    obtain ⟨k, hk, rfl, rfl, rfl⟩ := hrel
    by_cases hkl : k < 8
    · have hI : (k : Int) < 8 := by omega
      have g := hc4.out k (by omega)
      obtain ⟨x, hx⟩ : ∃ x, F.getD k 0 = x := ⟨_, rfl⟩
      have hxb : 0 ≤ x ∧ x < 256 := by
        rw [← hx, List.getD_eq_getElem?_getD, List.getElem?_eq_getElem (by omega)]
        exact hbyte.out _ (List.getElem_mem _)
      have q1 : IntKind.u64.wrap x = x := by simp [IntKind.wrap, IntKind.bits, IntKind.signed]; omega
      rw [hx] at g
      have HX := Lib.hid hx
      clear hx
      go_wp2
      go_roundw
      case rel => exact ⟨k + 1, by omega, by go_num, by rw [shortK, HX.out]; rfl, trivial⟩
      case measure => (simp [intOf]; try omega)
    · obtain rfl : k = 8 := by omega
      rw [show ((8 : Nat) : Int) = 8 from rfl]
      go_wp2
      go_ret
      exact ⟨by rw [HSH.out]; rfl, hb2⟩
end Go.Proofs.Ytipnhpfpppblhaa

/- alert.Id: a contract. -/
namespace Go.Proofs.Ytipnhpfpppblhaa
open Go.RowKit
def fldB (f : Fld) : List Int := byL f.1 ++ [61] ++ byL f.2 ++ [0]
def idB (src : ByteArray) (fl : List Fld) : List Int := byL src ++ [0] ++ fl.flatMap fldB
theorem idB_take {fl : List Fld} {k : Nat} (src : ByteArray) (h : k < fl.length) : idB src (fl.take (k + 1)) = idB src (fl.take k) ++ fldB fl[k] := by
  unfold idB
  rw [List.take_succ_eq_append_getElem h, List.flatMap_append]; simp
theorem idB_le (src : ByteArray) (fl : List Fld) (k : Nat) : (idB src (fl.take k)).length ≤ (idB src fl).length := by
  have : idB src fl = idB src (fl.take k) ++ (fl.drop k).flatMap fldB := by
    unfold idB
    rw [List.append_assoc _ _ ((fl.drop k).flatMap fldB), ← List.flatMap_append, List.take_append_drop]
  rw [this, List.length_append]; omega
theorem idB_byte (src : ByteArray) (fl : List Fld) : ByteL (idB src fl) := by
  intro x hx
  simp only [idB, List.mem_append, List.mem_flatMap, fldB] at hx
  rcases hx with (h | h) | ⟨f, _, ((h | h) | h) | h⟩
  · exact byL_byte src x h
  · obtain rfl := List.mem_singleton.1 h; omega
  · exact byL_byte f.1 x h
  · obtain rfl := List.mem_singleton.1 h; omega
  · exact byL_byte f.2 x h
  · obtain rfl := List.mem_singleton.1 h; omega
theorem wpList_append_cv {w W : World} {ops : Array Oper} {rest : List Oper} {o : Oper} {a : Act} {Q : Exit → Act → World → Prop} (hgd : o.guard = none) (s x : Operand)
    (ho : o.op = .call { callee := .builtin .append, args := #[s, x], argTypes := #[103, 103] }) (i0 : TypeInfo)
    (hi : Try.prog.info? 5 = some i0) (hz0 : i0.zero = some (.int .u8 0)) (hz1 : i0.size = 1) (hz2 : i0.bytes = 1)
    (str : ByteArray) (hs : a.eval s = .slice (some ⟨w.heap.size, 0, none⟩) str.size (cvC w str)) (hw : Below (cvW w str).heap.size (cvW w str) W) (hl : str.size ≤ 4000000)
    (u : Value) (c : Int) (hx : a.eval x = u) (hu : RdAt W u 1 1 [V8 c])
    (h : ∀ a' c' w', ByAt w' (.slice (some a') (str.size + 1) c') (byL str ++ [c]) → Below w.heap.size w w' → a'.block < w'.heap.size → wpList Try.prog ops Q rest (a.put o.dst (.slice (some a') (str.size + 1) c')) w') : wpList Try.prog ops Q (o :: rest) a W := by
  refine wpList_plain hgd fun K hK => ?_
  obtain ⟨a', c', w', hr, h2, h3, h4, _⟩ := run_append_cv w W str hw hl c u hu o.type i0 hi hz0 hz1 hz2
  unfold Oper.wp execOp
  simp only [ho, resolve, invoke, builtin, Sem.run_bind, Sem.run_pure, Result.andThen_ok, List.map_toArray, List.map_cons, List.map_nil, hs, hx, hr]
  exact hK _ _ (h a' c' w' h2 h3 h4)
theorem own_ltA {a : Addr} {n c m : Nat} (h : a.block < m) : ∀ p, (Value.slice (some a) n c).ownBlock = some p → p < m := by
  intro p hp
  have : a.block = p := by simpa [Value.ownBlock] using hp
  rw [← this]; exact h
theorem by_one (w : World) (x : Int) : ByAt (w.alloc (.cells #[V8 x] 5)) (.slice (some ⟨w.heap.size, 0, none⟩) 1 1) [x] := rd_one8 w (V8 x) 5
theorem pieces_at (w : World) (v : Value) (bs : List Int) (hv : ByAt w v bs) (n u : ByteArray) :
    SlsAt ((((((cvW w n).alloc (.cells #[V8 61] 5))) |> fun w2 => ((cvW w2 u).alloc (.cells #[V8 0] 5)) |> fun w4 => w4.alloc (.cells #[v, .slice (some ⟨w.heap.size, 0, none⟩) n.size (cvC w n), .slice (some ⟨(cvW w n).heap.size, 0, none⟩) 1 1, .slice (some ⟨w2.heap.size, 0, none⟩) u.size (cvC w2 u), .slice (some ⟨(cvW w2 u).heap.size, 0, none⟩) 1 1] 103))))
      ⟨((cvW ((cvW w n).alloc (.cells #[V8 61] 5)) u).alloc (.cells #[V8 0] 5)).heap.size, 0, none⟩
      [(v, bs), (.slice (some ⟨w.heap.size, 0, none⟩) n.size (cvC w n), byL n), (.slice (some ⟨(cvW w n).heap.size, 0, none⟩) 1 1, [61]), (.slice (some ⟨((cvW w n).alloc (.cells #[V8 61] 5)).heap.size, 0, none⟩) u.size (cvC ((cvW w n).alloc (.cells #[V8 61] 5)) u), byL u), (.slice (some ⟨(cvW ((cvW w n).alloc (.cells #[V8 61] 5)) u).heap.size, 0, none⟩) 1 1, [0])] := by
  dsimp only
  have b1 := cv_below w n
  have b2 := alloc_below (cvW w n) (.cells #[V8 61] 5)
  have r1 := cv_at w n
  have r2 := by_one (cvW w n) 61
  have s1 := cv_size w n
  have s2 : ((cvW w n).alloc (.cells #[V8 61] 5)).heap.size = (cvW w n).heap.size + 1 := World.size_alloc _ _
  generalize (cvW w n).alloc (.cells #[V8 61] 5) = w2 at *
  have b3 := cv_below w2 u
  have b4 := alloc_below (cvW w2 u) (.cells #[V8 0] 5)
  have r3 := cv_at w2 u
  have r4 := by_one (cvW w2 u) 0
  have s3 := cv_size w2 u
  have s4 : ((cvW w2 u).alloc (.cells #[V8 0] 5)).heap.size = (cvW w2 u).heap.size + 1 := World.size_alloc _ _
  generalize (cvW w2 u).alloc (.cells #[V8 0] 5) = w4 at *
  generalize hQ : (#[v, .slice (some ⟨w.heap.size, 0, none⟩) n.size (cvC w n), .slice (some ⟨(cvW w n).heap.size, 0, none⟩) 1 1, .slice (some ⟨w2.heap.size, 0, none⟩) u.size (cvC w2 u), .slice (some ⟨(cvW w2 u).heap.size, 0, none⟩) 1 1] : Array Value) = Q
  have b5 := alloc_below w4 (.cells Q 103)
  have hsz : w4.heap.size < (w4.alloc (.cells Q 103)).heap.size := by rw [World.size_alloc]; omega
  have hcell : ∀ j, (w4.alloc (.cells Q 103)).cell? ⟨w4.heap.size, 0 + j, none⟩ = Q[j]? := fun j => by rw [Nat.zero_add]; exact World.cell?_alloc_at _ _ _ _ rfl
  have b24 := b3.trans (b4.mono (by omega))
  have b25 := b24.trans (b5.mono (by omega))
  have b12 := b1.trans (b2.mono (by omega))
  have e0 : ByAt (w4.alloc (.cells Q 103)) v bs := hv.later (b12.trans (b25.mono (by omega)))
  have e1 := (r1.later b2).later b25
  have e2 := r2.later b25
  have e3 := (r3.later b4).later b5
  have e4 := r4.later b5
  refine ⟨w4.heap.size, 0, rfl, hsz, fun j hj => ?_⟩
  match j, hj with
  | 0, _ => exact ⟨by rw [hcell, ← hQ]; rfl, e0⟩
  | 1, _ => exact ⟨by rw [hcell, ← hQ]; rfl, e1⟩
  | 2, _ => exact ⟨by rw [hcell, ← hQ]; rfl, e2⟩
  | 3, _ => exact ⟨by rw [hcell, ← hQ]; rfl, e3⟩
  | 4, _ => exact ⟨by rw [hcell, ← hQ]; rfl, e4⟩
set_option maxHeartbeats 1600000 in
set_option maxRecDepth 100000 in
theorem id_any (src : ByteArray) (fl : List Fld) (lv : Int) (c : Nat) (fr til : Int) (v : Value) (w : World) (hv : FldsAt w v fl) (hl : (idB src fl).length ≤ 4000000) :
    Calls Try.prog 26 #[.agg #[.string src, v, .int .i64 lv, .int .u32 c, .int .i64 fr, .int .i64 til]] w fun e w' => e = .returned (.int .u64 (shortL (idB src fl))) ∧ Below w.heap.size w w' := by
  obtain ⟨fa, fc, rfl, hfc, hfr⟩ := RdAt.shape hv
  obtain ⟨i0, hi, hz0, hz1, hz2⟩ := info_parts info_u8
  have HF := Lib.hid hfr
  clear hfr hv
  have hsl : src.size ≤ 4000000 := by have := idB_le src fl 0; simp [idB, byL_len] at this hl; omega
  have hfl : fl.length ≤ 4000000 := by
    have : fl.length ≤ (fl.flatMap fldB).length := by
      clear hl HF hfc
      induction fl with
      | nil => simp
      | cons f l ih => simp only [List.flatMap_cons, List.length_append, fldB, List.length_cons, List.length_nil]; omega
    unfold idB at hl
    rw [List.length_append] at hl
    omega
  have kc := fun W => cv_run W src
  have HL := Lib.hid hl
  clear hl
  go_enter Try.func26, Try.ntmps26
  go_upto_region 1 with fail
  have hbx := alloc_below w (.cells #[.string src, .slice fa fl.length fc, .int .i64 lv, .int .u32 c, .int .i64 fr, .int .i64 til] 36)
  have hbox := box6 (Below.refl (w.alloc (.cells #[.string src, .slice fa fl.length fc, .int .i64 lv, .int .u32 c, .int .i64 fr, .int .i64 til] 36)).heap.size _)
  obtain ⟨⟨x0, x1, x2, x3, x4, x5⟩, hlt0, _⟩ := hbox
  generalize w.alloc (.cells #[.string src, .slice fa fl.length fc, .int .i64 lv, .int .u32 c, .int .i64 fr, .int .i64 til] 36) = w0 at *
  have hlt := Lib.hid hlt0
  clear hlt0
  have hcb := (cv_below w0 src)
  have hal := alloc_below (cvW w0 src) (.cells #[V8 0] 5)
  have hrd := rd_one8 (cvW w0 src) (V8 0) 5
  go_wp2_with (at_builtin; (refine wpList_append_cv (w := w0) rfl (.tmp 8) (.tmp 9) rfl i0 hi hz0 hz1 hz2 src rfl hal hsl _ 0 rfl hrd ?_); intro a1 c1 w1 hby1 hb1 hlt1; have hX1 := keep_cell x1 hb1 hlt.out)
  have hB1 := hbx.trans (hb1.mono (Nat.le_of_lt hlt.out))
  have hby1' := Lib.hid hby1
  have hlt1' := Lib.hid hlt1
  clear x0 x1 x2 x3 x4 x5 hcb hal hrd hby1 hlt1 hb1 hbx
  have HL2 := HL.out
  have hN0 : Hid (src.size + 1 = (idB src (fl.take 0)).length) := Lib.hid (by simp [idB, byL_len])
  have hby2 : Hid (ByAt w1 (.slice (some a1) (src.size + 1) c1) (idB src (fl.take 0))) := Lib.hid (by have := hby1'.out; simpa [idB] using this)
  have hown2 := Lib.hid (own_ltA (n := src.size + 1) (c := c1) hlt1'.out)
  clear hby1' HL2 hlt1'
  generalize hnn : src.size + 1 = nn at *
  clear hnn
  have hB1' := Lib.hid hB1
  clear hB1 hX1
  go_loopw [3, 14] (fun s i wr => ∃ (k n c' : Nat) (a' : Option Addr), k ≤ fl.length ∧ i = .int .i64 k ∧ s = .slice a' n c' ∧ Hid (n = (idB src (fl.take k)).length) ∧ Hid (ByAt wr (.slice a' n c') (idB src (fl.take k))) ∧ Hid (∀ p, (Value.slice a' n c').ownBlock = some p → p < wr.heap.size) ∧ Hid (Below w.heap.size w wr)) (fun _ i _ => fl.length - (intOf i).toNat)
  case atStart => exact ⟨0, nn, c1, some a1, Nat.zero_le _, rfl, rfl, hN0, hby2, hown2, hB1'⟩
  case round =>
    clear hN0 hby2 hown2 hB1'
    obtain ⟨k, n, c', a', hk, rfl, rfl, HN, HB, HO, Hb⟩ := hrel
    by_cases hkl : k < fl.length
    · obtain ⟨b, o, rfl, hb, hcell⟩ := HF.out (by omega)
      obtain ⟨x, hxe⟩ : ∃ x, fl[k].1 = x := ⟨_, rfl⟩
      obtain ⟨y, hye⟩ : ∃ y, fl[k].2 = y := ⟨_, rfl⟩
      obtain ⟨hx0, hy0⟩ := fldCells_at fl k hkl
      rw [hxe] at hx0
      rw [hye] at hy0
      have hcx : wr.cell? ⟨b, o + k * 2, none⟩ = some (.string x) := keep_cell (hcell _ _ hx0) Hb.out hb
      have hcy : wr.cell? ⟨b, o + k * 2 + 1, none⟩ = some (.string y) := keep_cell (hcell _ _ hy0) Hb.out hb
      have hE : Hid (fldB fl[k] = byL x ++ [61] ++ byL y ++ [0]) := Lib.hid (by unfold fldB; rw [hxe, hye])
      have kcx := fun W => cv_run W x
      have kcy := fun W => cv_run W y
      clear hcell hxe hye hx0 hy0
      go_upto_region 5 with fail
      have hbx := box2 (Below.refl (wr.alloc (.cells #[.string x, .string y] 48)).heap.size _)
      obtain ⟨y0, y1, hlw, hbw⟩ := hbx
      have HBa : ByAt (wr.alloc (.cells #[.string x, .string y] 48)) (.slice a' n c') (idB src (fl.take k)) := HB.out.later hbw
      change Code.wp _ _ _ _ (wr.alloc (.cells #[.string x, .string y] 48))
      generalize wr.alloc (.cells #[.string x, .string y] 48) = wa at *
      have b1 := (cv_below wa x).trans ((alloc_below (cvW wa x) (.cells #[V8 61] 5)).mono (by rw [cv_size]; omega))
      have y1' := keep_cell y1 b1 hlw
      have hps := pieces_at wa _ _ HBa x y
      dsimp only at hps
      have hE2 : sumL [((Value.slice a' n c'), idB src (fl.take k)), (.slice (some ⟨wa.heap.size, 0, none⟩) x.size (cvC wa x), byL x), (.slice (some ⟨(cvW wa x).heap.size, 0, none⟩) 1 1, [61]), (.slice (some ⟨((cvW wa x).alloc (.cells #[V8 61] 5)).heap.size, 0, none⟩) y.size (cvC ((cvW wa x).alloc (.cells #[V8 61] 5)) y), byL y), (.slice (some ⟨(cvW ((cvW wa x).alloc (.cells #[V8 61] 5)) y).heap.size, 0, none⟩) 1 1, [0])] = idB src (fl.take (k + 1)) := by
        rw [idB_take src hkl, hE.out]; simp only [sumL, List.flatMap_cons, List.flatMap_nil, List.append_nil, List.append_assoc]
      have hlen := idB_le src fl (k + 1)
      have hpos : 0 < (idB src (fl.take (k + 1))).length := by unfold idB; simp only [List.length_append, List.length_cons]; omega
      have hcc := concat_any _ _ 5 _ hps (by rw [hE2]; exact hpos) (by rw [hE2]; have := HL.out; omega) (by simp)
      rw [hE2] at hcc
      have kcx1 := cv_run wa x
      have kcy1 := cv_run ((cvW wa x).alloc (.cells #[V8 61] 5)) y
      have hsz := cv_below wa x
      clear hps hE2 HBa hpos b1 y1 hlen hlw HN HB HO HF hE hb kcx kcy
      generalize hwb : cvW wa x = wb at *
      generalize hwd : cvW (wb.alloc (.cells #[V8 61] 5)) y = wd at *
      generalize cvC wa x = cx at *
      generalize cvC (wb.alloc (.cells #[V8 61] 5)) y = cy at *
      simp only [World.size_alloc] at hcc kcy1
      have HCC := Lib.hid hcc
      have HY := Lib.hid hbw
      have HWB := Lib.hid hwb
      have HWD := Lib.hid hwd
      clear hcc hbw hwb hwd hsz
      go_wp2_with fail
      refine HCC.out.mono ?_
      rintro e w2 ⟨v2, rfl, hown, hb2⟩
      have q1 : Below wa.heap.size wa wb := by rw [← HWB.out]; exact cv_below wa x
      have q2 := alloc_below wb (.cells #[V8 61] 5)
      have q3 : Below (wb.alloc (.cells #[V8 61] 5)).heap.size (wb.alloc (.cells #[V8 61] 5)) wd := by rw [← HWD.out]; exact cv_below _ y
      have q4 := alloc_below wd (.cells #[V8 0] 5)
      have q5 := ((q1.trans (q2.mono q1.size)).trans (q3.mono (by have := q1.size; have := q2.size; omega))).trans (q4.mono (by have := q1.size; have := q2.size; have := q3.size; omega))
      have q6 := q5.trans ((alloc_below _ (.cells #[.slice a' n c', .slice (some ⟨wa.heap.size, 0, none⟩) x.size cx, .slice (some ⟨wb.heap.size, 0, none⟩) 1 1, .slice (some ⟨wb.heap.size + 1, 0, none⟩) y.size cy, .slice (some ⟨wd.heap.size, 0, none⟩) 1 1] 103)).mono q5.size)
      have q6s := q6.size
      simp only [World.size_alloc] at q6s
      have q7 := HY.out.trans ((q6.trans (hb2.mono q6s)).mono HY.out.size)
      have hB2 := Hb.out.trans (q7.mono Hb.out.size)
      obtain ⟨a2, c2, rfl, _, _⟩ := RdAt.shape (RdAt.own hown)
      have hO2 : ∀ p, (Value.slice a2 (idB src (fl.take (k + 1))).length c2).ownBlock = some p → p < w2.heap.size := fun p hp => (hown.lt p hp).2
      have hBy : ByAt w2 (.slice a2 (idB src (fl.take (k + 1))).length c2) (idB src (fl.take (k + 1))) := RdAt.own hown
      have HO2 := Lib.hid hO2
      have HBy := Lib.hid hBy
      have HB2 := Lib.hid hB2
      obtain ⟨nx, hnx⟩ : ∃ z, (idB src (fl.take (k + 1))).length = z := ⟨_, rfl⟩
      rw [hnx] at HO2 HBy
      have HNX := Lib.hid hnx
      clear q1 q2 q3 q4 q5 q6 q6s q7 hown hb2 hO2 hBy hB2 HCC HY HWB HWD kcx1 kcy1 y0 y1' hcx hcy Hb
      try rw [hnx]
      clear hnx
      go_wp2
      go_roundw
      case rel => exact ⟨k + 1, nx, c2, a2, by omega, by go_num, rfl, Lib.hid HNX.out.symm, HBy, HO2, HB2⟩
      case measure => (simp [intOf]; try omega)
    · obtain rfl : k = fl.length := by omega
      have hbs : ByAt wr (.slice a' n c') (idB src fl) := by have := HB.out; rwa [List.take_length] at this
      have hn : n = (idB src fl).length := by have := HN.out; rwa [List.take_length] at this
      subst hn
      have hsh := short_any (idB src fl) (.slice a' (idB src fl).length c') wr hbs (idB_byte src fl) HO.out (by have := HL.out; omega)
      have HSH := Lib.hid hsh
      clear hsh hbs HB HN HO
      go_wp2_with fail
      refine HSH.out.mono ?_
      rintro e w2 ⟨rfl, hb2⟩
      have hB2 := Hb.out.trans (hb2.mono Hb.out.size)
      go_wp2
      go_ret
      exact ⟨rfl, hB2⟩
end Go.Proofs.Ytipnhpfpppblhaa

/- Alerts that may be: what Apart puts. Plain. -/
namespace Go.Proofs.Ytipnhpfpppblhaa
open Go.RowKit Go.Maps
theorem nameL_len {s : ByteArray} (h : nameL (B s) = true) : s.size ≤ 12 := by
  unfold nameL at h
  simp only [Bool.and_eq_true, decide_eq_true_eq] at h
  have := h.1.1.2
  rwa [len_B] at this
theorem rightF_at {l : List Fld} (h : rightF l = true) : l.length ≤ 8 ∧ ∀ j (hj : j < l.length), nameL (B l[j].1) = true ∧ l[j].2.size ≤ 200 := by
  unfold rightF at h
  simp only [Bool.and_eq_true, decide_eq_true_eq, List.all_eq_true, List.mem_range] at h
  refine ⟨h.1, fun j hj => ?_⟩
  have := h.2 j hj
  unfold fldOk at this
  simp only [Bool.and_eq_true, decide_eq_true_eq] at this
  have e : l.getD j default = l[j] := by rw [List.getD_eq_getElem?_getD, List.getElem?_eq_getElem hj]; rfl
  rw [e] at this
  exact ⟨this.1.1, this.1.2⟩
theorem flat_le (l : List Fld) (h : ∀ f ∈ l, f.1.size ≤ 12 ∧ f.2.size ≤ 200) : (l.flatMap fldB).length ≤ l.length * 214 := by
  induction l with
  | nil => simp
  | cons f l ih =>
    have h1 := ih (fun g hg => h g (List.mem_cons_of_mem _ hg))
    obtain ⟨h2, h3⟩ := h f List.mem_cons_self
    rw [List.flatMap_cons, List.length_append, List.length_cons]
    have : (fldB f).length = f.1.size + 1 + f.2.size + 1 := by simp [fldB, byL_len]; omega
    omega
theorem whoA_iff {src : ByteArray} {fl : List Fld} {lv : Int} : whoA src fl lv = true ↔ nameL (B src) = true ∧ 0 < fl.length ∧ rightF fl = true ∧ rightL lv = true := by
  unfold whoA
  simp only [Bool.and_eq_true, decide_eq_true_eq, and_assoc]
theorem idB_bound {src : ByteArray} {fl : List Fld} {lv : Int} (h : whoA src fl lv = true) : (idB src fl).length ≤ 4000000 := by
  obtain ⟨h1, _, h3, _⟩ := whoA_iff.1 h
  have h4 := nameL_len h1
  obtain ⟨h5, h6⟩ := rightF_at h3
  have h7 := flat_le fl (fun f hf => by
    obtain ⟨j, hj, rfl⟩ := List.getElem_of_mem hf
    obtain ⟨a, b⟩ := h6 j hj
    exact ⟨nameL_len a, b⟩)
  unfold idB
  simp only [List.length_append, byL_len, List.length_cons, List.length_nil]
  omega
theorem rightA_who {x : Al} (h : rightA x = true) : whoA x.src x.fl x.lv = true := by
  unfold rightA at h
  simp only [Bool.and_eq_true] at h
  exact h.1.1
theorem wfL_of {l : Int} {c : Nat} (h : rightL l = true) (hc : c < 4294967296) : wfL (l, c) := by
  obtain ⟨h1, h2⟩ := rightL_iff.1 h
  refine ⟨?_, ?_⟩ <;> simp [Lit.wf, IntKind.min, IntKind.max, IntKind.signed, IntKind.bits] <;> omega
theorem raisedL_right (rs : List Nmd) (nm : ByteArray) {l : Int × Nat} (h : rightL l.1 = true) (hc : l.2 < 4294967296) : rightL (raisedL rs nm l).1 = true ∧ (raisedL rs nm l).2 < 4294967296 := by
  unfold raisedL
  split
  · exact joinL_right _ _
  · exact ⟨h, hc⟩
theorem raisedL_wf (rs : List Nmd) (nm : ByteArray) {l : Int × Nat} (h : rightL l.1 = true) (hc : l.2 < 4294967296) : wfL (raisedL rs nm l) := by
  obtain ⟨h1, h2⟩ := raisedL_right rs nm h hc
  exact wfL_of h1 h2
def idA (x : Al) : Int := shortL (idB x.src x.fl)
theorem shortL_wf (bs : List Int) : (Lit.int .u64 (shortL bs)).wf = true := by
  have : 0 ≤ shortL bs ∧ shortL bs ≤ 18446744073709551615 := by
    unfold shortL
    rw [shortK, shortS]
    show 0 ≤ IntKind.u64.wrap _ ∧ IntKind.u64.wrap _ ≤ _
    simp only [IntKind.wrap, IntKind.bits, IntKind.signed]
    simp
    omega
  simp [Lit.wf, IntKind.min, IntKind.max, IntKind.signed, IntKind.bits]; omega
def putsA (rs : List Nmd) (x : Al) : List ((Int × Nat) × Int) := if rightA x then ((x.lv, x.c), idA x) :: x.fl.map (fun f => (raisedL rs f.1 (x.lv, x.c), idA x)) else []
def putsL (rs : List Nmd) (l : List Al) : List ((Int × Nat) × Int) := l.flatMap (putsA rs)
theorem putsL_succ {rs : List Nmd} {l : List Al} {k : Nat} (h : k < l.length) : putsL rs (l.take (k + 1)) = putsL rs (l.take k) ++ putsA rs l[k] := by
  unfold putsL
  rw [List.take_succ_eq_append_getElem h, List.flatMap_append]; simp
theorem nodup_len {α : Type} [DecidableEq α] : ∀ (a b : List α), a.Nodup → (∀ x ∈ a, x ∈ b) → a.length ≤ b.length
  | [], _, _, _ => Nat.zero_le _
  | x :: a, b, hn, h => by
    obtain ⟨h1, h2⟩ := List.nodup_cons.1 hn
    have := nodup_len a (b.erase x) h2 (fun y hy => (List.mem_erase_of_ne (fun e => h1 (by subst e; exact hy))).2 (h y (List.mem_cons_of_mem _ hy)))
    rw [List.length_erase_of_mem (h x List.mem_cons_self)] at this
    have hb := List.length_pos_of_mem (h x List.mem_cons_self)
    rw [List.length_cons]; omega
theorem uKeys_own {P : Program} {k : TypeId} {R : Value → Option (DataW Unit × List MemPlace)} {w : World} {b n : Nat} {D : DataW Unit} (hown : w.ownsMap P k R b n D) (K : Keyed P k) (hk : P.underlying k = some (.int .u64)) :
    (uKeys D).Nodup ∧ (∀ i, i ∈ uKeys D ↔ has D (.int .u64 i) = true) ∧ (uKeys D).length = Maps.size D := by
  obtain ⟨es, hD, hpw, _⟩ := hown.entries K
  obtain ⟨es', hD', hko⟩ := hown.keysOf
  obtain rfl : es = es' := by rw [hD] at hD'; simpa using hD'
  subst hD
  have hk' : ∀ p ∈ es, ∃ x, p.1 = Lit.int .u64 x := fun p hp => by obtain ⟨v, hv⟩ := hko p hp; obtain ⟨x, _, hx, _⟩ := keyOf_u64 hk hv; exact ⟨x, hx⟩
  refine ⟨?_, fun x => ?_, by simp [uKeys, Maps.size]⟩
  · show (es.map fun p => uOf p.1).Nodup
    refine List.pairwise_map.2 (hpw.imp_of_mem fun {p q} hp' hq' hne e => hne ?_)
    obtain ⟨a, ha⟩ := hk' p hp'
    obtain ⟨b, hb⟩ := hk' q hq'
    rw [ha, hb] at e ⊢
    exact congrArg _ e
  · rw [has_eq, List.any_eq_true]
    show x ∈ es.map (fun p => uOf p.1) ↔ _
    rw [List.mem_map]
    constructor
    · rintro ⟨p, hp', rfl⟩
      obtain ⟨a, ha⟩ := hk' p hp'
      exact ⟨p, hp', by rw [ha]; simp [Lit.sameKey, uOf]⟩
    · rintro ⟨p, hp', hs⟩
      obtain ⟨a, ha⟩ := hk' p hp'
      rw [ha] at hs
      exact ⟨p, hp', by rw [ha]; simpa [Lit.sameKey, uOf] using hs⟩
set_option maxRecDepth 100000 in
theorem keyOf_inv0 {v : Value} {kl : Lit} (h : keyOf Try.prog 34 v = some kl) : ∃ (xs : Array Value) (L : List Lit), v = .agg xs ∧ Try.prog.keyLits (Try.prog.types.size + 1) 34 xs.toList = some L ∧ kl = .string (keyBytes L) :=
  keyOf_top wideT h
set_option maxRecDepth 100000 in
theorem keyOf_inv {v : Value} {kl : Lit} (h : keyOf Try.prog 34 v = some kl) : ∃ x, v = LabP x ∧ wfL x ∧ kl = kL x := by
  have hc : Try.prog.cellsOf 34 = 2 := by kernel_rfl
  have hci : Try.prog.cellsOf 3 = 1 := by kernel_rfl
  have hcu : Try.prog.cellsOf 32 = 1 := by kernel_rfl
  obtain ⟨n, hn⟩ := typesT
  obtain ⟨xs, L, rfl, hl, rfl⟩ := keyOf_inv0 h
  clear h
  generalize Try.prog.types.size = N at *
  subst hn
  simp only [Program.keyLits, Try.underlying34, hc] at hl
  split at hl
  · rename_i hlen
    obtain ⟨a, b, rfl⟩ : ∃ a b, xs = #[a, b] := by
      obtain ⟨l⟩ := xs
      obtain ⟨h1, _⟩ := hlen
      match l, h1 with
      | [a, b], _ => exact ⟨a, b, rfl⟩
    simp [hci, hcu, Try.underlying3, Try.underlying32] at hl
    have ha : ∃ l, a = .int .i64 l ∧ (Lit.int .i64 l).wf = true := by
      cases a <;> simp [Option.bind_eq_some_iff] at hl
      rename_i q l
      obtain ⟨_, ⟨⟨rfl, h2⟩, _⟩, _⟩ := hl
      exact ⟨l, rfl, h2⟩
    obtain ⟨l, rfl, hl1⟩ := ha
    have hb : ∃ c, b = .int .u32 c ∧ (Lit.int .u32 c).wf = true := by
      cases b <;> simp [Option.bind_eq_some_iff] at hl
      rename_i q c
      obtain ⟨_, _, _, ⟨_, ⟨⟨rfl, h2⟩, _⟩, _⟩, _⟩ := hl
      exact ⟨c, rfl, h2⟩
    obtain ⟨c, rfl, hc1⟩ := hb
    have h0 : 0 ≤ c := by
      simp [Lit.wf, IntKind.min, IntKind.signed] at hc1; omega
    obtain ⟨cn, rfl⟩ : ∃ cn : Nat, c = cn := ⟨c.toNat, by omega⟩
    simp [hl1, hc1] at hl
    exact ⟨(l, cn), rfl, ⟨hl1, hc1⟩, by rw [← hl]; rfl⟩
  · cases hl
end Go.Proofs.Ytipnhpfpppblhaa

/- alert.Apart: its first loops. -/
namespace Go.Proofs.Ytipnhpfpppblhaa
open Go.RowKit Go.Maps
def ApDone (base m ab : Nat) (ps : List ((Int × Nat) × Int)) (N : Nat) (W1 wr : World) : Prop :=
  ∃ T, ApM wr base m T ∧ (∀ e ∈ T, e.ids ≠ []) ∧ (∀ y j, Lies T y j ↔ (y, j) ∈ ps) ∧ (T.length ≤ N ∧ ∀ e ∈ T, e.ids.length ≤ N) ∧ Below base W1 wr ∧ wr.cell? ⟨ab, 0, none⟩ = some (.map (some m))
theorem ApDone.later {base m ab : Nat} {ps : List ((Int × Nat) × Int)} {N : Nat} {W1 w w' : World} (h : ApDone base m ab ps N W1 w) (hb : Below w.heap.size w w') : ApDone base m ab ps N W1 w' := by
  obtain ⟨T, h1, h2, h3, h4, h5, h6⟩ := h
  exact ⟨T, h1.later hb, h2, h3, h4, h5.trans (hb.mono h1.base_le), keep_cell h6 hb (cell_lt h6)⟩
theorem put_done {base m ab : Nat} {ps : List ((Int × Nat) × Int)} {N : Nat} {W1 w : World} (h : ApDone base m ab ps N W1 w) (l : Int) (c : Nat) (i : Int) (hx : wfL (l, c)) (hi : (Lit.int .u64 i).wf = true) (hN : N ≤ 999999) :
    Calls Try.prog 30 #[Lab l c, .int .u64 i, .pointer (some ⟨ab, 0, none⟩)] w fun e w' => e = .returned (.tuple #[]) ∧ ApDone base m ab (ps ++ [((l, c), i)]) (N + 1) W1 w' ∧ KeepC w w' := by
  obtain ⟨T, h1, h2, h3, h4, h5, h6⟩ := h
  refine (put_any base m ab l c i T w N h1 h2 h6 hx hi h4 hN).mono ?_
  rintro e w' ⟨rfl, T', g1, g2, g3, g4, g5, g6, g7⟩
  refine ⟨rfl, ⟨T', g1, g2, fun y j => ?_, g4, h5.trans g5, g6⟩, g7⟩
  rw [g3, h3, List.mem_append, List.mem_singleton]
  simp only [Prod.mk.injEq]
theorem C6.keepC {p : Nat} {a b c d e f : Value} {W W' : World} (h : C6 p a b c d e f W) (hk : KeepC W W') : C6 p a b c d e f W' := by
  obtain ⟨h0, h1, h2, h3, h4, h5⟩ := h
  exact ⟨hk _ _ _ h0, hk _ _ _ h1, hk _ _ _ h2, hk _ _ _ h3, hk _ _ _ h4, hk _ _ _ h5⟩
/-! the lists that are handed back -/
def R3 : Value → Option (DataW Unit × List MemPlace)
  | .slice (some ⟨b, o, none⟩) n c => some (.agg [.lit (.int .i64 b), .lit (.int .i64 o), .lit (.int .i64 n), .lit (.int .i64 c)], [])
  | _ => none
structure Out where
  x : Int × Nat
  b : Nat
  c : Nat
  ids : List Int
abbrev Out.v (o : Out) : Value := .slice (some ⟨o.b, 0, none⟩) o.ids.length o.c
def codeO (o : Out) : DataW Unit := .agg [.lit (.int .i64 o.b), .lit (.int .i64 0), .lit (.int .i64 o.ids.length), .lit (.int .i64 o.c)]
theorem R3_out (o : Out) : R3 o.v = some (codeO o, []) := rfl
def DO : List Out → DataW Unit
  | [] => .map []
  | o :: R => (DO R).put (kL o.x) (codeO o)
def UAt (w : World) (v : Value) (ids : List Int) : Prop := RdAt w v ids.length 1 (ids.map U)
theorem UAt.keepC {w w' : World} {v : Value} {ids : List Int} (h : UAt w v ids) (hk : KeepC w w') (hs : w.heap.size ≤ w'.heap.size) : UAt w' v ids := by
  refine ⟨h.1, ?_⟩
  rcases h.2 with h | ⟨a, c, rfl, hc, hr⟩
  · exact .inl h
  · refine .inr ⟨a, c, rfl, hc, fun hn => ?_⟩
    obtain ⟨b, o, rfl, hlt, hcell⟩ := hr hn
    exact ⟨b, o, rfl, Nat.lt_of_lt_of_le hlt hs, fun j x hx => hk _ _ _ (hcell j x hx)⟩
structure OutM (w0 : World) (m it mo : Nat) (T : List Ent) (R : List Out) (pend : List (Int × Nat)) (left : Lit → Bool) (cnt : Nat) (w : World) : Prop where
  rg : w.ranges Try.prog 34 R2 m it T.length (DT T) left cnt
  inner : ∀ e ∈ T, w.ownsMap Try.prog 66 (plainElem Try.prog 4) e.b e.ids.length (idsD e.ids)
  out : w.ownsMap Try.prog 34 R3 mo R.length (DO R)
  done : ∀ o ∈ R, left (kL o.x) = false ∧ UAt w o.v o.ids ∧ o.ids.Pairwise (· < ·) ∧ ∃ e ∈ T, e.x = o.x ∧ ∀ i, i ∈ o.ids ↔ i ∈ e.ids
  once : R.Pairwise (fun a b => a.x ≠ b.x)
  rest : ∀ e ∈ T, left (kL e.x) = true ∨ (∃ o ∈ R, o.x = e.x) ∨ e.x ∈ pend
  few : R.length + cnt + pend.length ≤ T.length
  below : Below w0.heap.size w0 w
theorem ranges_iter {w : World} {k : TypeId} {R : Value → Option (DataW Unit × List MemPlace)} {b r n : Nat} {D : DataW Unit} {left : Lit → Bool} {cnt : Nat} (h : w.ranges Try.prog k R b r n D left cnt) : ∃ a s q c, w.heap[r]? = some (.mapIter a s q c) := by
  obtain ⟨es, clock, since, seen, c0, hb, F, hs, hD, hr, rest⟩ := h
  exact ⟨_, _, _, _, hr⟩
theorem ranges_ne {w : World} {k k' : TypeId} {R R' : Value → Option (DataW Unit × List MemPlace)} {b r n b' n' : Nat} {D D' : DataW Unit} {left : Lit → Bool} {cnt : Nat} (h : w.ranges Try.prog k R b r n D left cnt) (h2 : w.ownsMap Try.prog k' R' b' n' D') : b' ≠ r := by
  rintro rfl
  obtain ⟨_, _, _, _, hr⟩ := ranges_iter h
  obtain ⟨es', clock', hb', _⟩ := h2
  rw [hb'] at hr
  cases hr
theorem OutM.grown {w0 w w' : World} {m it mo : Nat} {T : List Ent} {R : List Out} {pend : List (Int × Nat)} {left : Lit → Bool} {cnt : Nat} (h : OutM w0 m it mo T R pend left cnt w) (hg : w.grownBy w' none) : OutM w0 m it mo T R pend left cnt w' := by
  have hb : Below w.heap.size w w' := ⟨hg.os, hg.tape, hg.output, hg.size, fun k hk => hg.block k hk (by simp)⟩
  exact ⟨h.rg.kept hg (by simp) (by simp), fun e he => (h.inner e he).kept hg (by simp), h.out.kept hg (by simp), fun o ho => by
    obtain ⟨h1, h2, h3, h4⟩ := h.done o ho
    exact ⟨h1, h2.later hb, h3, h4⟩, h.once, h.rest, h.few, h.below.trans (hb.mono h.below.size)⟩
theorem OutM.later {w0 w w' : World} {m it mo : Nat} {T : List Ent} {R : List Out} {pend : List (Int × Nat)} {left : Lit → Bool} {cnt : Nat} (h : OutM w0 m it mo T R pend left cnt w) (hb : Below w.heap.size w w') : OutM w0 m it mo T R pend left cnt w' := h.grown (below_grown hb none)
theorem OutM.next {w0 w w' : World} {m it mo : Nat} {T : List Ent} {R : List Out} {left : Lit → Bool} {cnt cnt' : Nat} (h : OutM w0 m it mo T R [] left cnt w) (hT : ∀ e ∈ T, wfL e.x) {x : Int × Nat} (hx : wfL x) (hlx : left (kL x) = true)
    (hrg : w'.ranges Try.prog 34 R2 m it T.length (DT T) (fun z => left z && !z.sameKey (kL x)) cnt') (hlt : cnt' < cnt) (hg : w.grownBy w' (some it)) (hit : w0.heap.size ≤ it) :
    OutM w0 m it mo T R [x] (fun z => left z && !z.sameKey (kL x)) cnt' w' ∧ ∀ o ∈ R, o.x ≠ x := by
  have hk : KeepC w w' := fun b _ _ hv => cell_keep hv hg (fun e1 => by
    have := Option.some.inj e1
    subst this
    obtain ⟨_, _, _, _, hr⟩ := ranges_iter h.rg
    simp [World.cell?, hr] at hv)
  refine ⟨⟨hrg, fun e he => (h.inner e he).kept hg (fun e1 => ranges_ne h.rg (h.inner e he) (Option.some.inj e1)), h.out.kept hg (fun e1 => ranges_ne h.rg h.out (Option.some.inj e1)), fun o ho => ?_, h.once, fun e he => ?_, ?_, h.below.grown hg h.below.size (fun k e1 => by cases e1; exact hit)⟩, fun o ho e1 => ?_⟩
  · obtain ⟨h1, h2, h3, h4⟩ := h.done o ho
    exact ⟨by simp [h1], h2.keepC hk hg.size, h3, h4⟩
  · rcases h.rest e he with h1 | h1 | h1
    · by_cases hex : e.x = x
      · exact .inr (.inr (by rw [hex]; exact List.mem_singleton_self _))
      · refine .inl ?_
        rw [h1, sameKey_ne (fun e1 => hex (kL_inj (hT e he) hx e1))]; rfl
    · exact .inr (.inl h1)
    · cases h1
  · have := h.few
    simp at this ⊢
    omega
  · have := (h.done o ho).1
    rw [e1, hlx] at this
    cases this
theorem OutM.put {w0 w : World} {m it mo : Nat} {T : List Ent} {R : List Out} {x : Int × Nat} {left : Lit → Bool} {cnt : Nat} (h : OutM w0 m it mo T R [x] left cnt w) (hx : wfL x) (hm : mo ≠ m ∧ ∀ e ∈ T, e.b ≠ mo) (hit : it ≠ mo) (hmo : w0.heap.size ≤ mo) (hN : T.length ≤ 999999)
    (o : Out) (hox : o.x = x) (hlx : left (kL x) = false) (hur : UAt w o.v o.ids) (hs : o.ids.Pairwise (· < ·)) (he : ∃ e ∈ T, e.x = x ∧ ∀ i, i ∈ o.ids ↔ i ∈ e.ids) (hne : ∀ p ∈ R, p.x ≠ x) :
    ∃ w', (Instr.mapUpdate 40 (.map (some mo)) (LabP x) o.v).run Try.prog w = .ok () w' ∧ OutM w0 m it mo T (o :: R) [] left cnt w' ∧ KeepC w w' := by
  have hf := h.few
  obtain ⟨w', hr, ho, hg⟩ := h.out.update lawL Try.underlying40 (by unfold maxLen; simp at hf; omega) (keyOf_lab hx) (R3_out o)
  have hk : KeepC w w' := KeepC.of_map h.out hg
  refine ⟨w', hr, ⟨h.rg.kept hg (fun e1 => hm.1 (Option.some.inj e1).symm) (fun e1 => hit (Option.some.inj e1)), fun e he => (h.inner e he).kept hg (fun e1 => hm.2 e he (Option.some.inj e1)), by rw [DO, hox]; exact ho, fun p hp => ?_, List.pairwise_cons.2 ⟨fun p hp => by rw [hox]; exact fun e1 => hne p hp e1.symm, h.once⟩, fun e he => ?_, ?_, h.below.grown hg h.below.size (fun k e1 => by cases e1; exact hmo)⟩, hk⟩
  · rcases List.mem_cons.1 hp with rfl | hp'
    · rw [hox]; exact ⟨hlx, hur.keepC hk hg.size, hs, he⟩
    · obtain ⟨h1, h2, h3, h4⟩ := h.done p hp'
      exact ⟨h1, h2.keepC hk hg.size, h3, h4⟩
  · rcases h.rest e he with h1 | ⟨p, hp, h1⟩ | h1
    · exact .inl h1
    · exact .inr (.inl ⟨p, List.mem_cons_of_mem _ hp, h1⟩)
    · exact .inr (.inl ⟨o, List.mem_cons_self, by rw [hox]; exact (List.mem_singleton.1 h1).symm⟩)
  · simp at hf ⊢; omega
theorem LabP_inj {x y : Int × Nat} (h : LabP x = LabP y) : x = y := by
  obtain ⟨l, c⟩ := x
  obtain ⟨l', c'⟩ := y
  simp only [LabP, Lab, Value.agg.injEq, Array.mk.injEq, List.cons.injEq, Value.int.injEq, true_and, and_true] at h
  obtain ⟨rfl, h2⟩ := h
  have : c = c' := by exact_mod_cast h2
  subst this; rfl
theorem sorted_ent (e : Ent) (x : Int × Nat) (Bm : Nat) (w : World) (hBm : Bm < w.heap.size) (hm : w.cell? ⟨Bm, 0, none⟩ = some (.map (some e.b))) (hin : w.ownsMap Try.prog 66 (plainElem Try.prog 4) e.b e.ids.length (idsD e.ids)) (hsz : 0 < Maps.size (idsD e.ids) ∧ Maps.size (idsD e.ids) ≤ 12) :
    Calls Try.prog 32 #[.func (.func 61) #[] #[.pointer (some ⟨Bm, 0, none⟩)]] w fun r w' => ∃ o : Out, r = .returned o.v ∧ o.x = x ∧ UAt w' o.v o.ids ∧ o.ids.Pairwise (· < ·) ∧ (∀ i, i ∈ o.ids ↔ i ∈ e.ids) ∧ Below w.heap.size w w' := by
  obtain ⟨u1, u2, u3⟩ := uKeys_own hin (int_keyed Try.underlying66) Try.underlying66
  refine (sorted_any Bm e.b e.ids.length (idsD e.ids) w hBm hm hin hsz.2 hsz.1).mono ?_
  rintro r w' ⟨v, ss, rfl, hp, hrow, hb⟩
  have hl : ss.length = Maps.size (idsD e.ids) := by rw [hp.length_eq, u3]
  rcases hrow.2 with ⟨_, h0⟩ | ⟨g, cap, cur, rfl, _, hg, hle, _⟩
  · omega
  · have hpm : (ss.mergeSort fun x y => decide (x ≤ y)).Perm ss := List.mergeSort_perm _ _
    refine ⟨⟨x, g, cap, ss.mergeSort fun x y => decide (x ≤ y)⟩, by simp [List.length_mergeSort], rfl, ?_, ?_, fun i => ?_, hb⟩
    · have := RdAt.own hrow
      unfold UAt Out.v
      dsimp only
      rw [List.length_mergeSort]
      exact this
    · have h1 : (ss.mergeSort fun x y => decide (x ≤ y)).Pairwise (fun a b => decide (a ≤ b) = true) := List.pairwise_mergeSort (fun a b c h1 h2 => by simp at *; omega) (fun a b => by simp; omega) ss
      have h2 : (ss.mergeSort fun x y => decide (x ≤ y)).Nodup := (hpm.trans hp).nodup_iff.2 u1
      refine (h1.and h2).imp ?_
      rintro a b ⟨h3, h4⟩
      simp at h3
      omega
    · rw [(hpm.trans hp).mem_iff, u2, idsD_has, decide_eq_true_eq]
theorem C6.low {p B : Nat} {a b c d e f : Value} {W W' : World} (h : C6 p a b c d e f W) (hb : Below B W W') (hp : p < B) : C6 p a b c d e f W' := by
  obtain ⟨h0, h1, h2, h3, h4, h5⟩ := h
  have q : ∀ o v, W.cell? ⟨p, o, none⟩ = some v → W'.cell? ⟨p, o, none⟩ = some v := fun o v hv => (hb.cell (p := ⟨p, o, none⟩) hp).trans hv
  exact ⟨q _ _ h0, q _ _ h1, q _ _ h2, q _ _ h3, q _ _ h4, q _ _ h5⟩
theorem ApDone.below {base m ab : Nat} {ps : List ((Int × Nat) × Int)} {N : Nat} {W1 w : World} (h : ApDone base m ab ps N W1 w) : Below base W1 w := by
  obtain ⟨T, h1, h2, h3, h4, h5, h6⟩ := h
  exact h5
def ApartPost (rs : List Nmd) (al : List Al) (w : World) (e : Ending) (w' : World) : Prop :=
  ∃ (mo : Nat) (R : List Out), e = .returned (.map (some mo)) ∧ w'.ownsMap Try.prog 34 R3 mo R.length (DO R) ∧
    (∀ o ∈ R, wfL o.x ∧ UAt w' o.v o.ids ∧ o.ids.Pairwise (· < ·) ∧ o.ids ≠ [] ∧ ∀ i, i ∈ o.ids ↔ (o.x, i) ∈ putsL rs al) ∧ R.Pairwise (fun a b => a.x ≠ b.x) ∧
    (∀ x i, (x, i) ∈ putsL rs al → ∃ o ∈ R, o.x = x) ∧ Below w.heap.size w w'
set_option maxHeartbeats 3200000 in
set_option maxRecDepth 100000 in
theorem apart_any (s0 s1 s2 s4 s5 : Option Addr × Nat × Nat) (rs : List Nmd) (rv : Value) (l : List (Al × Value)) (v : Value) (w : World) (hv : NmdsAt w rv rs) (hl : rs.length ≤ maxLen) (ha : AlsAt w v l) (h12 : l.length ≤ 12) :
    Calls Try.prog 10 #[.agg #[SV s0, SV s1, SV s2, rv, SV s4, SV s5], v] w fun e w' => ApartPost rs (l.map (·.1)) w e w' := by
  obtain ⟨ra, rc, rfl, _, _⟩ := RdAt.shape hv
  obtain ⟨va, vc, rfl, hvc, hvr⟩ := RdAt.shape ha.row
  obtain ⟨a0, n0, c0⟩ := s0
  obtain ⟨a1, n1, c1⟩ := s1
  obtain ⟨a2, n2, c2⟩ := s2
  obtain ⟨a4, n4, c4⟩ := s4
  obtain ⟨a5, n5, c5⟩ := s5
  have hmm := @run_makeMap Try.prog
  obtain ⟨Wp, hWp⟩ : ∃ z, w.alloc (.cells #[.slice a0 n0 c0, .slice a1 n1 c1, .slice a2 n2 c2, .slice ra rs.length rc, .slice a4 n4 c4, .slice a5 n5 c5] 26) = z := ⟨_, rfl⟩
  obtain ⟨W1, hW1⟩ : ∃ z, (Wp.alloc (.map #[] 0)).alloc (.cells #[.map (some (w.heap.size + 1))] 74) = z := ⟨_, rfl⟩
  have sp : Wp.heap.size = w.heap.size + 1 := by rw [← hWp, World.size_alloc]
  have s1 : W1.heap.size = w.heap.size + 3 := by rw [← hW1, World.size_alloc, World.size_alloc, sp]
  have hA0 := ApM.new Wp
  have hA1 := hA0.later (alloc_below (Wp.alloc (.map #[] 0)) (.cells #[.map (some (w.heap.size + 1))] 74))
  rw [hW1, sp] at hA1
  have hab : W1.cell? ⟨w.heap.size + 1 + 1, 0, none⟩ = some (.map (some (w.heap.size + 1))) := by
    rw [← hW1, World.cell?_alloc_at _ _ _ _ (by rw [World.size_alloc, sp])]; rfl
  have bp : Below w.heap.size w Wp := by rw [← hWp]; exact alloc_below _ _
  have b1 : Below Wp.heap.size Wp W1 := by rw [← hW1]; exact (alloc_below _ _).trans ((alloc_below _ _).mono (by rw [World.size_alloc]; omega))
  have bw1 : Below w.heap.size w W1 := bp.trans (b1.mono (by omega))
  have hD0 : ApDone (w.heap.size + 1) (w.heap.size + 1) (w.heap.size + 1 + 1) (putsL rs ((l.map (·.1)).take 0)) 0 W1 W1 := ⟨[], hA1, fun _ h => (by cases h), fun y j => by simp [Lies, putsL], ⟨Nat.le_refl _, fun _ h => (by cases h)⟩, Below.refl _ _, hab⟩
  have hpc : C6 w.heap.size (.slice a0 n0 c0) (.slice a1 n1 c1) (.slice a2 n2 c2) (.slice ra rs.length rc) (.slice a4 n4 c4) (.slice a5 n5 c5) W1 := by
    have h := b1
    rw [← hWp] at h
    obtain ⟨h, _, _⟩ := box6 h
    exact h
  have HD0 := Lib.hid hD0
  have HPC := Lib.hid hpc
  have HA := Lib.hid ha
  have HV := Lib.hid hv
  have BW1 := Lib.hid bw1
  have SW1 := Lib.hid s1
  have HVR := Lib.hid hvr
  clear hD0 hpc ha hv hA0 hA1 hab bp b1 bw1 hvr s1
  go_enter Try.func10, Try.ntmps10
  go_wp2
  go_loopw [19] (fun i wr => ∃ (k N : Nat), i = .int .i64 k ∧ k ≤ l.length ∧ N ≤ k * 9 ∧ Hid (ApDone (w.heap.size + 1) (w.heap.size + 1) (w.heap.size + 1 + 1) (putsL rs ((l.map (·.1)).take k)) N W1 wr)) (fun i _ => l.length - (intOf i).toNat)
  case atStart => exact ⟨0, 0, rfl, Nat.zero_le _, Nat.zero_le _, HD0⟩
  case round =>
    clear HD0
    obtain ⟨k, N, rfl, hk, hN, HD⟩ := hrel
    have HBw : Hid (Below w.heap.size w wr) := by
      obtain ⟨T, h1, h2, h3, h4, h5, h6⟩ := HD.out
      exact BW1.out.trans (h5.mono (Nat.le_succ _))
    by_cases hkl : k < l.length
    · obtain ⟨g, o, rfl, hg, hcell⟩ := HVR.out (by omega)
      obtain ⟨⟨x, fv⟩, hx⟩ : ∃ p, l[k] = p := ⟨_, rfl⟩
      obtain ⟨hfv, hfit⟩ := HA.out.fld _ (List.getElem_mem hkl)
      rw [hx] at hfv hfit
      dsimp only at hfv hfit
      have hat := alCells_at l k hkl
      rw [hx] at hat
      have hps : (l.map (·.1))[k]'(by rw [List.length_map]; exact hkl) = x := by rw [List.getElem_map, hx]
      have hstep := putsL_succ (rs := rs) (l := l.map (·.1)) (k := k) (by rw [List.length_map]; exact hkl)
      rw [hps] at hstep
      have HST := Lib.hid hstep
      obtain ⟨src, fl, lv, c, fr, til⟩ := x
      obtain ⟨fa, fc, rfl, hfc, hfr⟩ := RdAt.shape hfv
      have q : ∀ i v, (alC ⟨src, fl, lv, c, fr, til⟩ (.slice fa fl.length fc))[i]? = some v → wr.cell? ⟨g, o + k * 6 + i, none⟩ = some v := fun i v hi => keep_cell (by have := hcell _ _ (hat i v hi); rwa [← Nat.add_assoc] at this) HBw.out hg
      have e0 : wr.cell? ⟨g, o + k * 6, none⟩ = some (.string src) := q 0 _ rfl
      have e1 : wr.cell? ⟨g, o + k * 6 + 1, none⟩ = some (.slice fa fl.length fc) := q 1 _ rfl
      have e2 : wr.cell? ⟨g, o + k * 6 + 2, none⟩ = some (.int .i64 lv) := q 2 _ rfl
      have e3 : wr.cell? ⟨g, o + k * 6 + 3, none⟩ = some (.int .u32 c) := q 3 _ rfl
      have e4 : wr.cell? ⟨g, o + k * 6 + 4, none⟩ = some (.int .i64 fr) := q 4 _ rfl
      have e5 : wr.cell? ⟨g, o + k * 6 + 5, none⟩ = some (.int .i64 til) := q 5 _ rfl
      have HFV := Lib.hid hfv
      have HFIT := Lib.hid hfit
      have HFR := Lib.hid hfr
      have hba := alloc_below wr (.cells #[.string src, .slice fa fl.length fc, .int .i64 lv, .int .u32 c, .int .i64 fr, .int .i64 til] 36)
      obtain ⟨hX, hltx, _⟩ := box6 (Below.refl (wr.alloc (.cells #[.string src, .slice fa fl.length fc, .int .i64 lv, .int .u32 c, .int .i64 fr, .int .i64 til] 36)).heap.size _)
      clear q hat hfv hfit hfr hcell hstep hps hx
      go_upto_region 6 with fail
      change Code.wp _ _ _ _ (wr.alloc (.cells #[.string src, .slice fa fl.length fc, .int .i64 lv, .int .u32 c, .int .i64 fr, .int .i64 til] 36))
      generalize wr.alloc (.cells #[.string src, .slice fa fl.length fc, .int .i64 lv, .int .u32 c, .int .i64 fr, .int .i64 til] 36) = wa at *
      have HBa := Lib.hid (HBw.out.trans (hba.mono HBw.out.size))
      have HDa := Lib.hid (HD.out.later hba)
      have hr := aright_any src fl lv c fr til (.slice fa fl.length fc) wa HFIT.out.src (HFV.out.later HBa.out) HFIT.out.fl HFIT.out.len
      have X0 : Hid (C6 wr.heap.size (.string src) (.slice fa fl.length fc) (.int .i64 lv) (.int .u32 c) (.int .i64 fr) (.int .i64 til) wa) := Lib.hid hX
      obtain ⟨x0, x1, x2, x3, x4, x5⟩ := hX
      have HLT := Lib.hid hltx
      obtain ⟨rt, hrt⟩ : ∃ rt, (whoA src fl lv && beginsA fr && endsA fr til) = rt := ⟨_, rfl⟩
      have HRT : Hid (rightA ⟨src, fl, lv, c, fr, til⟩ = rt) := hrt
      rw [hrt] at hr
      clear e0 e1 e2 e3 e4 e5 hba HD hltx hrt
      go_wp2_with fail
      refine hr.mono ?_
      rintro e w2 ⟨rfl, hb2⟩
      have HB2 := Lib.hid (HBa.out.trans (hb2.mono HBa.out.size))
      have HD2 := Lib.hid (HDa.out.later hb2)
      have X2 := Lib.hid (X0.out.later hb2 HLT.out)
      have HLT2 := Lib.hid (Nat.lt_of_lt_of_le HLT.out hb2.size)
      clear x0 x1 x2 x3 x4 x5 X0 HLT HDa HBa hb2 hr
      cases rt
      · go_wp2
        go_roundw
        case rel => exact ⟨k + 1, N, by go_num, by omega, by omega, Lib.hid (by rw [HST.out, putsA, HRT.out]; simpa using HD2.out)⟩
        case measure => (simp [intOf]; try omega)
      · have hwho := rightA_who HRT.out
        have hid := id_any src fl lv c fr til (.slice fa fl.length fc) w2 (HFV.out.later HB2.out) (idB_bound hwho)
        obtain ⟨hlv, hlc⟩ : rightL lv = true ∧ c < 4294967296 := ⟨(whoA_iff.1 hwho).2.2.2, HFIT.out.c⟩
        obtain ⟨nid, hnid⟩ : ∃ z, shortL (idB src fl) = z := ⟨_, rfl⟩
        have hnw := shortL_wf (idB src fl)
        rw [hnid] at hid hnw
        have HNW := Lib.hid hnw
        have HWF := Lib.hid (wfL_of hlv hlc)
        have HLV := Lib.hid hlv
        have HWHO := Lib.hid hwho
        have HST2 : Hid (putsL rs ((l.map (·.1)).take (k + 1)) = putsL rs ((l.map (·.1)).take k) ++ ((lv, c), nid) :: fl.map (fun f => (raisedL rs f.1 (lv, c), nid))) := by
          show _ = _
          rw [HST.out, putsA, HRT.out]
          simp only [idA, hnid]
          rfl
        clear hnw hnid hlv hwho HST
        obtain ⟨x0, x1, x2, x3, x4, x5⟩ := X2.out
        go_wp2_with fail
        refine hid.mono ?_
        rintro e w3 ⟨rfl, hb3⟩
        have HB3 := Lib.hid (HB2.out.trans (hb3.mono HB2.out.size))
        have HD3 := Lib.hid (HD2.out.later hb3)
        have X3 := Lib.hid (X2.out.later hb3 HLT2.out)
        have HLT3 := Lib.hid (Nat.lt_of_lt_of_le HLT2.out hb3.size)
        clear x0 x1 x2 x3 x4 x5 X2 HLT2 HD2 HB2 hb3 hid
        obtain ⟨x0, x1, x2, x3, x4, x5⟩ := X3.out
        have hpd := put_done HD3.out lv c nid HWF.out HNW.out (by omega)
        go_wp2_with fail
        refine hpd.mono ?_
        rintro e w4 ⟨rfl, hd4, hk4⟩
        have HD4 := Lib.hid hd4
        have X4 := Lib.hid (X3.out.keepC hk4)
        clear x0 x1 x2 x3 x4 x5 X3 HLT3 HD3 HB3 hpd hd4 hk4
        obtain ⟨x0, x1, x2, x3, x4, x5⟩ := X4.out
        have hf8 := (rightF_at (whoA_iff.1 HWHO.out).2.2.1).1
        go_wp2
        clear x0 x1 x2 x3 x4 x5
        generalize wr.heap.size = bx at *
        go_loopw [36] (fun i w5 => ∃ (j N' : Nat), i = .int .i64 j ∧ j ≤ fl.length ∧ N' ≤ N + 1 + j ∧ Hid (ApDone (w.heap.size + 1) (w.heap.size + 1) (w.heap.size + 1 + 1) (putsL rs ((l.map (·.1)).take k) ++ ((lv, c), nid) :: (fl.take j).map (fun f => (raisedL rs f.1 (lv, c), nid))) N' W1 w5) ∧ Hid (C6 bx (.string src) (.slice fa fl.length fc) (.int .i64 lv) (.int .u32 c) (.int .i64 fr) (.int .i64 til) w5)) (fun i _ => fl.length - (intOf i).toNat)
        case atStart => exact ⟨0, N + 1, rfl, Nat.zero_le _, by omega, HD4, X4⟩
        case round =>
          clear HD4 X4
          obtain ⟨j, N', rfl, hj, hN', HD5, X5⟩ := hrel
          have HB5 : Hid (Below w.heap.size w wr) := Lib.hid (BW1.out.trans (HD5.out.below.mono (Nat.le_succ _)))
          by_cases hjl : j < fl.length
          · obtain ⟨b', o', rfl, hb', hfc'⟩ := HFR.out (by omega)
            obtain ⟨h1, h2⟩ := fldCells_at fl j hjl
            have e0 : wr.cell? ⟨b', o' + j * 2, none⟩ = some (.string fl[j].1) := keep_cell (hfc' _ _ h1) HB5.out hb'
            have e1 : wr.cell? ⟨b', o' + j * 2 + 1, none⟩ = some (.string fl[j].2) := keep_cell (by have := hfc' _ _ h2; rwa [← Nat.add_assoc] at this) HB5.out hb'
            obtain ⟨⟨fx, fy⟩, hfx⟩ : ∃ z, fl[j] = z := ⟨_, rfl⟩
            rw [hfx] at e0 e1
            dsimp only at e0 e1
            have HFX := Lib.hid hfx
            have hbb := alloc_below wr (.cells #[.string fx, .string fy] 48)
            have y0 : (wr.alloc (.cells #[.string fx, .string fy] 48)).cell? ⟨wr.heap.size, 0, none⟩ = some (.string fx) := World.cell?_alloc_at _ _ _ _ rfl
            clear h1 h2 hfc' hfx
            go_upto_region 12 with fail
            change Code.wp _ _ _ _ (wr.alloc (.cells #[.string fx, .string fy] 48))
            generalize wr.alloc (.cells #[.string fx, .string fy] 48) = wb at *
            have HBb := Lib.hid (HB5.out.trans (hbb.mono HB5.out.size))
            have HDb := Lib.hid (HD5.out.later hbb)
            have Xb := Lib.hid (X5.out.later hbb (cell_lt X5.out.1))
            have hP := HPC.out.low HDb.out.below (Nat.lt_succ_self _)
            obtain ⟨p0, p1, p2, p3, p4, p5⟩ := hP
            obtain ⟨x0, x1, x2, x3, x4, x5⟩ := Xb.out
            have hra := raised_any (a0, n0, c0) (a1, n1, c1) (a2, n2, c2) (a4, n4, c4) (a5, n5, c5) rs (.slice ra rs.length rc) fx lv c wb (HV.out.later HBb.out) hl
            obtain ⟨rl, hrl⟩ : ∃ z, raisedL rs fx (lv, c) = z := ⟨_, rfl⟩
            have hrw := raisedL_wf rs fx (l := (lv, c)) HLV.out HFIT.out.c
            rw [hrl] at hra hrw
            obtain ⟨r1, r2⟩ := rl
            have HRW := Lib.hid hrw
            have HRL := Lib.hid hrl
            clear e0 e1 hbb HD5 X5 HB5 hrw hrl
            go_wp2_with fail
            refine hra.mono ?_
            rintro e w6 ⟨rfl, hb6⟩
            have HD6 := Lib.hid (HDb.out.later hb6)
            have X6 := Lib.hid (Xb.out.later hb6 (cell_lt Xb.out.1))
            have hpd := put_done HD6.out r1 r2 nid HRW.out HNW.out (by omega)
            clear p0 p1 p2 p3 p4 p5 x0 x1 x2 x3 x4 x5 y0 hra hb6 HDb Xb HBb
            go_wp2_with fail
            refine hpd.mono ?_
            rintro e w7 ⟨rfl, hd7, hk7⟩
            have HD7 := Lib.hid hd7
            have X7 := Lib.hid (X6.out.keepC hk7)
            clear hpd hd7 hk7 HD6 X6
            go_wp2
            go_roundw
            case rel =>
              refine ⟨j + 1, N' + 1, by go_num, by omega, by omega, Lib.hid ?_, X7⟩
              have := HD7.out
              rw [List.take_succ_eq_append_getElem hjl, List.map_append, HFX.out]
              simp only [List.map_cons, List.map_nil, HRL.out]
              rw [List.append_assoc] at this
              exact this
            case measure => (simp [intOf]; try omega)
          · obtain rfl : j = fl.length := by omega
            go_wp2
            go_roundw
            case rel => exact ⟨k + 1, N', by go_num, by omega, by omega, Lib.hid (by rw [HST2.out]; have := HD5.out; rwa [List.take_length] at this)⟩
            case measure => (simp [intOf]; try omega)
    · obtain rfl : k = l.length := by omega
      obtain ⟨T, hT, hfull, hlies, hlen, hbT, habT⟩ := HD.out
      have hsz : ∀ e ∈ T, 0 < Maps.size (idsD e.ids) ∧ Maps.size (idsD e.ids) ≤ 12 := fun e he => by
        obtain ⟨u1, u2, u3⟩ := uKeys_own (hT.inner e he) (int_keyed Try.underlying66) Try.underlying66
        refine ⟨?_, ?_⟩
        · obtain ⟨i, hi⟩ := List.exists_mem_of_ne_nil _ (hfull e he)
          rw [← u3]
          exact List.length_pos_of_mem ((u2 i).2 (by rw [idsD_has]; exact decide_eq_true hi))
        · have := nodup_len (uKeys (idsD e.ids)) ((l.map (·.1)).map idA) u1 (fun i hi => by
            have hie : i ∈ e.ids := by have := (u2 i).1 hi; rw [idsD_has] at this; exact of_decide_eq_true this
            have := (hlies e.x i).1 ⟨e, he, rfl, hie⟩
            rw [List.take_of_length_le (by simp)] at this
            unfold putsL at this
            rw [List.mem_flatMap] at this
            obtain ⟨x, hx, hxp⟩ := this
            refine List.mem_map.2 ⟨x, hx, ?_⟩
            unfold putsA at hxp
            split at hxp
            · rcases List.mem_cons.1 hxp with h | h
              · exact (congrArg (·.2) h).symm
              · obtain ⟨f, _, hf⟩ := List.mem_map.1 h
                exact congrArg (·.2) hf
            · cases hxp)
          rw [u3, List.length_map, List.length_map] at this
          omega
      obtain ⟨W2, hW2⟩ : ∃ z, wr.alloc (.map #[] 0) = z := ⟨_, rfl⟩
      have b2 : Below wr.heap.size wr W2 := by rw [← hW2]; exact alloc_below _ _
      have z2 : W2.heap.size = wr.heap.size + 1 := by rw [← hW2, World.size_alloc]
      have hT2 := hT.later b2
      have hout : W2.ownsMap Try.prog 34 R3 wr.heap.size 0 (DO []) := by rw [← hW2]; exact World.ownsMap_made _ _ _ _
      have hab2 := keep_cell habT b2 (cell_lt habT)
      have hmo : wr.heap.size ≠ w.heap.size + 1 ∧ ∀ e ∈ T, e.b ≠ wr.heap.size := ⟨by have := hT.outer.lt; omega, fun e he => by have := (hT.inner e he).lt; omega⟩
      have BW2 := Lib.hid (HBw.out.trans (b2.mono HBw.out.size))
      have HT2 := Lib.hid hT2
      have HOUT := Lib.hid hout
      have HMO := Lib.hid hmo
      have HSZ := Lib.hid hsz
      have HN := Lib.hid hlen.1
      have HFULL := Lib.hid hfull
      rw [List.take_of_length_le (by simp)] at hlies
      have HLIES := Lib.hid hlies
      clear hT hfull hbT habT b2 hT2 hout hmo hsz hlen hlies HD HVR HA HV HPC
      go_wp2_with (first
        | (at_range; refine wpList_range_own _ rfl _ 74 rfl 34 75 lawL Try.underlying74 R2 (w.heap.size + 1) T.length (DT T) rfl HT2.out.outer ?_; intro W3 hrg3 hg3 hs3)
        | go_in)
      have hO3 : OutM w (w.heap.size + 1) W2.heap.size wr.heap.size T [] [] (has (DT T)) (Maps.size (DT T)) W3 :=
        ⟨hrg3, fun e he => (HT2.out.inner e he).kept hg3 (by simp), HOUT.out.kept hg3 (by simp), fun o ho => (by cases ho), List.Pairwise.nil,
          fun e he => .inl (by rw [DT_has (fun f hf => (HT2.out.wf f hf).1) (HT2.out.wf e he).1]; exact decide_eq_true (List.mem_map.2 ⟨e, he, rfl⟩)),
          by rw [DT_size (fun f hf => (HT2.out.wf f hf).1) HT2.out.once]; simp,
          BW2.out.grown hg3 BW2.out.size (fun k e => by cases e)⟩
      have HO3 := Lib.hid hO3
      have hit : W2.heap.size ≠ wr.heap.size := by omega
      have hitw : w.heap.size ≤ wr.heap.size := HBw.out.size
      have hitw2 : w.heap.size ≤ W2.heap.size := by omega
      have HTW := Lib.hid HT2.out.wf
      have HTX := Lib.hid HT2.out.once
      clear hO3 hrg3 hg3 hs3 HOUT HT2 BW2 hab2 hW2 z2 HBw
      generalize W2.heap.size = it at *
      generalize wr.heap.size = mo at *
      go_frame
      go_wp2
      go_loopw [14] (fun _ wx => ∃ (left : Lit → Bool) (cnt : Nat) (R : List Out), Hid (OutM w (w.heap.size + 1) it mo T R [] left cnt wx)) (fun _ wx => wx.rangeLeft (w.heap.size + 1) it)
      case atStart => exact ⟨_, _, [], HO3⟩
      case round =>
        clear HO3
        obtain ⟨left, cnt, R, HO⟩ := hrel
        go_wp2_with (first
          | (at_next; refine wpList_next_ranges _ rfl _ rfl 34 lawL R2 LabP Value.map (fun key kl hk => by obtain ⟨x, hx, _⟩ := keyOf_inv hk; exact ⟨x, hx⟩) (fun v y hv => R2_inv hv) (w.heap.size + 1) it T.length _ _ _ rfl HO.out.rg ?_ ?_)
          | go_in)
        · intro hc0 hl0
          go_wp2
          go_ret
          refine ⟨mo, R, rfl, HO.out.out, fun o ho => ?_, HO.out.once, fun x i hxi => ?_, HO.out.below⟩
          · obtain ⟨_, h2, h3, e, he, hex, hids⟩ := HO.out.done o ho
            have hl2 : ∀ i, i ∈ o.ids ↔ (o.x, i) ∈ putsL rs (l.map (·.1)) := fun i => by
              rw [hids, ← HLIES.out]
              constructor
              · intro hi; exact ⟨e, he, hex, hi⟩
              · rintro ⟨f, hf, hfx, hi⟩
                rw [eq_of_once HTX.out he hf (by rw [hex, hfx])]; exact hi
            refine ⟨by rw [← hex]; exact (HTW.out e he).1, h2, h3, fun h0 => ?_, hl2⟩
            obtain ⟨i, hi⟩ := List.exists_mem_of_ne_nil _ (HFULL.out e he)
            have := (hids i).2 hi
            rw [h0] at this
            cases this
          · obtain ⟨e, he, hex, hi⟩ := (HLIES.out x i).2 hxi
            rcases HO.out.rest e he with h | ⟨o, ho, h⟩ | h
            · rw [hl0] at h; cases h
            · exact ⟨o, ho, by rw [h, hex]⟩
            · cases h
        · intro lx cx mb kl yd yp w2 cnt2 hkey hlk hv hat hrg2 hlt hg2 hs2 hen
          obtain ⟨x', hx', hwx, rfl⟩ := keyOf_inv hkey
          obtain rfl := LabP_inj hx'
          have hmem : (lx, cx) ∈ labs T := by
            have := has_true_of_atKey hat
            rw [DT_has (fun f hf => (HTW.out f hf).1) hwx] at this
            exact of_decide_eq_true this
          obtain ⟨e, he, hex⟩ := List.mem_map.1 hmem
          obtain rfl : yd = .lit (.int .i64 e.b) := by rw [← hat .nil, ← hex, DT_at (fun f hf => (HTW.out f hf).1) HTX.out he]
          obtain rfl : mb = some e.b := by have := R2_some hv; cases this; rfl
          obtain ⟨hO2, hne⟩ := HO.out.next (fun f hf => (HTW.out f hf).1) hwx hlk hrg2 hlt hg2 hitw2
          have hO3 := hO2.later (alloc_below w2 (.cells #[.int .i64 lx, .int .u32 cx] 34))
          have z0 : (w2.alloc (.cells #[.int .i64 lx, .int .u32 cx] 34)).cell? ⟨w2.heap.size, 0, none⟩ = some (.int .i64 lx) := World.cell?_alloc_at _ _ _ _ rfl
          have z1 : (w2.alloc (.cells #[.int .i64 lx, .int .u32 cx] 34)).cell? ⟨w2.heap.size, 1, none⟩ = some (.int .u32 cx) := World.cell?_alloc_at _ _ _ _ rfl
          have hO4 := hO3.later ((Below.refl _ _).drew)
          have HNE := Lib.hid hne
          have HLT := Lib.hid hlt
          have HEX := Lib.hid hex
          have HWX := Lib.hid hwx
          have HLEFT : Hid ((fun z => left z && !z.sameKey (kL (lx, cx))) (kL (lx, cx)) = false) := by
            show (left (kL (lx, cx)) && !(kL (lx, cx)).sameKey (kL (lx, cx))) = false
            rw [WideAt.sameKey_self (kL_key _)]; simp
          clear hkey hx' hwx hmem hat hv hne hO2 hO3 hlt hex hrg2 hg2 hs2 hlk
          go_upto_region 19 with fail
          change Code.wp _ _ _ _ (w2.alloc (.cells #[.int .i64 lx, .int .u32 cx] 34))
          generalize w2.alloc (.cells #[.int .i64 lx, .int .u32 cx] 34) = wb at *
          generalize w2.heap.size = bx at *
          have HO4 := Lib.hid hO4
          clear hO4 hen
          refine wp_region_held_drew (S := (fun W => W.cell? ⟨bx, 0, none⟩ = some (.int .i64 lx) ∧ W.cell? ⟨bx, 1, none⟩ = some (.int .u32 cx))) (by kernel_rfl) ⟨z0, z1⟩ (fun hHeld => ?_)
          refine held_take (i := 0) (v := ?_) rfl rfl (by kernel_rfl) (by kernel_rfl) (by kernel_rfl) (fun _ _ _ h => h) (by rfl) hHeld ?_ ?_
          rotate_left
          · rintro wh ⟨q0, q1⟩
            go_simp
            (try with_reducible rfl)
          simp only [Act.put, List.setIfInBounds_toArray, List.set_cons_zero, List.set_cons_succ]
          refine held_take (i := 1) (v := ?_) rfl rfl (by kernel_rfl) (by kernel_rfl) (by kernel_rfl) (fun _ _ _ h => h) (by rfl) hHeld ?_ ?_
          rotate_left
          · rintro wh ⟨q0, q1⟩
            go_simp
            (try with_reducible rfl)
          simp only [Act.put, List.setIfInBounds_toArray, List.set_cons_zero, List.set_cons_succ]
          refine held_take (i := 2) (v := ?_) rfl rfl (by kernel_rfl) (by kernel_rfl) (by kernel_rfl) (fun _ _ _ h => h) (by rfl) hHeld ?_ ?_
          rotate_left
          · rintro wh ⟨q0, q1⟩
            go_simp
            (try with_reducible rfl)
          simp only [Act.put, List.setIfInBounds_toArray, List.set_cons_zero, List.set_cons_succ]
          refine held_call (i := 3) rfl (by kernel_rfl) (by rfl) (fun K hK => ?_)
          (go_simp; go_at_call 33; refine (mkeys_any _ _).mono ?_; rintro r w3 ⟨rfl, rfl⟩; have hk3 := alloc_below wb.drew (.cells #[.map (some e.b)] 75); have hO5 := HO4.out.later hk3; have z0' := keep_cell (w := wb.drew) z0 hk3 (cell_lt z0); have z1' := keep_cell (w := wb.drew) z1 hk3 (cell_lt z1); have hso := sorted_ent e (lx, cx) wb.drew.heap.size (wb.drew.alloc (.cells #[.map (some e.b)] 75)) (by simp) (World.cell?_alloc_at _ _ _ _ rfl) (hO5.inner e he) (HSZ.out e he))
          refine hK.out _ _ ⟨z0', z1'⟩ (fun hHeld => ?_)
          clear hK K
          (try simp only [Act.put, List.setIfInBounds_toArray, List.set_cons_zero, List.set_cons_succ])
          refine held_call (i := 4) rfl (by kernel_rfl) (by rfl) (fun K hK => ?_)
          (go_simp; go_at_call 32; refine hso.mono ?_; rintro r w5 ⟨o, rfl, hox, hur, hsr, hmem, hb5⟩; obtain ⟨w6, hup, hO6, hk6⟩ := (hO5.later hb5).put HWX.out HMO.out hit hitw (by have := HN.out; omega) o hox HLEFT.out hur hsr ⟨e, he, HEX.out, hmem⟩ HNE.out; have z0'' := keep_cell z0' hb5 (cell_lt z0'); have z1'' := keep_cell z1' hb5 (cell_lt z1'))
          refine hK.out _ _ ⟨z0'', z1''⟩ (fun hHeld => ?_)
          clear hK K
          (try simp only [Act.put, List.setIfInBounds_toArray, List.set_cons_zero, List.set_cons_succ])
          refine held_step (i := 5) rfl (by kernel_rfl) (fun K hK => ?_)
          go_simp
          refine hK.out _ _ ⟨hk6 _ _ _ z0'', hk6 _ _ _ z1''⟩ (fun hHeld => ?_)
          clear hK K
          (try simp only [Act.put, List.setIfInBounds_toArray])
          refine wpAnyH_done (by kernel_rfl) ?_ _
          go_wp2
          go_roundw
          case rel => exact ⟨_, cnt2, o :: R, Lib.hid hO6⟩
          case measure => rw [hO6.rg.left_eq, HO.out.rg.left_eq]; exact HLT.out
end Go.Proofs.Ytipnhpfpppblhaa

/- lychgatelaw09.lives is true. -/
namespace Go.Proofs.Ytipnhpfpppblhaa
open Go.RowKit Go.Maps
abbrev sHost : ByteArray := ⟨#[104, 111, 115, 116]⟩
abbrev sH : ByteArray := ⟨#[104]⟩
abbrev sTeam : ByteArray := ⟨#[116, 101, 97, 109]⟩
abbrev sT : ByteArray := ⟨#[116]⟩
abbrev sProm : ByteArray := ⟨#[112, 114, 111, 109]⟩
abbrev exR : List Nmd := [(sHost, 4, 0)]
abbrev exF : List Fld := [(sHost, sH), (sTeam, sT)]
abbrev exA : Al := ⟨sProm, exF, 2, 0, 5, 0⟩
theorem exVis : visL exR exF (2, 0) (3, 0) = [(sTeam, sT)] := by decide +kernel
theorem exOk : cutOk exR exF (2, 0) (3, 0) = true := by decide +kernel
theorem exRight : rightA exA = true := by decide +kernel
theorem exPuts : putsL exR [exA] = [((2, 0), idA exA), ((4, 0), idA exA), ((2, 0), idA exA)] := by
  have h1 : raisedL exR sHost (2, 0) = (4, 0) := by decide +kernel
  have h2 : raisedL exR sTeam (2, 0) = (2, 0) := by decide +kernel
  unfold putsL
  rw [List.flatMap_cons, List.flatMap_nil, List.append_nil, putsA, if_pos exRight]
  simp only [List.map_cons, List.map_nil]
  rw [h1, h2]
theorem DO_has {R : List Out} (h : ∀ o ∈ R, wfL o.x) {x : Int × Nat} (hx : wfL x) : has (DO R) (kL x) = decide (x ∈ R.map (·.x)) ∧ Tidy (DO R) := by
  induction R with
  | nil => exact ⟨rfl, tidy_empty⟩
  | cons e T ih =>
    obtain ⟨ih, ht⟩ := ih (fun f hf => h f (List.mem_cons_of_mem _ hf))
    have he := h e List.mem_cons_self
    refine ⟨?_, ht.put (kL_key _) _⟩
    by_cases hex : x = e.x
    · subst hex
      rw [DO, has_put_same ht.isMap (kL_key _)]
      simp
    · rw [DO, has_put_other (fun h' => hex (kL_inj hx he h')), ih]
      simp [hex]
theorem DO_size {R : List Out} (h : ∀ o ∈ R, wfL o.x) (hn : R.Pairwise (fun a b => a.x ≠ b.x)) : Maps.size (DO R) = R.length := by
  induction R with
  | nil => rfl
  | cons f T ih =>
    have h' := fun g hg => h g (List.mem_cons_of_mem _ hg)
    have ih := ih h' (List.pairwise_cons.1 hn).2
    obtain ⟨h1, h2⟩ := DO_has h' (h f List.mem_cons_self)
    have hnot : has (DO T) (kL f.x) = false := by
      rw [h1, decide_eq_false]
      intro hm
      obtain ⟨g, hg, hgx⟩ := List.mem_map.1 hm
      exact (List.pairwise_cons.1 hn).1 g hg hgx.symm
    rw [DO, size_put h2, hnot, ih]
    rfl
theorem ex_two {w w' : World} {e : Ending} (h : ApartPost exR [exA] w e w') : ∃ mo, e = .returned (.map (some mo)) ∧ (∀ ty, (Builtin.len_ #[40] ty #[.map (some mo)]).run Try.prog w' = .ok (.int .i64 2) w') ∧ Below w.heap.size w w' := by
  obtain ⟨mo, R, rfl, hown, hR, hn, hall, hb⟩ := h
  rw [exPuts] at hR hall
  have h2 : R.length = 2 := by
    have hm : ∀ o ∈ R, o.x ∈ ([(2, 0), (4, 0)] : List (Int × Nat)) := fun o ho => by
      obtain ⟨_, _, _, h0, hi⟩ := hR o ho
      obtain ⟨i, hii⟩ := List.exists_mem_of_ne_nil _ h0
      have := (hi i).1 hii
      simp only [List.mem_cons, Prod.mk.injEq, List.not_mem_nil, or_false] at this ⊢
      rcases this with ⟨h, _⟩ | ⟨h, _⟩ | ⟨h, _⟩
      · exact .inl h
      · exact .inr h
      · exact .inl h
    have l1 := nodup_len (R.map (·.x)) [(2, 0), (4, 0)] (pw_of_map.1 hn) (fun x hx => by obtain ⟨o, ho, rfl⟩ := List.mem_map.1 hx; exact hm o ho)
    have l2 := nodup_len [(2, 0), (4, 0)] (R.map (·.x)) (by decide) (fun x hx => by
      have : ∃ i, (x, i) ∈ [(((2 : Int), (0 : Nat)), idA exA), ((4, 0), idA exA), ((2, 0), idA exA)] := by
        refine ⟨idA exA, ?_⟩
        simp only [List.mem_cons, List.not_mem_nil, or_false] at hx
        rcases hx with rfl | rfl <;> simp
      obtain ⟨i, hi⟩ := this
      obtain ⟨o, ho, hox⟩ := hall x i hi
      exact List.mem_map.2 ⟨o, ho, hox⟩)
    rw [List.length_map] at l1 l2
    simp at l1 l2
    omega
  refine ⟨mo, rfl, fun ty => ?_, hb⟩
  have := hown.len Try.underlying40 ty
  rw [DO_size (fun o ho => (hR o ho).1) hn, h2] at this
  exact this
end Go.Proofs.Ytipnhpfpppblhaa

/- lychgatelaw09.lives: the walk. -/
namespace Go.Proofs.Ytipnhpfpppblhaa
open Go.RowKit Go.Maps
theorem fldsfit_ex : FldsFit exF := by
  intro f hf
  simp only [List.mem_cons, List.not_mem_nil, or_false] at hf
  rcases hf with rfl | rfl <;> decide
set_option maxHeartbeats 1600000 in
set_option maxRecDepth 100000 in
theorem lives_any (w : World) : Calls Try.prog 6 #[] w fun e w' => e = .returned (.bool true) ∧ Below w.heap.size w w' := by
  obtain ⟨Wn, hWn⟩ : ∃ z, w.alloc (.cells #[.string sHost, .int .i64 4, .int .u32 0] 73) = z := ⟨_, rfl⟩
  have sn : Wn.heap.size = w.heap.size + 1 := by rw [← hWn, World.size_alloc]
  obtain ⟨Wp, hWp⟩ : ∃ z, Wn.alloc (.cells #[.slice none 0 0, .slice none 0 0, .slice none 0 0, .slice (some ⟨w.heap.size, 0, none⟩) 1 1, .slice none 0 0, .slice none 0 0] 26) = z := ⟨_, rfl⟩
  have sp : Wp.heap.size = w.heap.size + 1 + 1 := by rw [← hWp, World.size_alloc, sn]
  obtain ⟨Wf, hWf⟩ : ∃ z, Wp.alloc (.cells #[.string sHost, .string sH, .string sTeam, .string sT] 48) = z := ⟨_, rfl⟩
  have sf : Wf.heap.size = w.heap.size + 1 + 1 + 1 := by rw [← hWf, World.size_alloc, sp]
  obtain ⟨Wa, hWa⟩ : ∃ z, Wf.alloc (.cells #[.string sProm, .slice (some ⟨w.heap.size + 1 + 1, 0, none⟩) 2 2, .int .i64 2, .int .u32 0, .int .i64 5, .int .i64 0] 36) = z := ⟨_, rfl⟩
  have sa : Wa.heap.size = w.heap.size + 1 + 1 + 1 + 1 := by rw [← hWa, World.size_alloc, sf]
  have bn : Below w.heap.size w Wn := by rw [← hWn]; exact alloc_below _ _
  have bp : Below Wn.heap.size Wn Wp := by rw [← hWp]; exact alloc_below _ _
  have bf : Below Wp.heap.size Wp Wf := by rw [← hWf]; exact alloc_below _ _
  have ba : Below Wf.heap.size Wf Wa := by rw [← hWa]; exact alloc_below _ _
  have hNm : NmdsAt Wn (.slice (some ⟨w.heap.size, 0, none⟩) 1 1) exR := by
    refine RdAt.mk rfl (Nat.le_refl _) (by omega) (fun j x hj => ?_)
    rw [Nat.zero_add, ← hWn]
    exact (World.cell?_alloc_at _ _ _ _ rfl).trans (by
      have := hj
      match j, hj with
      | 0, hj => exact hj
      | 1, hj => exact hj
      | 2, hj => exact hj
      | j + 3, hj => simp [nmdCells, nmdC] at hj)
  have hFl : FldsAt Wf (.slice (some ⟨w.heap.size + 1 + 1, 0, none⟩) 2 2) exF := by
    refine RdAt.mk rfl (Nat.le_refl _) (by omega) (fun j x hj => ?_)
    rw [Nat.zero_add, ← hWf]
    exact (World.cell?_alloc_at _ _ _ _ sp.symm).trans (by
      match j, hj with
      | 0, hj => exact hj
      | 1, hj => exact hj
      | 2, hj => exact hj
      | 3, hj => exact hj
      | j + 4, hj => simp [fldCells] at hj)
  have hPb : C6 (w.heap.size + 1) (.slice none 0 0) (.slice none 0 0) (.slice none 0 0) (.slice (some ⟨w.heap.size, 0, none⟩) 1 1) (.slice none 0 0) (.slice none 0 0) Wp := by
    have h := Below.refl Wp.heap.size Wp
    rw [← hWp] at h
    obtain ⟨h, _, _⟩ := box6 h
    rw [hWp, sn] at h
    exact h
  have hAb : C6 (w.heap.size + 1 + 1 + 1) (.string sProm) (.slice (some ⟨w.heap.size + 1 + 1, 0, none⟩) 2 2) (.int .i64 2) (.int .u32 0) (.int .i64 5) (.int .i64 0) Wa := by
    have h := Below.refl Wa.heap.size Wa
    rw [← hWa] at h
    obtain ⟨h, _, _⟩ := box6 h
    rw [hWa, sf] at h
    exact h
  have bpa : Below Wp.heap.size Wp Wa := bf.trans (ba.mono bf.size)
  have HP0 := Lib.hid (hPb.later bpa (by omega))
  have HA0 := Lib.hid hAb
  have HN0 := Lib.hid ((hNm.later bp).later bpa)
  have HF0 := Lib.hid (hFl.later ba)
  have HB0 := Lib.hid (bn.trans ((bp.trans (bpa.mono bp.size)).mono bn.size))
  have hcut := cut_any (none, 0, 0) (none, 0, 0) (none, 0, 0) (none, 0, 0) (none, 0, 0) exR (.slice (some ⟨w.heap.size, 0, none⟩) 1 1) sProm exF (.slice (some ⟨w.heap.size + 1 + 1, 0, none⟩) 2 2) 2 0 5 0 3 0 Wa HN0.out (by decide) HF0.out (by decide)
  rw [exOk, exVis] at hcut
  have HWn := Lib.hid hWn
  have HWp := Lib.hid hWp
  have HWf := Lib.hid hWf
  have HWa := Lib.hid hWa
  have SA := Lib.hid sa
  clear bn bp bf ba hNm hFl hPb hAb bpa sn sp sf sa hWn hWp hWf hWa
  go_enter Try.func6, Try.ntmps6
  go_upto_region 3 with fail
  rw [HWn.out, HWp.out, HWf.out, HWa.out]
  obtain ⟨p0, p1, p2, p3, p4, p5⟩ := HP0.out
  obtain ⟨x0, x1, x2, x3, x4, x5⟩ := HA0.out
  go_wp2_with fail
  refine hcut.mono ?_
  rintro e w1 ⟨v1, hF1, _, hb1, rfl⟩
  obtain ⟨b1, o1, c1, rfl, hc1, hlt1, hcell1⟩ := RdAt.some hF1 (by decide)
  have t0 : w1.cell? ⟨b1, o1, none⟩ = some (.string sTeam) := hcell1 0 _ rfl
  have HP1 := Lib.hid (HP0.out.later hb1 (by have := SA.out; omega))
  have HA1 := Lib.hid (HA0.out.later hb1 (by have := SA.out; omega))
  have HN1 := Lib.hid (HN0.out.later hb1)
  have HF1' := Lib.hid (HF0.out.later hb1)
  have HB1 := Lib.hid (HB0.out.trans (hb1.mono HB0.out.size))
  have hlp : w.heap.size + 1 + 1 + 1 < w1.heap.size := Nat.lt_of_lt_of_le (by have := SA.out; omega) hb1.size
  have hba := alloc_below w1 (.cells #[.string sProm, .slice (some ⟨b1, o1, none⟩) 1 c1, .int .i64 2, .int .u32 0, .int .i64 5, .int .i64 0] 36)
  obtain ⟨X2, hltX, _⟩ := box6 (Below.refl (w1.alloc (.cells #[.string sProm, .slice (some ⟨b1, o1, none⟩) 1 c1, .int .i64 2, .int .u32 0, .int .i64 5, .int .i64 0] 36)).heap.size _)
  clear HP0 HA0 HN0 HF0 HB0 hb1 hcut p0 p1 p2 p3 p4 p5 x0 x1 x2 x3 x4 x5 hF1 hcell1 hc1
  simp only [cutR]
  go_upto_region 4 with fail
  change Code.wp _ _ _ _ (w1.alloc (.cells #[.string sProm, .slice (some ⟨b1, o1, none⟩) 1 c1, .int .i64 2, .int .u32 0, .int .i64 5, .int .i64 0] 36))
  generalize w1.alloc (.cells #[.string sProm, .slice (some ⟨b1, o1, none⟩) 1 c1, .int .i64 2, .int .u32 0, .int .i64 5, .int .i64 0] 36) = w2 at *
  have t2 := keep_cell t0 hba hlt1
  have HP2 := Lib.hid (HP1.out.later hba (by omega))
  have HA2 := Lib.hid (HA1.out.later hba (by omega))
  have HN2 := Lib.hid (HN1.out.later hba)
  have HF2 := Lib.hid (HF1'.out.later hba)
  have HB2 := Lib.hid (HB1.out.trans (hba.mono HB1.out.size))
  have HX2 : Hid (C6 w1.heap.size _ _ _ _ _ _ w2) := Lib.hid X2
  have hl2 : w.heap.size + 1 + 1 + 1 < w2.heap.size := Nat.lt_of_lt_of_le hlp hba.size
  have hltb : b1 < w2.heap.size := Nat.lt_of_lt_of_le hlt1 hba.size
  generalize w1.heap.size = bx at *
  clear HP1 HA1 HN1 HF1' HB1 hba t0 X2 hlp hlt1
  obtain ⟨x0, x1, x2, x3, x4, x5⟩ := HA2.out
  have hr := aright_any sProm exF 2 0 5 0 (.slice (some ⟨w.heap.size + 1 + 1, 0, none⟩) 2 2) w2 (by decide) HF2.out fldsfit_ex (by decide)
  rw [show (whoA sProm exF 2 && beginsA 5 && endsA 5 0) = true from exRight] at hr
  go_wp2_with fail
  refine hr.mono ?_
  rintro e w3 ⟨rfl, hb3⟩
  have t3 := keep_cell t2 hb3 hltb
  have HP3 := Lib.hid (HP2.out.later hb3 (by omega))
  have HA3 := Lib.hid (HA2.out.later hb3 (by omega))
  have HN3 := Lib.hid (HN2.out.later hb3)
  have HF3 := Lib.hid (HF2.out.later hb3)
  have HB3 := Lib.hid (HB2.out.trans (hb3.mono HB2.out.size))
  have HX3 := Lib.hid (HX2.out.later hb3 hltX)
  have hl3 : w.heap.size + 1 + 1 + 1 < w3.heap.size := Nat.lt_of_lt_of_le hl2 hb3.size
  clear HP2 HA2 HN2 HF2 HB2 HX2 hb3 t2 hl2 hltb hltX hr x0 x1 x2 x3 x4 x5
  obtain ⟨x0, x1, x2, x3, x4, x5⟩ := HA3.out
  obtain ⟨y0, y1, _, _, _, _⟩ := HX3.out
  have hf5 := fires_any sProm (some ⟨w.heap.size + 1 + 1, 0, none⟩) 2 2 2 0 5 0 5 w3
  go_wp2_with fail
  refine hf5.mono ?_
  rintro e w4 ⟨rfl, hb4⟩
  have HP4 := Lib.hid (HP3.out.later hb4 (by omega))
  have HA4 := Lib.hid (HA3.out.later hb4 (by omega))
  have HN4 := Lib.hid (HN3.out.later hb4)
  have HF4 := Lib.hid (HF3.out.later hb4)
  have HB4 := Lib.hid (HB3.out.trans (hb4.mono HB3.out.size))
  have hl4 : w.heap.size + 1 + 1 + 1 < w4.heap.size := Nat.lt_of_lt_of_le hl3 hb4.size
  clear HP3 HA3 HN3 HF3 HB3 HX3 hb4 t3 hl3 hf5 x0 x1 x2 x3 x4 x5 y0 y1
  obtain ⟨x0, x1, x2, x3, x4, x5⟩ := HA4.out
  have hf4 := fires_any sProm (some ⟨w.heap.size + 1 + 1, 0, none⟩) 2 2 2 0 5 0 4 w4
  go_wp2_with fail
  refine hf4.mono ?_
  rintro e w5 ⟨rfl, hb5⟩
  have HP5 := Lib.hid (HP4.out.later hb5 (by omega))
  have HA5 := Lib.hid (HA4.out.later hb5 (by omega))
  have HN5 := Lib.hid (HN4.out.later hb5)
  have HF5 := Lib.hid (HF4.out.later hb5)
  have HB5 := Lib.hid (HB4.out.trans (hb5.mono HB4.out.size))
  clear HP4 HA4 HN4 HF4 HB4 hb5 hl4 hf4 x0 x1 x2 x3 x4 x5
  obtain ⟨x0, x1, x2, x3, x4, x5⟩ := HA5.out
  obtain ⟨p0, p1, p2, p3, p4, p5⟩ := HP5.out
  have b6 := alloc_below w5 (.cells #[.string sProm, .slice (some ⟨w.heap.size + 1 + 1, 0, none⟩) 2 2, .int .i64 2, .int .u32 0, .int .i64 5, .int .i64 0] 36)
  have hal : AlsAt (w5.alloc (.cells #[.string sProm, .slice (some ⟨w.heap.size + 1 + 1, 0, none⟩) 2 2, .int .i64 2, .int .u32 0, .int .i64 5, .int .i64 0] 36)) (.slice (some ⟨w5.heap.size, 0, none⟩) 1 1) [(exA, .slice (some ⟨w.heap.size + 1 + 1, 0, none⟩) 2 2)] := by
    refine ⟨RdAt.mk rfl (Nat.le_refl _) (by simp) (fun j x hj => ?_), fun p hp => ?_⟩
    · rw [Nat.zero_add]
      exact (World.cell?_alloc_at _ _ _ _ rfl).trans (by
        match j, hj with
        | 0, hj => exact hj
        | 1, hj => exact hj
        | 2, hj => exact hj
        | 3, hj => exact hj
        | 4, hj => exact hj
        | 5, hj => exact hj
        | j + 6, hj => simp [alCells, alC] at hj)
    · rw [List.mem_singleton] at hp
      subst hp
      exact ⟨HF5.out.later b6, (by decide : sProm.size ≤ maxLen), fldsfit_ex, (by decide : exF.length ≤ maxLen), (by decide : 0 < 4294967296)⟩
  have hap := apart_any (none, 0, 0) (none, 0, 0) (none, 0, 0) (none, 0, 0) (none, 0, 0) exR (.slice (some ⟨w.heap.size, 0, none⟩) 1 1) [(exA, .slice (some ⟨w.heap.size + 1 + 1, 0, none⟩) 2 2)] (.slice (some ⟨w5.heap.size, 0, none⟩) 1 1) _ (HN5.out.later b6) (by decide) hal (by simp)
  have HB6 := Lib.hid (HB5.out.trans (b6.mono HB5.out.size))
  have HAP := Lib.hid hap
  clear hal hap b6 HN5 HF5 HB5
  go_wp2_with fail
  refine HAP.out.mono ?_
  intro e w7 h7
  obtain ⟨mo, rfl, hlen, hb7⟩ := ex_two h7
  have HB7 := Lib.hid (HB6.out.trans (hb7.mono HB6.out.size))
  clear h7 hb7 HB6 HAP
  go_wp2
  go_ret
  exact ⟨rfl, HB7.out⟩
end Go.Proofs.Ytipnhpfpppblhaa

/- lychgatelaw09.back, as: contracts. -/
namespace Go.Proofs.Ytipnhpfpppblhaa
open Go.RowKit Go.Maps
set_option maxHeartbeats 1600000 in
set_option maxRecDepth 100000 in
theorem back_full (src : ByteArray) (fl : List Fld) (fv : Value) (lv : Int) (c : Nat) (fr til : Int) (w : World) (hv : FldsAt w fv fl) (hl : fl.length ≤ maxLen) :
    Calls Try.prog 8 #[.agg #[.string src, fv, .int .i64 lv, .int .u32 c, .int .i64 fr, .int .i64 til]] w fun e w' =>
      ∃ fv', e = .returned (.agg #[.string src, fv', .int .i64 lv, .int .u32 c, .int .i64 fr, .int .i64 til]) ∧ FldsAt w fv' (fl.take 12) ∧ (fl.length ≤ 12 → fv' = fv) ∧ (∀ a' c', fv = .slice a' fl.length c' → fv' = .slice a' (fl.take 12).length c') ∧ Below w.heap.size w w' := by
  have hnone : ∀ a c, fv = .slice a fl.length c → a = none → fl.length = 0 := by
    rintro a c rfl rfl
    rcases hv.2 with ⟨_, h⟩ | ⟨ad, c', h1, _⟩
    · exact h
    · cases h1
  obtain ⟨fa, fc, rfl, hfc, _⟩ := RdAt.shape hv
  have hnone := hnone fa fc rfl
  obtain ⟨k, hk, hkl, hmin⟩ : ∃ k : Nat, k ≤ fl.length ∧ fl.take 12 = fl.take k ∧ min (fl.length : Int) 12 = (k : Int) := by
    rcases Nat.le_total fl.length 12 with h | h
    · exact ⟨fl.length, Nat.le_refl _, by rw [List.take_length, List.take_of_length_le h], by omega⟩
    · exact ⟨12, h, rfl, by omega⟩
  have HFT := Lib.hid (fld_take hv k hk hnone)
  have HKL := Lib.hid hkl
  have HKV : Hid (fl.length ≤ 12 → k = fl.length) := Lib.hid (by omega)
  have HKK := Lib.hid hk
  have hkc : k ≤ fc := Nat.le_trans hk hfc
  obtain ⟨W0, hW0⟩ : ∃ z, (w.alloc (.cells #[.string src, .slice fa fl.length fc, .int .i64 lv, .int .u32 c, .int .i64 fr, .int .i64 til] 38)).alloc (.cells #[.string ⟨#[]⟩, .slice none 0 0, .int .i64 0, .int .u32 0, .int .i64 0, .int .i64 0] 36) = z := ⟨_, rfl⟩
  have hb0 : Below w.heap.size w W0 := by rw [← hW0]; exact (alloc_below _ _).trans ((alloc_below _ _).mono (by simp))
  have hd := (Below.refl W0.heap.size W0).drew
  rw [← hW0] at hd
  obtain ⟨h1, h2, h3⟩ := box_cells hd
  have hT := box_there hd
  obtain ⟨h4, _, _⟩ := box_cells h3
  rw [World.size_alloc] at h1 hT
  rw [hW0] at h1 h4 hT
  have q0 := h4 0 _ rfl
  have q1 := h4 1 _ rfl
  have q2 := h4 2 _ rfl
  have q3 := h4 3 _ rfl
  have q4 := h4 4 _ rfl
  have q5 := h4 5 _ rfl
  have r0 := h1 0 _ rfl
  have r1 := h1 1 _ rfl
  have r2 := h1 2 _ rfl
  have r3 := h1 3 _ rfl
  have r4 := h1 4 _ rfl
  have r5 := h1 5 _ rfl
  have f0 := there_free hT 0 (by decide)
  have f1 := there_free hT 1 (by decide)
  have f2 := there_free hT 2 (by decide)
  have f3 := there_free hT 3 (by decide)
  have f4 := there_free hT 4 (by decide)
  have f5 := there_free hT 5 (by decide)
  have HB0 := Lib.hid hb0
  have HT := Lib.hid hT
  have hk63 : k < 9223372036854775807 := by unfold maxLen at hl; omega
  clear hd h1 h2 h3 h4 hT hb0 hv hkl hl
  go_enter Try.func8, Try.ntmps8
  go_upto_region 1 with fail
  try rw [hW0]
  clear hW0
  have hp : ∀ o v, W0.drew.cell? ⟨w.heap.size, o, none⟩ = some v → (W0.drew.setCells (w.heap.size + 1) 0 [.string src, .slice fa k fc, .int .i64 lv, .int .u32 c, .int .i64 fr, .int .i64 til]).cell? ⟨w.heap.size, o, none⟩ = some v := fun o v h => by
    rw [World.cell?_setCells_out _ _ _ _ _ (fun hb _ => by simp at hb)]
    exact h
  refine wp_region_held_drew (S := (fun W => W.cell? ⟨w.heap.size, 0, none⟩ = some (.string src) ∧ W.cell? ⟨w.heap.size, 1, none⟩ = some (.slice fa fl.length fc) ∧ W.cell? ⟨w.heap.size, 2, none⟩ = some (.int .i64 lv) ∧ W.cell? ⟨w.heap.size, 3, none⟩ = some (.int .u32 c) ∧ W.cell? ⟨w.heap.size, 4, none⟩ = some (.int .i64 fr) ∧ W.cell? ⟨w.heap.size, 5, none⟩ = some (.int .i64 til))) (by kernel_rfl) ⟨q0, q1, q2, q3, q4, q5⟩ (fun hHeld => ?_)
  have hbd : Below W0.heap.size W0 W0.drew := (Below.refl _ _).drew
  have HBD := Lib.hid (HB0.out.trans (hbd.mono HB0.out.size))
  clear hbd
  generalize W0.drew = wd at *
  refine held_take (i := 0) (v := ?_) rfl rfl (by kernel_rfl) (by kernel_rfl) (by kernel_rfl) (fun _ _ _ h => h) (by rfl) hHeld ?_ ?_
  rotate_left
  · rintro wh ⟨z0, z1, z2, z3, z4, z5⟩
    go_simp
    (try with_reducible rfl)
  simp only [Act.put, List.setIfInBounds_toArray, List.set_cons_zero, List.set_cons_succ]
  refine held_take (i := 1) (v := ?_) rfl rfl (by kernel_rfl) (by kernel_rfl) (by kernel_rfl) (fun _ _ _ h => h) (by rfl) hHeld ?_ ?_
  rotate_left
  · rintro wh ⟨z0, z1, z2, z3, z4, z5⟩
    go_simp
    (try with_reducible rfl)
  simp only [Act.put, List.setIfInBounds_toArray, List.set_cons_zero, List.set_cons_succ]
  refine held_take (i := 2) (v := ?_) rfl rfl (by kernel_rfl) (by kernel_rfl) (by kernel_rfl) (fun _ _ _ h => h) (by rfl) hHeld ?_ ?_
  rotate_left
  · rintro wh ⟨z0, z1, z2, z3, z4, z5⟩
    go_simp
    (try with_reducible rfl)
  simp only [Act.put, List.setIfInBounds_toArray, List.set_cons_zero, List.set_cons_succ]
  refine held_take (i := 3) (v := ?_) rfl rfl (by kernel_rfl) (by kernel_rfl) (by kernel_rfl) (fun _ _ _ h => h) (by rfl) hHeld ?_ ?_
  rotate_left
  · rintro wh ⟨z0, z1, z2, z3, z4, z5⟩
    go_simp
    (try with_reducible rfl)
  simp only [Act.put, List.setIfInBounds_toArray, List.set_cons_zero, List.set_cons_succ]
  refine held_take (i := 4) (v := ?_) rfl rfl (by kernel_rfl) (by kernel_rfl) (by kernel_rfl) (fun _ _ _ h => h) (by rfl) hHeld ?_ ?_
  rotate_left
  · rintro wh ⟨z0, z1, z2, z3, z4, z5⟩
    go_simp
    (try with_reducible rfl)
  simp only [Act.put, List.setIfInBounds_toArray, List.set_cons_zero, List.set_cons_succ]
  refine held_take (i := 5) (v := ?_) rfl rfl (by kernel_rfl) (by kernel_rfl) (by kernel_rfl) (fun _ _ _ h => h) (by rfl) hHeld ?_ ?_
  rotate_left
  · rintro wh ⟨z0, z1, z2, z3, z4, z5⟩
    go_simp
    (try with_reducible rfl)
  simp only [Act.put, List.setIfInBounds_toArray, List.set_cons_zero, List.set_cons_succ]
  refine held_take (i := 6) (v := ?_) rfl rfl (by kernel_rfl) (by kernel_rfl) (by kernel_rfl) (fun _ _ _ h => h) (by rfl) hHeld ?_ ?_
  rotate_left
  · rintro wh ⟨z0, z1, z2, z3, z4, z5⟩
    go_simp
    (try with_reducible rfl)
  simp only [Act.put, List.setIfInBounds_toArray, List.set_cons_zero, List.set_cons_succ]
  refine held_take (i := 7) (v := ?_) rfl rfl (by kernel_rfl) (by kernel_rfl) (by kernel_rfl) (fun _ _ _ h => h) (by rfl) hHeld ?_ ?_
  rotate_left
  · rintro wh ⟨z0, z1, z2, z3, z4, z5⟩
    go_simp
    (try with_reducible rfl)
  simp only [Act.put, List.setIfInBounds_toArray, List.set_cons_zero, List.set_cons_succ]
  refine held_take (i := 8) (v := ?_) rfl rfl (by kernel_rfl) (by kernel_rfl) (by kernel_rfl) (fun _ _ _ h => h) (by rfl) hHeld ?_ ?_
  rotate_left
  · rintro wh ⟨z0, z1, z2, z3, z4, z5⟩
    go_simp
    (try with_reducible rfl)
  simp only [Act.put, List.setIfInBounds_toArray, List.set_cons_zero, List.set_cons_succ]
  refine held_take (i := 9) (v := ?_) rfl rfl (by kernel_rfl) (by kernel_rfl) (by kernel_rfl) (fun _ _ _ h => h) (by rfl) hHeld ?_ ?_
  rotate_left
  · rintro wh ⟨z0, z1, z2, z3, z4, z5⟩
    go_simp
    (try with_reducible rfl)
  simp only [Act.put, List.setIfInBounds_toArray, List.set_cons_zero, List.set_cons_succ]
  refine held_take (i := 10) (v := ?_) rfl rfl (by kernel_rfl) (by kernel_rfl) (by kernel_rfl) (fun _ _ _ h => h) (by rfl) hHeld ?_ ?_
  rotate_left
  · rintro wh ⟨z0, z1, z2, z3, z4, z5⟩
    go_simp
    (try with_reducible rfl)
  simp only [Act.put, List.setIfInBounds_toArray, List.set_cons_zero, List.set_cons_succ]
  refine held_take (i := 11) (v := ?_) rfl rfl (by kernel_rfl) (by kernel_rfl) (by kernel_rfl) (fun _ _ _ h => h) (by rfl) hHeld ?_ ?_
  rotate_left
  · rintro wh ⟨z0, z1, z2, z3, z4, z5⟩
    go_simp
    (try with_reducible rfl)
  simp only [Act.put, List.setIfInBounds_toArray, List.set_cons_zero, List.set_cons_succ]
  refine held_take (i := 12) (v := ?_) rfl rfl (by kernel_rfl) (by kernel_rfl) (by kernel_rfl) (fun _ _ _ h => h) (by rfl) hHeld ?_ ?_
  rotate_left
  · rintro wh ⟨z0, z1, z2, z3, z4, z5⟩
    go_simp
    (try with_reducible rfl)
  simp only [Act.put, List.setIfInBounds_toArray, List.set_cons_zero, List.set_cons_succ]
  refine held_take (i := 13) (v := ?_) rfl rfl (by kernel_rfl) (by kernel_rfl) (by kernel_rfl) (fun _ _ _ h => h) (by rfl) hHeld ?_ ?_
  rotate_left
  · rintro wh ⟨z0, z1, z2, z3, z4, z5⟩
    go_simp
    (try with_reducible rfl)
  simp only [Act.put, List.setIfInBounds_toArray, List.set_cons_zero, List.set_cons_succ]
  refine held_take (i := 14) (v := ?_) rfl rfl (by kernel_rfl) (by kernel_rfl) (by kernel_rfl) (fun _ _ _ h => h) (by rfl) hHeld ?_ ?_
  rotate_left
  · rintro wh ⟨z0, z1, z2, z3, z4, z5⟩
    go_simp
    (try with_reducible rfl)
  simp only [Act.put, List.setIfInBounds_toArray, List.set_cons_zero, List.set_cons_succ]
  refine held_take (i := 15) (v := ?_) rfl rfl (by kernel_rfl) (by kernel_rfl) (by kernel_rfl) (fun _ _ _ h => h) (by rfl) hHeld ?_ ?_
  rotate_left
  · rintro wh ⟨z0, z1, z2, z3, z4, z5⟩
    go_simp
    (try with_reducible rfl)
  simp only [Act.put, List.setIfInBounds_toArray, List.set_cons_zero, List.set_cons_succ]
  refine held_step (i := 16) rfl (by kernel_rfl) (fun K hK => ?_)
  go_simp
  refine hK.out _ _ ⟨hp _ _ q0, hp _ _ q1, hp _ _ q2, hp _ _ q3, hp _ _ q4, hp _ _ q5⟩ (fun hHeld => ?_)
  clear hK K
  (try simp only [Act.put, List.setIfInBounds_toArray])
  refine wpAnyH_done (by kernel_rfl) ?_ _
  go_wp2
  refine bodyPost_ret (results_agg1 rfl _ _ (w.heap.size + 1) [.string src, .slice fa k fc, .int .i64 lv, .int .u32 c, .int .i64 fr, .int .i64 til] (.struct _) rfl (World.rangeAt_setCells_same wd (w.heap.size + 1) 0 [.string src, .slice fa k fc, .int .i64 lv, .int .u32 c, .int .i64 fr, .int .i64 til] HT.out) Try.underlying36 rfl (by kernel_rfl)) rfl ?_
  exact ⟨_, rfl, by rw [HKL.out]; exact HFT.out, fun h => by rw [HKV.out h], (fun a' c' h => by simp only [Value.slice.injEq] at h; obtain ⟨rfl, _, rfl⟩ := h; rw [HKL.out, List.length_take, Nat.min_eq_left HKK.out]), below_puts (g := w.heap.size + 1) (o := 0) HBD.out (by omega) [.string src, .slice fa k fc, .int .i64 lv, .int .u32 c, .int .i64 fr, .int .i64 til]⟩
theorem back_few (src : ByteArray) (fl : List Fld) (fv : Value) (lv : Int) (c : Nat) (fr til : Int) (w : World) (hv : FldsAt w fv fl) (hl : fl.length ≤ 12) :
    Calls Try.prog 8 #[.agg #[.string src, fv, .int .i64 lv, .int .u32 c, .int .i64 fr, .int .i64 til]] w fun e w' =>
      e = .returned (.agg #[.string src, fv, .int .i64 lv, .int .u32 c, .int .i64 fr, .int .i64 til]) ∧ Below w.heap.size w w' := by
  refine (back_full src fl fv lv c fr til w hv (by unfold maxLen; omega)).mono ?_
  rintro e w' ⟨v, h1, _, h2, _, h3⟩
  rw [h2 hl] at h1
  exact ⟨h1, h3⟩
end Go.Proofs.Ytipnhpfpppblhaa

/- lychgatelaw09.as, lychgateref06.Same, lychgateref09.Same: contracts (out of XRefB). -/
namespace Go.Proofs.Ytipnhpfpppblhaa
open Go.RowKit
end Go.Proofs.Ytipnhpfpppblhaa
namespace Go.Proofs.Ytipnhpfpppblhaa
open Go.RowKit
end Go.Proofs.Ytipnhpfpppblhaa
namespace Go.Proofs.Ytipnhpfpppblhaa
open Go.RowKit
def sameA (s s' : ByteArray) (xs ys : List Fld) (lv : Int) (c : Nat) (fr til lv' : Int) (c' : Nat) (fr' til' : Int) : Bool :=
  decide (s = s') && decide (xs = ys) && (decide (lv = lv') && decide (c = c')) && decide (fr = fr') && decide (til = til')
end Go.Proofs.Ytipnhpfpppblhaa

/- slices.Equal at Field, alert.Same: contracts. -/
namespace Go.Proofs.Ytipnhpfpppblhaa
open Go.RowKit
set_option maxHeartbeats 1600000 in
set_option maxRecDepth 100000 in
theorem eqF_any (xs ys : List Fld) (w : World) (u v : Value) (hx : FldsAt w u xs) (hy : FldsAt w v ys) (hl : xs.length ≤ maxLen) (hl2 : ys.length ≤ maxLen) :
    Calls Try.prog 48 #[u, v] w fun e w' => e = .returned (.bool (decide (xs = ys))) ∧ Below w.heap.size w w' := by
  obtain ⟨a, c, rfl, hc, hr⟩ := RdAt.shape hx
  obtain ⟨a', c', rfl, hc', hr'⟩ := RdAt.shape hy
  have HR := Lib.hid hr
  have HR' := Lib.hid hr'
  have hm1 : xs.length < 9223372036854775808 := by unfold maxLen at hl; omega
  have hm2 : ys.length < 9223372036854775808 := by unfold maxLen at hl2; omega
  clear hr hr' hx hy hl hl2
  by_cases hlen : xs.length = ys.length
  · have hlen' : (xs.length : Int) = (ys.length : Int) := by omega
    have hb0 : ((xs.length : Int) != (ys.length : Int)) = false := by simp [hlen]
    have HLEN := Lib.hid hlen
    clear hlen hlen'
    go_enter Try.func48, Try.ntmps48
    go_wp2
    go_loopw [13] (fun i wr => ∃ k : Nat, k ≤ xs.length ∧ i = .int .i64 k ∧ Hid (xs.take k = ys.take k) ∧ Below w.heap.size w wr) (fun i _ => xs.length - (intOf i).toNat)
    case atStart => exact ⟨0, Nat.zero_le _, rfl, Lib.hid rfl, Below.refl _ _⟩
    case round =>
      obtain ⟨k, hk, rfl, HT, hbr⟩ := hrel
      by_cases hkl : k < xs.length
      · have hkl2 : k < ys.length := by have := HLEN.out; omega
        obtain ⟨⟨x1, x2⟩, hxe⟩ : ∃ x, xs[k] = x := ⟨_, rfl⟩
        obtain ⟨⟨y1, y2⟩, hye⟩ : ∃ y, ys[k] = y := ⟨_, rfl⟩
        obtain ⟨b0, o0, rfl, hb0', hcell⟩ := HR.out (by omega)
        obtain ⟨b1, o1, rfl, hb1', hcell'⟩ := HR'.out (by omega)
        obtain ⟨q0, q1⟩ := fldCells_at xs k hkl
        obtain ⟨q2, q3⟩ := fldCells_at ys k hkl2
        rw [hxe] at q0 q1
        rw [hye] at q2 q3
        have c0 : wr.cell? ⟨b0, o0 + k * 2, none⟩ = some (.string x1) := keep_cell (hcell _ _ q0) hbr hb0'
        have c1 : wr.cell? ⟨b0, o0 + k * 2 + 1, none⟩ = some (.string x2) := keep_cell (by have := hcell _ _ q1; rwa [← Nat.add_assoc] at this) hbr hb0'
        have c2 : wr.cell? ⟨b1, o1 + k * 2, none⟩ = some (.string y1) := keep_cell (hcell' _ _ q2) hbr hb1'
        have c3 : wr.cell? ⟨b1, o1 + k * 2 + 1, none⟩ = some (.string y2) := keep_cell (by have := hcell' _ _ q3; rwa [← Nat.add_assoc] at this) hbr hb1'
        clear hcell hcell' q0 q1 q2 q3
        by_cases h1 : x1 = y1
        · have hb1 : (x1.toList == y1.toList) = true := bytes_eq_iff.2 h1
          by_cases h2 : x2 = y2
          · have hb2 : (x2.toList == y2.toList) = true := bytes_eq_iff.2 h2
            have HN : Hid (xs.take (k + 1) = ys.take (k + 1)) := take_step HT.out hkl hkl2 (by rw [hxe, hye, h1, h2])
            clear h1 h2 hxe hye
            go_wp2
            go_quiet (fail)
            have hb2 : Below w.heap.size w (wr.drewN nq) := bl_drewN hbr nq
            generalize wr.drewN nq = wq at *
            go_wp2
            go_roundw
            case rel => exact ⟨k + 1, by omega, by go_num, HN, hb2⟩
            case measure => simp [intOf]; omega
          · have hb2 : (x2.toList == y2.toList) = false := by rw [bytes_beq]; exact decide_eq_false h2
            have HN : Hid (xs ≠ ys) := ne_at hkl hkl2 (by rw [hxe, hye]; intro h; exact h2 (congrArg Prod.snd h))
            clear h1 h2 hxe hye
            go_wp2
            go_quiet (fail)
            have hb2 : Below w.heap.size w (wr.drewN nq) := bl_drewN hbr nq
            generalize wr.drewN nq = wq at *
            go_wp2
            go_ret
            exact ⟨by rw [decide_eq_false HN.out]; rfl, hb2⟩
        · have hb1 : (x1.toList == y1.toList) = false := by rw [bytes_beq]; exact decide_eq_false h1
          have HN : Hid (xs ≠ ys) := ne_at hkl hkl2 (by rw [hxe, hye]; intro h; exact h1 (congrArg Prod.fst h))
          clear h1 hxe hye
          go_wp2
          go_quiet (fail)
          have hb2 : Below w.heap.size w (wr.drewN nq) := bl_drewN hbr nq
          generalize wr.drewN nq = wq at *
          go_wp2
          go_ret
          exact ⟨by rw [decide_eq_false HN.out]; rfl, hb2⟩
      · obtain rfl : k = xs.length := by omega
        have HN : Hid (xs = ys) := take_done HLEN.out HT.out
        clear HT
        go_wp2
        go_ret
        exact ⟨by rw [decide_eq_true HN.out]; rfl, hbr⟩
  · have hlen' : ¬ (xs.length : Int) = (ys.length : Int) := by omega
    go_enter Try.func48, Try.ntmps48
    go_wp2
    go_ret
    exact ⟨by rw [decide_eq_false (fun h => hlen (by rw [h]))]; rfl, Below.refl _ _⟩
set_option maxHeartbeats 1600000 in
set_option maxRecDepth 100000 in
theorem asame_any (s s' : ByteArray) (xs ys : List Fld) (u v : Value) (lv : Int) (c : Nat) (fr til lv' : Int) (c' : Nat) (fr' til' : Int) (w : World) (hx : FldsAt w u xs) (hy : FldsAt w v ys) (hl : xs.length ≤ maxLen) (hl2 : ys.length ≤ maxLen) :
    Calls Try.prog 21 #[.agg #[.string s, u, .int .i64 lv, .int .u32 c, .int .i64 fr, .int .i64 til], .agg #[.string s', v, .int .i64 lv', .int .u32 c', .int .i64 fr', .int .i64 til']] w fun e w' => e = .returned (.bool (sameA s s' xs ys lv c fr til lv' c' fr' til')) ∧ Below w.heap.size w w' := by
  have k1 := fun W (hb : Below w.heap.size w W) => eqF_any xs ys W u v (hx.later hb) (hy.later hb) hl hl2
  obtain ⟨xa, xc, rfl, _, _⟩ := RdAt.shape hx
  obtain ⟨ya, yc, rfl, _, _⟩ := RdAt.shape hy
  clear hx hy hl hl2
  obtain ⟨W0, hW0⟩ : ∃ z, (w.alloc (.cells #[.string s, .slice xa xs.length xc, .int .i64 lv, .int .u32 c, .int .i64 fr, .int .i64 til] 36)).alloc (.cells #[.string s', .slice ya ys.length yc, .int .i64 lv', .int .u32 c', .int .i64 fr', .int .i64 til'] 36) = z := ⟨_, rfl⟩
  have hb0 : Below w.heap.size w W0 := by rw [← hW0]; exact (alloc_below _ _).trans ((alloc_below _ _).mono (by simp))
  have hz : W0.heap.size = w.heap.size + 1 + 1 := by rw [← hW0]; simp
  have hd := (Below.refl W0.heap.size W0)
  rw [← hW0] at hd
  obtain ⟨h1, h2, h3⟩ := box_cells hd
  obtain ⟨h4, _, _⟩ := box_cells h3
  rw [World.size_alloc] at h1
  rw [hW0] at h1 h4
  have hP : C6 w.heap.size (.string s) (.slice xa xs.length xc) (.int .i64 lv) (.int .u32 c) (.int .i64 fr) (.int .i64 til) W0 := ⟨h4 0 _ rfl, h4 1 _ rfl, h4 2 _ rfl, h4 3 _ rfl, h4 4 _ rfl, h4 5 _ rfl⟩
  have hQ : C6 (w.heap.size + 1) (.string s') (.slice ya ys.length yc) (.int .i64 lv') (.int .u32 c') (.int .i64 fr') (.int .i64 til') W0 := ⟨h1 0 _ rfl, h1 1 _ rfl, h1 2 _ rfl, h1 3 _ rfl, h1 4 _ rfl, h1 5 _ rfl⟩
  have k1 := k1 W0 hb0
  have HZ := Lib.hid hz
  have HB0 := Lib.hid hb0
  have HW0 := Lib.hid hW0
  have HP := Lib.hid hP
  have HQ := Lib.hid hQ
  clear hd h1 h2 h3 h4 hb0 hW0 hz hP hQ
  obtain ⟨p0, p1, p2, p3, p4, p5⟩ := HP.out
  obtain ⟨q0, q1, q2, q3, q4, q5⟩ := HQ.out
  by_cases e0 : s = s'
  · have b0 : (s.toList == s'.toList) = true := bytes_eq_iff.2 e0
    obtain ⟨q, hq⟩ : ∃ q, decide (xs = ys) = q := ⟨_, rfl⟩
    have HS : Hid (sameA s s' xs ys lv c fr til lv' c' fr' til' = (q && (decide (lv = lv') && decide (c = c')) && decide (fr = fr') && decide (til = til'))) := by
      show _ = _
      unfold sameA
      rw [hq, decide_eq_true e0, Bool.true_and]
    rw [hq] at k1
    clear e0 hq
    go_enter Try.func21, Try.ntmps21
    go_upto_region 1 with fail
    rw [HW0.out]
    clear HW0
    go_wp2_with fail
    refine k1.mono ?_
    rintro e w1 ⟨rfl, hb1⟩
    have HB1 := Lib.hid (HB0.out.trans (hb1.mono HB0.out.size))
    have hP1 := HP.out.later hb1 (by have := HZ.out; omega)
    have hQ1 := HQ.out.later hb1 (by have := HZ.out; omega)
    clear k1 hb1 p0 p1 p2 p3 p4 p5 q0 q1 q2 q3 q4 q5 HP HQ
    obtain ⟨p0, p1, p2, p3, p4, p5⟩ := hP1
    obtain ⟨q0, q1, q2, q3, q4, q5⟩ := hQ1
    cases q
    · go_wp2
      go_ret
      exact ⟨by rw [HS.out]; rfl, HB1.out⟩
    · by_cases e1 : lv = lv'
      · by_cases e2 : c = c'
        · by_cases e3 : fr = fr'
          · by_cases e4 : til = til'
            · have HE : Hid ((true && (decide (lv = lv') && decide (c = c')) && decide (fr = fr') && decide (til = til')) = true) := by show _ = _; simp [e1, e2, e3, e4]
              subst e1 e2 e3 e4
              go_wp2
              go_ret
              exact ⟨by rw [HS.out, HE.out]; simp, HB1.out⟩
            · have HE : Hid ((true && (decide (lv = lv') && decide (c = c')) && decide (fr = fr') && decide (til = til')) = false) := by show _ = _; simp [e4]
              have n4 : (til == til') = false := by rw [beq_eq_false_iff_ne]; exact e4
              subst e1 e2 e3
              go_wp2
              go_ret
              exact ⟨by rw [HS.out, HE.out]; simp [*], HB1.out⟩
          · have HE : Hid ((true && (decide (lv = lv') && decide (c = c')) && decide (fr = fr') && decide (til = til')) = false) := by show _ = _; simp [e3]
            have n3 : (fr == fr') = false := by rw [beq_eq_false_iff_ne]; exact e3
            subst e1 e2
            go_wp2
            go_ret
            exact ⟨by rw [HS.out, HE.out]; simp [*], HB1.out⟩
        · have HE : Hid ((true && (decide (lv = lv') && decide (c = c')) && decide (fr = fr') && decide (til = til')) = false) := by show _ = _; simp [e2]
          have n2 : ((c : Int) == (c' : Int)) = false := by rw [beq_eq_false_iff_ne]; omega
          subst e1
          go_wp2
          go_ret
          exact ⟨by rw [HS.out, HE.out]; simp [*], HB1.out⟩
      · have HE : Hid ((true && (decide (lv = lv') && decide (c = c')) && decide (fr = fr') && decide (til = til')) = false) := by show _ = _; simp [e1]
        have n1 : (lv == lv') = false := by rw [beq_eq_false_iff_ne]; exact e1
        go_wp2
        go_ret
        exact ⟨by rw [HS.out, HE.out]; simp [*], HB1.out⟩
  · have b0 : (s.toList == s'.toList) = false := by rw [bytes_beq]; exact decide_eq_false e0
    have HS : Hid (sameA s s' xs ys lv c fr til lv' c' fr' til' = false) := by
      show _ = _
      unfold sameA
      rw [decide_eq_false e0]; rfl
    clear e0 k1
    go_enter Try.func21, Try.ntmps21
    go_upto_region 1 with fail
    rw [HW0.out]
    clear HW0
    go_wp2
    go_ret
    exact ⟨by rw [HS.out]; simp [*], HB0.out⟩
end Go.Proofs.Ytipnhpfpppblhaa

