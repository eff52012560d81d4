/- InhibitMore: the card: whatever the arguments, the law returns true and its arguments read as they did. No condition. -/
import Derived.Test.YtipnhpfpppblhaaGreatTopInhibitMoreCardP2
import Derived.Laws.CopyOwn
import Derived.StillTailTactics
import Derived.Deep.DeepCutAuto
import Derived.Test.YtipnhpfpppblhaaGreatAppRd
import Derived.Deep.RegionHeld3
import Derived.Lib.SliceRun
import Derived.Shelf.Spec.SlicesGrow
import Derived.Test.YtipnhpfpppblhaaGreatBox
import Derived.Test.YtipnhpfpppblhaaGreatShelf
import Derived.Laws.AppendOwn
import Derived.Deep.LoopGhost
import Derived.Lib.ConvBytes
import Derived.Lib.JoinLaws
import Derived.Laws.Tables
import Derived.Great.Walk
import Derived.Test.YtipnhpfpppblhaaGreatFields
import Derived.Test.YtipnhpfpppblhaaGreatBox2
import Derived.Test.YtipnhpfpppblhaaGreatAlRight
import Derived.Test.YtipnhpfpppblhaaGreatAls
import Derived.Test.YtipnhpfpppblhaaGreatInFi
import Derived.Maps.OwnOps
import Derived.Maps.Views
import Derived.Test.YtipnhpfpppblhaaGreatLabelB
import Derived.Test.YtipnhpfpppblhaaGreatName
import Derived.Test.YtipnhpfpppblhaaGreatAlPol
import Derived.ProofKit
import Derived.OpenShut
import Derived.Deep.Slices
import Derived.Deep.Fields
import Derived.ChangeSame
import Derived.Laws.IdiomArrays
import Derived.Maps.AppendAt

/- digest.Sum.round: a contract. -/
namespace Go.Proofs.YtipnhpfpppblhaaGreat
open Go.RowKit
def WAt (w : World) (g : Nat) (S : List Int) : Prop := S.length ≤ 64 ∧ w.heap[g]? = some (.cells ((S.map V32 ++ List.replicate (64 - S.length) (V32 0)).toArray) 159 (0, 0))
theorem WAt.later {w w' : World} {g : Nat} {S : List Int} (h : WAt w g S) (hb : Below w.heap.size w w') : WAt w' g S :=
  ⟨h.1, by rw [hb.block g (Array.getElem?_eq_some_iff.1 h.2).1]; exact h.2⟩
theorem WAt.lt {w : World} {g : Nat} {S : List Int} (h : WAt w g S) : g < w.heap.size := (Array.getElem?_eq_some_iff.1 h.2).1
theorem cell_row {w : World} {p j : Nat} {cs : Array Value} {t : TypeId} {fr : Nat × Nat} (h : w.heap[p]? = some (.cells cs t fr)) : w.cell? ⟨p, j, none⟩ = cs[j]? := by
  simp [World.cell?, h]
theorem WAt.cell {w : World} {g : Nat} {S : List Int} (h : WAt w g S) (j : Nat) (hj : j < S.length) : w.cell? ⟨g, j, none⟩ = some (V32 S[j]) := by
  rw [cell_row h.2, List.getElem?_toArray, List.getElem?_append_left (by simpa using hj), List.getElem?_map, List.getElem?_eq_getElem hj]; rfl
theorem WAt.free {w : World} {g : Nat} {S : List Int} (h : WAt w g S) (j : Nat) : w.frozen? ⟨g, j, none⟩ = false := by simp [World.frozen?, h.2]
theorem WAt.old {w : World} {g : Nat} {S : List Int} (h : WAt w g S) (hj : S.length < 64) : w.cell? ⟨g, S.length, none⟩ = some (V32 0) := by
  rw [cell_row h.2, List.getElem?_toArray, List.getElem?_append_right (by simp)]
  rw [List.length_map, Nat.sub_self, List.getElem?_replicate, if_pos (by omega)]
theorem WAt.store {w : World} {g : Nat} {S : List Int} (h : WAt w g S) (hj : S.length < 64) (x : Int) : WAt (w.setCell ⟨g, S.length, none⟩ (V32 x)) g (S ++ [x]) := by
  refine ⟨by simp; omega, ?_⟩
  rw [heap_setCell_same w g S.length _ _ _ h.2]
  have e : 64 - S.length = (64 - (S ++ [x]).length) + 1 := by simp; omega
  rw [e, List.replicate_succ]
  congr 2
  simp [List.setIfInBounds_toArray]
theorem below_setCell {B : Nat} (w : World) (g j : Nat) (v : Value) (hB : B ≤ g) : Below B w (w.setCell ⟨g, j, none⟩ v) :=
  ⟨rfl, rfl, rfl, by simp [World.setCell], fun k hk => by have := Below.heap_setCell w ⟨g, j, none⟩ v k (by show k ≠ g; omega); exact this⟩
def word4 (a b c d : Int) : Int := bits BinOp.or .u32 (bits BinOp.or .u32 (bits BinOp.or .u32 (a * 16777216 % 4294967296) (b * 65536 % 4294967296)) (c * 256 % 4294967296)) d
def wordAt (bs : List Int) (k : Nat) : Int := word4 (bs.getD (4 * k) 0) (bs.getD (4 * k + 1) 0) (bs.getD (4 * k + 2) 0) (bs.getD (4 * k + 3) 0)
def wordsL (bs : List Int) (k : Nat) : List Int := (List.range k).map (wordAt bs)
theorem wordsL_succ (bs : List Int) (k : Nat) : wordsL bs (k + 1) = wordsL bs k ++ [wordAt bs k] := by simp [wordsL, List.range_succ]
theorem wordsL_len (bs : List Int) (k : Nat) : (wordsL bs k).length = k := by simp [wordsL]
def Bytes8 (w : World) (a : Addr) (bs : List Int) : Prop := ∃ b o, a = ⟨b, o, none⟩ ∧ b < w.heap.size ∧ ∀ j (h : j < bs.length), w.cell? ⟨b, o + j, none⟩ = some (.int .u8 bs[j]) ∧ 0 ≤ bs[j] ∧ bs[j] < 256
def nextW (S : List Int) : Int :=
  (((S.getD (S.length - 16) 0 + mixW 7 18 0 3 (S.getD (S.length - 15) 0)) % 4294967296 + S.getD (S.length - 7) 0) % 4294967296 + mixW 17 19 0 10 (S.getD (S.length - 2) 0)) % 4294967296
def schedL (bs : List Int) : Nat → List Int
  | 0 => wordsL bs 16
  | k + 1 => schedL bs k ++ [nextW (schedL bs k)]
theorem schedL_len (bs : List Int) (k : Nat) : (schedL bs k).length = 16 + k := by
  induction k with
  | zero => exact wordsL_len bs 16
  | succ k ih => rw [schedL, List.length_append, ih]; simp; omega
def C4 (p : Nat) (a b c d : Value) (W : World) : Prop := W.cell? ⟨p, 0, none⟩ = some a ∧ W.cell? ⟨p, 1, none⟩ = some b ∧ W.cell? ⟨p, 2, none⟩ = some c ∧ W.cell? ⟨p, 3, none⟩ = some d
theorem C4.later {p : Nat} {a b c d : Value} {W W' : World} (h : C4 p a b c d W) (hb : Below W.heap.size W W') (hp : p < W.heap.size) : C4 p a b c d W' :=
  ⟨keep_cell h.1 hb hp, keep_cell h.2.1 hb hp, keep_cell h.2.2.1 hb hp, keep_cell h.2.2.2 hb hp⟩
theorem C4.beside {p g j : Nat} {a b c d v : Value} {W : World} (h : C4 p a b c d W) (hne : p ≠ g) : C4 p a b c d (W.setCell ⟨g, j, none⟩ v) := by
  obtain ⟨h0, h1, h2, h3⟩ := h
  refine ⟨?_, ?_, ?_, ?_⟩ <;> (rw [World.cell?_setCell_far _ _ _ _ (by show g ≠ p; omega)]; assumption)
def SumAt (w : World) (p : Nat) (V : List Int) (rv : Value) (cnt : Int) : Prop := V.length = 8 ∧ w.heap[p]? = some (.cells (V.map V32 ++ [rv, .int .i64 cnt]).toArray 172 (0, 0))
theorem SumAt.later {w w' : World} {p : Nat} {V : List Int} {rv : Value} {cnt : Int} (h : SumAt w p V rv cnt) (hb : Below w.heap.size w w') : SumAt w' p V rv cnt :=
  ⟨h.1, by rw [hb.block p (Array.getElem?_eq_some_iff.1 h.2).1]; exact h.2⟩
theorem SumAt.lt {w : World} {p : Nat} {V : List Int} {rv : Value} {cnt : Int} (h : SumAt w p V rv cnt) : p < w.heap.size := (Array.getElem?_eq_some_iff.1 h.2).1
theorem SumAt.word {w : World} {p : Nat} {V : List Int} {rv : Value} {cnt : Int} (h : SumAt w p V rv cnt) (j : Nat) (hj : j < 8) : w.cell? ⟨p, j, none⟩ = some (V32 (V.getD j 0)) := by
  have hl := h.1
  rw [cell_row h.2, List.getElem?_toArray, List.getElem?_append_left (by simp; omega), List.getElem?_map, List.getD_eq_getElem?_getD, List.getElem?_eq_getElem (by omega)]; rfl
theorem SumAt.rest {w : World} {p : Nat} {V : List Int} {rv : Value} {cnt : Int} (h : SumAt w p V rv cnt) : w.cell? ⟨p, 8, none⟩ = some rv := by
  have hl := h.1
  rw [cell_row h.2, List.getElem?_toArray, List.getElem?_append_right (by simp; omega)]; simp [hl]
theorem SumAt.count {w : World} {p : Nat} {V : List Int} {rv : Value} {cnt : Int} (h : SumAt w p V rv cnt) : w.cell? ⟨p, 9, none⟩ = some (.int .i64 cnt) := by
  have hl := h.1
  rw [cell_row h.2, List.getElem?_toArray, List.getElem?_append_right (by simp; omega)]; simp [hl]
theorem SumAt.free {w : World} {p : Nat} {V : List Int} {rv : Value} {cnt : Int} (h : SumAt w p V rv cnt) (j : Nat) : w.frozen? ⟨p, j, none⟩ = false := by simp [World.frozen?, h.2]
theorem SumAt.put {w : World} {p : Nat} {V : List Int} {rv : Value} {cnt : Int} (h : SumAt w p V rv cnt) (j : Nat) (hj : j < 8) (x : Int) : SumAt (w.setCell ⟨p, j, none⟩ (V32 x)) p (V.set j x) rv cnt := by
  have hl := h.1
  refine ⟨by simp [hl], ?_⟩
  rw [heap_setCell_same w p j _ _ _ h.2]
  congr 2
  rw [List.setIfInBounds_toArray, List.set_append_left _ _ (by simp; omega), List.map_set]
def tL (m : Int) (v4 v5 v6 v7 k x : Int) : Int := IntKind.u32.wrap (IntKind.u32.wrap (IntKind.u32.wrap (IntKind.u32.wrap (v7 + m) + bits BinOp.xor .u32 (bits BinOp.and .u32 v4 v5) (bits BinOp.and .u32 (bits BinOp.xor .u32 (if IntKind.u32.signed = true then -1 else IntKind.u32.max) v4) v6)) + k) + x)
def uL (m : Int) (v0 v1 v2 : Int) : Int := IntKind.u32.wrap (m + bits BinOp.xor .u32 (bits BinOp.xor .u32 (bits BinOp.and .u32 v0 v1) (bits BinOp.and .u32 v0 v2)) (bits BinOp.and .u32 v1 v2))
def roundL : List Int → Int → Int → List Int
  | [v0, v1, v2, v3, v4, v5, v6, v7], k, x =>
    [(tL (mixW 6 11 25 0 v4) v4 v5 v6 v7 k x + uL (mixW 2 13 22 0 v0) v0 v1 v2) % 4294967296, v0, v1, v2, (v3 + tL (mixW 6 11 25 0 v4) v4 v5 v6 v7 k x) % 4294967296, v4, v5, v6]
  | v, _, _ => v
def roundsL (W V : List Int) : Nat → List Int
  | 0 => V
  | k + 1 => roundL (roundsL W V k) (keyL k) (W.getD k 0)
def VAt (w : World) (g : Nat) (v : List Int) : Prop := v.length = 8 ∧ w.heap[g]? = some (.cells (v.map V32).toArray 157 (0, 0))
theorem VAt.later {w w' : World} {g : Nat} {v : List Int} (h : VAt w g v) (hb : Below w.heap.size w w') : VAt w' g v :=
  ⟨h.1, by rw [hb.block g (Array.getElem?_eq_some_iff.1 h.2).1]; exact h.2⟩
theorem VAt.cell {w : World} {g : Nat} {v : List Int} (h : VAt w g v) (j : Nat) (x : Int) (hj : v[j]? = some x) : w.cell? ⟨g, j, none⟩ = some (V32 x) := by
  rw [cell_row h.2, List.getElem?_toArray, List.getElem?_map, hj]; rfl
theorem VAt.free {w : World} {g : Nat} {v : List Int} (h : VAt w g v) (j : Nat) : w.frozen? ⟨g, j, none⟩ = false := by simp [World.frozen?, h.2]
theorem VAt.put {w : World} {g : Nat} {v : List Int} (h : VAt w g v) (j : Nat) (x : Int) : VAt (w.setCell ⟨g, j, none⟩ (V32 x)) g (v.set j x) := by
  refine ⟨by simp [h.1], ?_⟩
  rw [heap_setCell_same w g j _ _ _ h.2, List.setIfInBounds_toArray, List.map_set]
theorem VAt.src {w : World} {g : Nat} {x0 x1 x2 x3 x4 x5 x6 x7 : Int} (h : VAt w g [x0, x1, x2, x3, x4, x5, x6, x7]) : ∀ j v, [V32 x0, V32 x1, V32 x2, V32 x3, V32 x4, V32 x5, V32 x6][j]? = some v → w.cell? ((⟨g, 0, none⟩ : Addr).add j) = some v := by
  intro j v hj
  rw [Addr.add_mid, Nat.zero_add]
  match j, hj with
  | 0, hj => exact (h.cell 0 _ rfl).trans hj
  | 1, hj => exact (h.cell 1 _ rfl).trans hj
  | 2, hj => exact (h.cell 2 _ rfl).trans hj
  | 3, hj => exact (h.cell 3 _ rfl).trans hj
  | 4, hj => exact (h.cell 4 _ rfl).trans hj
  | 5, hj => exact (h.cell 5 _ rfl).trans hj
  | 6, hj => exact (h.cell 6 _ rfl).trans hj
  | j + 7, hj => simp at hj
theorem heap_else (w : World) (g j k : Nat) (v : Value) (h : k ≠ g) : (w.setCell ⟨g, j, none⟩ v).heap[k]? = w.heap[k]? := Below.heap_setCell w ⟨g, j, none⟩ v k h
theorem WAt.of_heap {w w' : World} {g : Nat} {S : List Int} (h : WAt w g S) (he : w'.heap[g]? = w.heap[g]?) : WAt w' g S := ⟨h.1, he.trans h.2⟩
theorem VAt.of_heap {w w' : World} {g : Nat} {S : List Int} (h : VAt w g S) (he : w'.heap[g]? = w.heap[g]?) : VAt w' g S := ⟨h.1, he.trans h.2⟩
theorem SumAt.of_heap {w w' : World} {p : Nat} {V : List Int} {rv : Value} {cnt : Int} (h : SumAt w p V rv cnt) (he : w'.heap[p]? = w.heap[p]?) : SumAt w' p V rv cnt := ⟨h.1, he.trans h.2⟩
theorem C4.of_heap {p : Nat} {a b c d : Value} {W W' : World} (h : C4 p a b c d W) (he : W'.heap[p]? = W.heap[p]?) : C4 p a b c d W' := by
  have hk : ∀ j, W'.cell? ⟨p, j, none⟩ = W.cell? ⟨p, j, none⟩ := fun j => World.cell?_of_block (a := ⟨p, j, none⟩) he
  exact ⟨(hk 0).trans h.1, (hk 1).trans h.2.1, (hk 2).trans h.2.2.1, (hk 3).trans h.2.2.2⟩
theorem grown_two {w w1 w2 : World} {r : Option Nat} (h1 : w.grownBy w1 r) (h2 : w1.grownBy w2 r) : w.grownBy w2 r :=
  ⟨h2.os.trans h1.os, h2.tape.trans h1.tape, h2.output.trans h1.output, Nat.le_trans h1.size h2.size, fun k hk hr => (h2.block k (Nat.lt_of_lt_of_le hk h1.size) hr).trans (h1.block k hk hr)⟩
theorem grown_setCell (w : World) (p i : Nat) (v : Value) : w.grownBy (w.setCell ⟨p, i, none⟩ v) (some p) := ⟨rfl, rfl, rfl, by simp, fun k _ hne => Below.heap_setCell w ⟨p, i, none⟩ v k (fun e => hne (by rw [e]))⟩
theorem three_boxes {w W : World} {xs ys zs : Array Value} {t u v : TypeId} (hb : Below (((w.alloc (.cells xs t)).alloc (.cells ys u)).alloc (.cells zs v)).heap.size (((w.alloc (.cells xs t)).alloc (.cells ys u)).alloc (.cells zs v)) W) :
    Below w.heap.size w W ∧ W.heap[w.heap.size + 1 + 1]? = some (.cells zs v (0, 0)) ∧ (xs.size = 4 → C4 w.heap.size (xs.getD 0 undef) (xs.getD 1 undef) (xs.getD 2 undef) (xs.getD 3 undef) W) ∧ (ys.size = 4 → C4 (w.heap.size + 1) (ys.getD 0 undef) (ys.getD 1 undef) (ys.getD 2 undef) (ys.getD 3 undef) W) ∧ w.heap.size + 1 + 1 < W.heap.size := by
  have hs : (((w.alloc (.cells xs t)).alloc (.cells ys u)).alloc (.cells zs v)).heap.size = w.heap.size + 1 + 1 + 1 := by rw [World.size_alloc, World.size_alloc, World.size_alloc]
  obtain ⟨h1, h2, h3⟩ := box_cells hb
  obtain ⟨h4, h5, h6, h7⟩ := box_two h3
  refine ⟨h7, ?_, fun hx => ⟨h4 0 _ (by simp [hx]), h4 1 _ (by simp [hx]), h4 2 _ (by simp [hx]), h4 3 _ (by simp [hx])⟩, fun hx => ⟨h5 0 _ (by simp [hx]), h5 1 _ (by simp [hx]), h5 2 _ (by simp [hx]), h5 3 _ (by simp [hx])⟩, by rw [World.size_alloc, World.size_alloc] at h2; exact h2⟩
  rw [hb.block (w.heap.size + 1 + 1) (by omega)]
  have := heap_alloc_new ((w.alloc (.cells xs t)).alloc (.cells ys u)) (.cells zs v)
  rwa [World.size_alloc, World.size_alloc] at this
def addL (V U : List Int) : List Int := (List.range 8).map fun i => (V.getD i 0 + U.getD i 0) % 4294967296
def partL (V U : List Int) (k : Nat) : List Int := (List.range 8).map fun i => if i < k then (V.getD i 0 + U.getD i 0) % 4294967296 else V.getD i 0
theorem partL_zero {V U : List Int} (h : V.length = 8) : partL V U 0 = V := by
  match V, h with
  | [a, b, c, d, e, f, g, h], _ => rfl
theorem partL_all (V U : List Int) : partL V U 8 = addL V U := by
  unfold partL addL
  exact List.map_congr_left (fun i hi => by rw [if_pos (List.mem_range.1 hi)])
theorem partL_at (V U : List Int) (k : Nat) (hk : k < 8) : (partL V U k).getD k 0 = V.getD k 0 := by
  unfold partL
  rw [List.getD_eq_getElem?_getD, List.getElem?_map, List.getElem?_range hk]; simp
theorem partL_succ (V U : List Int) (k : Nat) (hk : k < 8) : (partL V U k).set k ((V.getD k 0 + U.getD k 0) % 4294967296) = partL V U (k + 1) := by
  unfold partL
  apply List.ext_getElem?
  intro j
  rw [List.getElem?_set, List.length_map, List.length_range, List.getElem?_map, List.getElem?_map]
  by_cases hj : k = j
  · subst hj
    rw [if_pos rfl, if_pos hk, List.getElem?_range hk]; simp
  · rw [if_neg hj]
    by_cases h8 : j < 8
    · rw [List.getElem?_range h8]
      have e : (j < k) = (j < k + 1) := by rw [eq_iff_iff]; omega
      simp only [Option.map_some, e]
    · rw [List.getElem?_eq_none (by simp; omega)]; simp
def blockL (bs V : List Int) : List Int := addL V (roundsL (schedL bs 48) V 64)
set_option maxHeartbeats 40000000 in
set_option maxRecDepth 100000 in
theorem round_any (bs : List Int) (V : List Int) (p : Nat) (a : Addr) (c : Nat) (w : World) (hb : bs.length = 64) (hB : Bytes8 w a bs) (rv : Value) (cnt : Int) (hS : SumAt w p V rv cnt) :
    Calls Tryz.prog 123 #[.pointer (some ⟨p, 0, none⟩), .slice (some a) 64 c] w fun e w' => e = .returned (.tuple #[]) ∧ SumAt w' p (blockL bs V) rv cnt ∧ w.grownBy w' (some p) := by
  obtain ⟨b, o, rfl, hlt, hcell⟩ := hB
  have HC := Lib.hid hcell
  have HS := Lib.hid hS
  have hpl := hS.lt
  clear hcell hS
  go_enter Tryz.func123, Tryz.ntmps123
  go_wp2
  go_loopw [17] (fun i wr => ∃ k : Nat, k ≤ 16 ∧ i = .int .i64 k ∧ Hid (WAt wr w.heap.size (wordsL bs k)) ∧ Below w.heap.size w wr) (fun i _ => 16 - (intOf i).toNat)
  case atStart => exact ⟨0, Nat.zero_le _, rfl, Lib.hid ⟨by simp [wordsL], heap_alloc_new _ _⟩, (Below.refl _ _).alloc (Nat.le_refl _) _⟩
  case round =>
    obtain ⟨k, hk, rfl, HW, hbr⟩ := hrel
    by_cases hkl : k < 16
    · have hB4 : ∀ i, i < 4 → ∃ x : Int, bs.getD (4 * k + i) 0 = x ∧ wr.cell? ⟨b, o + (4 * k + i), none⟩ = some (.int .u8 x) ∧ 0 ≤ x ∧ x < 256 := fun i hi => by
        obtain ⟨h1, h2, h3⟩ := HC.out (4 * k + i) (by omega)
        refine ⟨_, ?_, keep_cell h1 hbr hlt, h2, h3⟩
        rw [List.getD_eq_getElem?_getD, List.getElem?_eq_getElem (by omega)]; rfl
      obtain ⟨x0, e0, c0, l0, u0⟩ := hB4 0 (by decide)
      obtain ⟨x1, e1, c1, l1, u1⟩ := hB4 1 (by decide)
      obtain ⟨x2, e2, c2, l2, u2⟩ := hB4 2 (by decide)
      obtain ⟨x3, e3, c3, l3, u3⟩ := hB4 3 (by decide)
      rw [Nat.add_zero] at e0 c0
      have HN : Hid (wordsL bs (k + 1) = wordsL bs k ++ [word4 x0 x1 x2 x3]) := by
        show _ = _; rw [wordsL_succ]; unfold wordAt; rw [e0, e1, e2, e3]
      have hwl := wordsL_len bs k
      obtain ⟨q, hq⟩ : ∃ q, 4 * k = q := ⟨_, rfl⟩
      obtain ⟨q1, hq1⟩ : ∃ q, 4 * k + 1 = q := ⟨_, rfl⟩
      obtain ⟨q2, hq2⟩ : ∃ q, 4 * k + 2 = q := ⟨_, rfl⟩
      obtain ⟨q3, hq3⟩ : ∃ q, 4 * k + 3 = q := ⟨_, rfl⟩
      rw [hq] at c0
      rw [hq1] at c1
      rw [hq2] at c2
      rw [hq3] at c3
      have hw0 : IntKind.i64.wrap (4 * (k : Int)) = (q : Int) := by rw [IntKind.wrap_i64]; omega
      have hw1 : IntKind.i64.wrap ((q : Int) + 1) = (q1 : Int) := by rw [IntKind.wrap_i64]; omega
      have hw2 : IntKind.i64.wrap ((q : Int) + 2) = (q2 : Int) := by rw [IntKind.wrap_i64]; omega
      have hw3 : IntKind.i64.wrap ((q : Int) + 3) = (q3 : Int) := by rw [IntKind.wrap_i64]; omega
      have hI0 : (q : Int) < 64 := by omega
      have hI1 : (q1 : Int) < 64 := by omega
      have hI2 : (q2 : Int) < 64 := by omega
      have hI3 : (q3 : Int) < 64 := by omega
      have hI4 : (k : Int) < 64 := by omega
      have v0 : IntKind.u32.wrap x0 = x0 := by rw [IntKind.wrap_u32']; omega
      have v1 : IntKind.u32.wrap x1 = x1 := by rw [IntKind.wrap_u32']; omega
      have v2 : IntKind.u32.wrap x2 = x2 := by rw [IntKind.wrap_u32']; omega
      have v3 : IntKind.u32.wrap x3 = x3 := by rw [IntKind.wrap_u32']; omega
      have y0 : IntKind.u32.wrap (x0 * 16777216) = x0 * 16777216 % 4294967296 := by rw [IntKind.wrap_u32']
      have y1 : IntKind.u32.wrap (x1 * 65536) = x1 * 65536 % 4294967296 := by rw [IntKind.wrap_u32']
      have y2 : IntKind.u32.wrap (x2 * 256) = x2 * 256 % 4294967296 := by rw [IntKind.wrap_u32']
      clear hB4 e0 e1 e2 e3 hq hq1 hq2 hq3
      go_wp2
      go_still_tail 35, (by kernel_rfl)
      have HW2 : Hid (WAt wr.drew w.heap.size (wordsL bs k)) := HW.out
      have hbr2 : Below w.heap.size w wr.drew := hbr.drew
      change wpList _ _ _ _ _ wr.drew
      clear HW hbr c0 c1 c2 c3
      generalize wr.drew = w2 at *
      have hold := HW2.out.old (by omega)
      have hfree := HW2.out.free k
      rw [hwl] at hold
      have HST := Lib.hid (HW2.out.store (by omega) (word4 x0 x1 x2 x3))
      rw [hwl] at HST
      have hbs := hbr2.trans (below_setCell (B := w.heap.size) w2 w.heap.size k (V32 (word4 x0 x1 x2 x3)) (Nat.le_refl _))
      unfold word4 at HST hbs
      go_wp2
      go_roundw
      case rel => exact ⟨k + 1, by omega, by go_num, by rw [HN.out]; exact HST, hbs⟩
      case measure => (simp [intOf]; try omega)
    · obtain rfl : k = 16 := by omega
      rw [show ((16 : Nat) : Int) = 16 from rfl]
      go_wp2
      have hba : Below wr.heap.size wr ((wr.alloc (.cells #[.int .i64 7, .int .i64 18, .int .i64 0, .int .i64 3] 189)).alloc (.cells #[.int .i64 17, .int .i64 19, .int .i64 0, .int .i64 10] 189)) := ((Below.refl _ _).alloc (Nat.le_refl _) _).alloc (by simp) _
      have hbox := box_two (Below.refl ((wr.alloc (.cells #[.int .i64 7, .int .i64 18, .int .i64 0, .int .i64 3] 189)).alloc (.cells #[.int .i64 17, .int .i64 19, .int .i64 0, .int .i64 10] 189)).heap.size ((wr.alloc (.cells #[.int .i64 7, .int .i64 18, .int .i64 0, .int .i64 3] 189)).alloc (.cells #[.int .i64 17, .int .i64 19, .int .i64 0, .int .i64 10] 189)))
      have hm1 : C4 wr.heap.size (.int .i64 7) (.int .i64 18) (.int .i64 0) (.int .i64 3) ((wr.alloc (.cells #[.int .i64 7, .int .i64 18, .int .i64 0, .int .i64 3] 189)).alloc (.cells #[.int .i64 17, .int .i64 19, .int .i64 0, .int .i64 10] 189)) := ⟨hbox.1 0 _ rfl, hbox.1 1 _ rfl, hbox.1 2 _ rfl, hbox.1 3 _ rfl⟩
      have hm2 : C4 (wr.heap.size + 1) (.int .i64 17) (.int .i64 19) (.int .i64 0) (.int .i64 10) ((wr.alloc (.cells #[.int .i64 7, .int .i64 18, .int .i64 0, .int .i64 3] 189)).alloc (.cells #[.int .i64 17, .int .i64 19, .int .i64 0, .int .i64 10] 189)) := ⟨hbox.2.1 0 _ rfl, hbox.2.1 1 _ rfl, hbox.2.1 2 _ rfl, hbox.2.1 3 _ rfl⟩
      have hglt := hbox.2.2.1
      have HWa : Hid (WAt ((wr.alloc (.cells #[.int .i64 7, .int .i64 18, .int .i64 0, .int .i64 3] 189)).alloc (.cells #[.int .i64 17, .int .i64 19, .int .i64 0, .int .i64 10] 189)) w.heap.size (schedL bs 0)) := HW.out.later hba
      have hbra := hbr.trans (hba.mono hbr.size)
      have hgG : w.heap.size < wr.heap.size := HW.out.lt
      have HM1 := Lib.hid hm1
      have HM2 := Lib.hid hm2
      obtain ⟨G1, hG1⟩ : ∃ g, g = wr.heap.size := ⟨_, rfl⟩
      clear hba hbox hm1 hm2 HW hbr
      rw [← hG1] at HM1 HM2 hglt hgG ⊢
      generalize (wr.alloc (.cells #[.int .i64 7, .int .i64 18, .int .i64 0, .int .i64 3] 189)).alloc (.cells #[.int .i64 17, .int .i64 19, .int .i64 0, .int .i64 10] 189) = wa at *
      clear hG1
      go_loopw [8] (fun i wr => ∃ k : Nat, k ≤ 48 ∧ i = .int .i64 ((16 + k : Nat) : Int) ∧ Hid (WAt wr w.heap.size (schedL bs k)) ∧ Hid (C4 G1 (.int .i64 7) (.int .i64 18) (.int .i64 0) (.int .i64 3) wr) ∧ Hid (C4 (G1 + 1) (.int .i64 17) (.int .i64 19) (.int .i64 0) (.int .i64 10) wr) ∧ G1 + 1 < wr.heap.size ∧ Below w.heap.size w wr) (fun i _ => 64 - (intOf i).toNat)
      case atStart => exact ⟨0, Nat.zero_le _, rfl, HWa, HM1, HM2, hglt, hbra⟩
      case round =>
        obtain ⟨k, hk, rfl, HW, HM1, HM2, hglt, hbr⟩ := hrel
        by_cases hkl : k < 48
        · obtain ⟨L, hL⟩ : ∃ L, schedL bs k = L := ⟨_, rfl⟩
          have hLl : L.length = 16 + k := by rw [← hL]; exact schedL_len bs k
          have HN : Hid (schedL bs (k + 1) = L ++ [nextW L]) := by show _ = _; rw [schedL, hL]
          rw [hL] at HW
          have hx : ∀ d, 0 < d → d ≤ 16 → ∃ q x, q + d = 16 + k ∧ L.getD (16 + k - d) 0 = x ∧ q < L.length ∧ ∀ W L', (∀ j, j < L.length → L'[j]? = L[j]?) → WAt W w.heap.size L' → W.cell? ⟨w.heap.size, q, none⟩ = some (V32 x) := fun d h1 h2 => by
            refine ⟨16 + k - d, _, by omega, rfl, by omega, fun W L' hag hW => ?_⟩
            have h3 := hag (16 + k - d) (by omega)
            rw [List.getElem?_eq_getElem (by omega : 16 + k - d < L.length)] at h3
            have h4 := (List.getElem?_eq_some_iff.1 h3).1
            rw [hW.cell (16 + k - d) h4, List.getD_eq_getElem?_getD, List.getElem?_eq_getElem (by omega)]
            rw [List.getElem?_eq_getElem h4] at h3
            rw [Option.some.inj h3]; rfl
          obtain ⟨q16, x16, i16, e16, l16, c16⟩ := hx 16 (by decide) (by decide)
          obtain ⟨q15, x15, i15, e15, l15, c15⟩ := hx 15 (by decide) (by decide)
          obtain ⟨q7, x7, i7, e7, l7, c7⟩ := hx 7 (by decide) (by decide)
          obtain ⟨q2, x2, i2, e2, l2, c2⟩ := hx 2 (by decide) (by decide)
          have HX : Hid (nextW L = (((x16 + mixW 7 18 0 3 x15) % 4294967296 + x7) % 4294967296 + mixW 17 19 0 10 x2) % 4294967296) := by
            show _ = _; unfold nextW; rw [hLl, e16, e15, e7, e2]
          have kA := fun W => of_sh 7 18 0 3 x15 W (by decide) (by decide) (by decide)
          have kB := fun W => of_sh 17 19 0 10 x2 W (by decide) (by decide) (by decide)
          obtain ⟨n, hn⟩ : ∃ n, 16 + k = n := ⟨_, rfl⟩
          rw [hn] at hLl i16 i15 i7 i2 ⊢
          have hw16 : IntKind.i64.wrap ((n : Int) - 16) = (q16 : Int) := by rw [IntKind.wrap_i64]; omega
          have hI16 : (q16 : Int) < 64 := by omega
          have hw15 : IntKind.i64.wrap ((n : Int) - 15) = (q15 : Int) := by rw [IntKind.wrap_i64]; omega
          have hI15 : (q15 : Int) < 64 := by omega
          have hw7 : IntKind.i64.wrap ((n : Int) - 7) = (q7 : Int) := by rw [IntKind.wrap_i64]; omega
          have hI7 : (q7 : Int) < 64 := by omega
          have hw2 : IntKind.i64.wrap ((n : Int) - 2) = (q2 : Int) := by rw [IntKind.wrap_i64]; omega
          have hI2 : (q2 : Int) < 64 := by omega
          have hIn : (n : Int) < 64 := by omega
          obtain ⟨mA, hmA⟩ : ∃ z, mixW 7 18 0 3 x15 = z := ⟨_, rfl⟩
          obtain ⟨mB, hmB⟩ : ∃ z, mixW 17 19 0 10 x2 = z := ⟨_, rfl⟩
          rw [hmA] at kA HX
          rw [hmB] at kB HX
          obtain ⟨s1, hs1⟩ : ∃ z, (x16 + mA) % 4294967296 = z := ⟨_, rfl⟩
          obtain ⟨s2, hs2⟩ : ∃ z, (s1 + x7) % 4294967296 = z := ⟨_, rfl⟩
          obtain ⟨s3, hs3⟩ : ∃ z, (s2 + mB) % 4294967296 = z := ⟨_, rfl⟩
          rw [hs1, hs2, hs3] at HX
          have y1 : IntKind.u32.wrap (x16 + mA) = s1 := by rw [IntKind.wrap_u32']; exact hs1
          have y2 : IntKind.u32.wrap (s1 + x7) = s2 := by rw [IntKind.wrap_u32']; exact hs2
          have y3 : IntKind.u32.wrap (s2 + mB) = s3 := by rw [IntKind.wrap_u32']; exact hs3
          have hcs : ∀ W L', (∀ j, j < L.length → L'[j]? = L[j]?) → WAt W w.heap.size L' → C4 G1 (.int .i64 7) (.int .i64 18) (.int .i64 0) (.int .i64 3) W → C4 (G1 + 1) (.int .i64 17) (.int .i64 19) (.int .i64 0) (.int .i64 10) W →
              W.cell? ⟨w.heap.size, q16, none⟩ = some (V32 x16) ∧ W.cell? ⟨w.heap.size, q15, none⟩ = some (V32 x15) ∧ W.cell? ⟨w.heap.size, q7, none⟩ = some (V32 x7) ∧ W.cell? ⟨w.heap.size, q2, none⟩ = some (V32 x2) ∧ C4 G1 (.int .i64 7) (.int .i64 18) (.int .i64 0) (.int .i64 3) W ∧ C4 (G1 + 1) (.int .i64 17) (.int .i64 19) (.int .i64 0) (.int .i64 10) W := fun W L' h0 h1 h2 h3 => ⟨c16 W L' h0 h1, c15 W L' h0 h1, c7 W L' h0 h1, c2 W L' h0 h1, h2, h3⟩
          have HCS := Lib.hid hcs
          have HWd : Hid (WAt wr.drew w.heap.size L) := HW.out
          have HMd1 : Hid (C4 G1 (.int .i64 7) (.int .i64 18) (.int .i64 0) (.int .i64 3) wr.drew) := HM1.out
          have HMd2 : Hid (C4 (G1 + 1) (.int .i64 17) (.int .i64 19) (.int .i64 0) (.int .i64 10) wr.drew) := HM2.out
          clear hx hL e16 e15 e7 e2 c16 c15 c7 c2 hcs hmA hmB hs1 hs2 hs3
          go_wp2
          refine wp_region_held_drew (S := (fun w' => w'.cell? ⟨w.heap.size, q16, none⟩ = some (V32 x16) ∧ w'.cell? ⟨w.heap.size, q15, none⟩ = some (V32 x15) ∧ w'.cell? ⟨w.heap.size, q7, none⟩ = some (V32 x7) ∧ w'.cell? ⟨w.heap.size, q2, none⟩ = some (V32 x2) ∧ C4 G1 (.int .i64 7) (.int .i64 18) (.int .i64 0) (.int .i64 3) w' ∧ C4 (G1 + 1) (.int .i64 17) (.int .i64 19) (.int .i64 0) (.int .i64 10) w')) (by kernel_rfl) (HCS.out _ L (fun _ _ => rfl) HWd.out HMd1.out HMd2.out) (fun hHeld => ?_)
          refine held_take (i := 0) (v := ?_) rfl rfl (by kernel_rfl) (by kernel_rfl) (by kernel_rfl) (fun _ _ _ h => h) (by rfl) hHeld ?_ ?_
          rotate_left
          · rintro wh ⟨z16, z15, z7, z2, ⟨s0, s1, s2, s3⟩, ⟨r0, r1, r2, r3⟩⟩
            go_simp
            (try with_reducible rfl)
          simp only [Act.put, List.setIfInBounds_toArray, List.set_cons_zero, List.set_cons_succ]
          refine held_take (i := 1) (v := ?_) rfl rfl (by kernel_rfl) (by kernel_rfl) (by kernel_rfl) (fun _ _ _ h => h) (by rfl) hHeld ?_ ?_
          rotate_left
          · rintro wh ⟨z16, z15, z7, z2, ⟨s0, s1, s2, s3⟩, ⟨r0, r1, r2, r3⟩⟩
            go_simp
            (try with_reducible rfl)
          simp only [Act.put, List.setIfInBounds_toArray, List.set_cons_zero, List.set_cons_succ]
          refine held_take (i := 2) (v := ?_) rfl rfl (by kernel_rfl) (by kernel_rfl) (by kernel_rfl) (fun _ _ _ h => h) (by rfl) hHeld ?_ ?_
          rotate_left
          · rintro wh ⟨z16, z15, z7, z2, ⟨s0, s1, s2, s3⟩, ⟨r0, r1, r2, r3⟩⟩
            go_simp
            (try with_reducible rfl)
          simp only [Act.put, List.setIfInBounds_toArray, List.set_cons_zero, List.set_cons_succ]
          refine held_take (i := 3) (v := ?_) rfl rfl (by kernel_rfl) (by kernel_rfl) (by kernel_rfl) (fun _ _ _ h => h) (by rfl) hHeld ?_ ?_
          rotate_left
          · rintro wh ⟨z16, z15, z7, z2, ⟨s0, s1, s2, s3⟩, ⟨r0, r1, r2, r3⟩⟩
            go_simp
            (try with_reducible rfl)
          simp only [Act.put, List.setIfInBounds_toArray, List.set_cons_zero, List.set_cons_succ]
          refine held_take (i := 4) (v := ?_) rfl rfl (by kernel_rfl) (by kernel_rfl) (by kernel_rfl) (fun _ _ _ h => h) (by rfl) hHeld ?_ ?_
          rotate_left
          · rintro wh ⟨z16, z15, z7, z2, ⟨s0, s1, s2, s3⟩, ⟨r0, r1, r2, r3⟩⟩
            go_simp
            (try with_reducible rfl)
          simp only [Act.put, List.setIfInBounds_toArray, List.set_cons_zero, List.set_cons_succ]
          refine held_take (i := 5) (v := ?_) rfl rfl (by kernel_rfl) (by kernel_rfl) (by kernel_rfl) (fun _ _ _ h => h) (by rfl) hHeld ?_ ?_
          rotate_left
          · rintro wh ⟨z16, z15, z7, z2, ⟨s0, s1, s2, s3⟩, ⟨r0, r1, r2, r3⟩⟩
            go_simp
            (try with_reducible rfl)
          simp only [Act.put, List.setIfInBounds_toArray, List.set_cons_zero, List.set_cons_succ]
          refine held_take (i := 6) (v := ?_) rfl rfl (by kernel_rfl) (by kernel_rfl) (by kernel_rfl) (fun _ _ _ h => h) (by rfl) hHeld ?_ ?_
          rotate_left
          · rintro wh ⟨z16, z15, z7, z2, ⟨s0, s1, s2, s3⟩, ⟨r0, r1, r2, r3⟩⟩
            go_simp
            (try with_reducible rfl)
          simp only [Act.put, List.setIfInBounds_toArray, List.set_cons_zero, List.set_cons_succ]
          refine held_take (i := 7) (v := ?_) rfl rfl (by kernel_rfl) (by kernel_rfl) (by kernel_rfl) (fun _ _ _ h => h) (by rfl) hHeld ?_ ?_
          rotate_left
          · rintro wh ⟨z16, z15, z7, z2, ⟨s0, s1, s2, s3⟩, ⟨r0, r1, r2, r3⟩⟩
            go_simp
            (try with_reducible rfl)
          simp only [Act.put, List.setIfInBounds_toArray, List.set_cons_zero, List.set_cons_succ]
          refine held_take (i := 8) (v := ?_) rfl rfl (by kernel_rfl) (by kernel_rfl) (by kernel_rfl) (fun _ _ _ h => h) (by rfl) hHeld ?_ ?_
          rotate_left
          · rintro wh ⟨z16, z15, z7, z2, ⟨s0, s1, s2, s3⟩, ⟨r0, r1, r2, r3⟩⟩
            go_simp
            (try with_reducible rfl)
          simp only [Act.put, List.setIfInBounds_toArray, List.set_cons_zero, List.set_cons_succ]
          refine held_take (i := 9) (v := ?_) rfl rfl (by kernel_rfl) (by kernel_rfl) (by kernel_rfl) (fun _ _ _ h => h) (by rfl) hHeld ?_ ?_
          rotate_left
          · rintro wh ⟨z16, z15, z7, z2, ⟨s0, s1, s2, s3⟩, ⟨r0, r1, r2, r3⟩⟩
            go_simp
            (try with_reducible rfl)
          simp only [Act.put, List.setIfInBounds_toArray, List.set_cons_zero, List.set_cons_succ]
          refine held_take (i := 12) (v := ?_) rfl rfl (by kernel_rfl) (by kernel_rfl) (by kernel_rfl) (fun _ _ _ h => h) (by rfl) hHeld ?_ ?_
          rotate_left
          · rintro wh ⟨z16, z15, z7, z2, ⟨s0, s1, s2, s3⟩, ⟨r0, r1, r2, r3⟩⟩
            go_simp
            (try with_reducible rfl)
          simp only [Act.put, List.setIfInBounds_toArray, List.set_cons_zero, List.set_cons_succ]
          refine held_take (i := 13) (v := ?_) rfl rfl (by kernel_rfl) (by kernel_rfl) (by kernel_rfl) (fun _ _ _ h => h) (by rfl) hHeld ?_ ?_
          rotate_left
          · rintro wh ⟨z16, z15, z7, z2, ⟨s0, s1, s2, s3⟩, ⟨r0, r1, r2, r3⟩⟩
            go_simp
            (try with_reducible rfl)
          simp only [Act.put, List.setIfInBounds_toArray, List.set_cons_zero, List.set_cons_succ]
          refine held_take (i := 14) (v := ?_) rfl rfl (by kernel_rfl) (by kernel_rfl) (by kernel_rfl) (fun _ _ _ h => h) (by rfl) hHeld ?_ ?_
          rotate_left
          · rintro wh ⟨z16, z15, z7, z2, ⟨s0, s1, s2, s3⟩, ⟨r0, r1, r2, r3⟩⟩
            go_simp
            (try with_reducible rfl)
          simp only [Act.put, List.setIfInBounds_toArray, List.set_cons_zero, List.set_cons_succ]
          refine held_take (i := 15) (v := ?_) rfl rfl (by kernel_rfl) (by kernel_rfl) (by kernel_rfl) (fun _ _ _ h => h) (by rfl) hHeld ?_ ?_
          rotate_left
          · rintro wh ⟨z16, z15, z7, z2, ⟨s0, s1, s2, s3⟩, ⟨r0, r1, r2, r3⟩⟩
            go_simp
            (try with_reducible rfl)
          simp only [Act.put, List.setIfInBounds_toArray, List.set_cons_zero, List.set_cons_succ]
          refine held_take (i := 17) (v := ?_) rfl rfl (by kernel_rfl) (by kernel_rfl) (by kernel_rfl) (fun _ _ _ h => h) (by rfl) hHeld ?_ ?_
          rotate_left
          · rintro wh ⟨z16, z15, z7, z2, ⟨s0, s1, s2, s3⟩, ⟨r0, r1, r2, r3⟩⟩
            go_simp
            (try with_reducible rfl)
          simp only [Act.put, List.setIfInBounds_toArray, List.set_cons_zero, List.set_cons_succ]
          refine held_take (i := 18) (v := ?_) rfl rfl (by kernel_rfl) (by kernel_rfl) (by kernel_rfl) (fun _ _ _ h => h) (by rfl) hHeld ?_ ?_
          rotate_left
          · rintro wh ⟨z16, z15, z7, z2, ⟨s0, s1, s2, s3⟩, ⟨r0, r1, r2, r3⟩⟩
            go_simp
            (try with_reducible rfl)
          simp only [Act.put, List.setIfInBounds_toArray, List.set_cons_zero, List.set_cons_succ]
          refine held_take (i := 19) (v := ?_) rfl rfl (by kernel_rfl) (by kernel_rfl) (by kernel_rfl) (fun _ _ _ h => h) (by rfl) hHeld ?_ ?_
          rotate_left
          · rintro wh ⟨z16, z15, z7, z2, ⟨s0, s1, s2, s3⟩, ⟨r0, r1, r2, r3⟩⟩
            go_simp
            (try with_reducible rfl)
          simp only [Act.put, List.setIfInBounds_toArray, List.set_cons_zero, List.set_cons_succ]
          refine held_take (i := 20) (v := ?_) rfl rfl (by kernel_rfl) (by kernel_rfl) (by kernel_rfl) (fun _ _ _ h => h) (by rfl) hHeld ?_ ?_
          rotate_left
          · rintro wh ⟨z16, z15, z7, z2, ⟨s0, s1, s2, s3⟩, ⟨r0, r1, r2, r3⟩⟩
            go_simp
            (try with_reducible rfl)
          simp only [Act.put, List.setIfInBounds_toArray, List.set_cons_zero, List.set_cons_succ]
          refine held_take (i := 21) (v := ?_) rfl rfl (by kernel_rfl) (by kernel_rfl) (by kernel_rfl) (fun _ _ _ h => h) (by rfl) hHeld ?_ ?_
          rotate_left
          · rintro wh ⟨z16, z15, z7, z2, ⟨s0, s1, s2, s3⟩, ⟨r0, r1, r2, r3⟩⟩
            go_simp
            (try with_reducible rfl)
          simp only [Act.put, List.setIfInBounds_toArray, List.set_cons_zero, List.set_cons_succ]
          refine held_call (i := 10) rfl (by kernel_rfl) (by rfl) (fun K hK => ?_)
          (go_simp; go_at_call 134; refine (kA _).mono ?_; rintro e w1 ⟨rfl, hb1⟩; have HW1 := Lib.hid (HWd.out.later hb1); have HN1 := Lib.hid (HMd1.out.later hb1 (by show G1 < wr.heap.size; omega)); have HN2 := Lib.hid (HMd2.out.later hb1 hglt); have hg1 := Nat.lt_of_lt_of_le hglt hb1.size)
          refine hK.out _ _ (HCS.out _ L (fun _ _ => rfl) HW1.out HN1.out HN2.out) (fun hHeld => ?_)
          clear hK K
          (try simp only [Act.put, List.setIfInBounds_toArray, List.set_cons_zero, List.set_cons_succ])
          refine held_take (i := 11) (v := ?_) rfl rfl (by kernel_rfl) (by kernel_rfl) (by kernel_rfl) (fun _ _ _ h => h) (by rfl) hHeld ?_ ?_
          rotate_left
          · rintro wh ⟨z16, z15, z7, z2, ⟨s0, s1, s2, s3⟩, ⟨r0, r1, r2, r3⟩⟩
            go_simp
            (try with_reducible rfl)
          simp only [Act.put, List.setIfInBounds_toArray, List.set_cons_zero, List.set_cons_succ]
          refine held_take (i := 16) (v := ?_) rfl rfl (by kernel_rfl) (by kernel_rfl) (by kernel_rfl) (fun _ _ _ h => h) (by rfl) hHeld ?_ ?_
          rotate_left
          · rintro wh ⟨z16, z15, z7, z2, ⟨s0, s1, s2, s3⟩, ⟨r0, r1, r2, r3⟩⟩
            go_simp
            (try with_reducible rfl)
          simp only [Act.put, List.setIfInBounds_toArray, List.set_cons_zero, List.set_cons_succ]
          refine held_call (i := 22) rfl (by kernel_rfl) (by rfl) (fun K hK => ?_)
          (go_simp; go_at_call 134; refine (kB _).mono ?_; rintro e w2 ⟨rfl, hb2⟩; have HW2 := Lib.hid (HW1.out.later hb2); have HO1 := Lib.hid (HN1.out.later hb2 (by omega)); have HO2 := Lib.hid (HN2.out.later hb2 hg1); have hg2 := Nat.lt_of_lt_of_le hg1 hb2.size)
          refine hK.out _ _ (HCS.out _ L (fun _ _ => rfl) HW2.out HO1.out HO2.out) (fun hHeld => ?_)
          clear hK K
          (try simp only [Act.put, List.setIfInBounds_toArray, List.set_cons_zero, List.set_cons_succ])
          refine held_take (i := 23) (v := ?_) rfl rfl (by kernel_rfl) (by kernel_rfl) (by kernel_rfl) (fun _ _ _ h => h) (by rfl) hHeld ?_ ?_
          rotate_left
          · rintro wh ⟨z16, z15, z7, z2, ⟨s0, s1, s2, s3⟩, ⟨r0, r1, r2, r3⟩⟩
            go_simp
            (try with_reducible rfl)
          simp only [Act.put, List.setIfInBounds_toArray, List.set_cons_zero, List.set_cons_succ]
          refine held_take (i := 24) (v := ?_) rfl rfl (by kernel_rfl) (by kernel_rfl) (by kernel_rfl) (fun _ _ _ h => h) (by rfl) hHeld ?_ ?_
          rotate_left
          · rintro wh ⟨z16, z15, z7, z2, ⟨s0, s1, s2, s3⟩, ⟨r0, r1, r2, r3⟩⟩
            go_simp
            (try with_reducible rfl)
          simp only [Act.put, List.setIfInBounds_toArray, List.set_cons_zero, List.set_cons_succ]
          refine held_call (i := 25) rfl (by kernel_rfl) (by rfl) (fun K hK => ?_)
          (have hold := HW2.out.old (by omega); rw [hLl] at hold; have hfree := HW2.out.free n; have HST := Lib.hid (HW2.out.store (by omega) s3); rw [hLl] at HST; have HP1 := Lib.hid (HO1.out.beside (g := w.heap.size) (j := n) (v := V32 s3) (by omega)); have HP2 := Lib.hid (HO2.out.beside (g := w.heap.size) (j := n) (v := V32 s3) (by omega)); have hbs := (hbr.drew.trans (hb1.mono hbr.size)).trans (hb2.mono (by have := hb1.size; have := hbr.size; simp at *; omega)); have hbs2 := hbs.trans (below_setCell (B := w.heap.size) w2 w.heap.size n (V32 s3) (Nat.le_refl _)); go_simp)
          refine hK.out _ _ (HCS.out _ (L ++ [s3]) (fun j h => List.getElem?_append_left h) HST.out HP1.out HP2.out) (fun hHeld => ?_)
          clear hK K
          (try simp only [Act.put, List.setIfInBounds_toArray, List.set_cons_zero, List.set_cons_succ])
          refine wpAnyH_done (by kernel_rfl) ?_ _
          have hg3 : G1 + 1 < (w2.setCell ⟨w.heap.size, n, none⟩ (V32 s3)).heap.size := by rw [World.size_setCell]; exact hg2
          generalize w2.setCell ⟨w.heap.size, n, none⟩ (V32 s3) = w3 at *
          have R : Hid (WAt w3 w.heap.size (schedL bs (k + 1))) := by rw [HN.out, HX.out]; exact HST
          go_wp2
          go_roundw
          case rel => exact ⟨k + 1, by omega, by (first | go_num | (congr 1; omega)), R, HP1, HP2, hg3, hbs2⟩
          case measure => (simp [intOf]; try omega)
        · obtain rfl : k = 48 := by omega
          rw [show ((16 + 48 : Nat) : Int) = 64 from rfl]
          have HSr := Lib.hid (HS.out.later hbr)
          obtain ⟨h0, h1, h2, h3, h4, h5, h6, h7, rfl⟩ : ∃ h0 h1 h2 h3 h4 h5 h6 h7, V = [h0, h1, h2, h3, h4, h5, h6, h7] := by
            have hl := HS.out.1
            match V, hl with
            | [a, b, c, d, e, f, g, h], _ => exact ⟨a, b, c, d, e, f, g, h, rfl⟩
          have g0 : wr.cell? ⟨p, 0, none⟩ = some (V32 h0) := HSr.out.word 0 (by decide)
          have g1 : wr.cell? ⟨p, 1, none⟩ = some (V32 h1) := HSr.out.word 1 (by decide)
          have g2 : wr.cell? ⟨p, 2, none⟩ = some (V32 h2) := HSr.out.word 2 (by decide)
          have g3 : wr.cell? ⟨p, 3, none⟩ = some (V32 h3) := HSr.out.word 3 (by decide)
          have g4 : wr.cell? ⟨p, 4, none⟩ = some (V32 h4) := HSr.out.word 4 (by decide)
          have g5 : wr.cell? ⟨p, 5, none⟩ = some (V32 h5) := HSr.out.word 5 (by decide)
          have g6 : wr.cell? ⟨p, 6, none⟩ = some (V32 h6) := HSr.out.word 6 (by decide)
          have g7 : wr.cell? ⟨p, 7, none⟩ = some (V32 h7) := HSr.out.word 7 (by decide)
          have hpr : p < wr.heap.size := HSr.out.lt
          go_wp2_with fail
          refine (keys_any _).mono ?_
          rintro e w3 ⟨rfl, hb3⟩
          clear g0 g1 g2 g3 g4 g5 g6 g7
          obtain ⟨hB3, hV3, hA3, hN3, hlt3⟩ := three_boxes hb3
          have hW3 := Lib.hid (HW.out.later hB3)
          have hS3 := Lib.hid (HSr.out.later hB3)
          have hbr3 := hbr.trans (hB3.mono hbr.size)
          obtain ⟨gA, hgA⟩ : ∃ g, g = wr.heap.size := ⟨_, rfl⟩
          have hGA : w.heap.size < gA := by rw [hgA]; exact HW.out.lt
          rw [← hgA] at hV3 hA3 hN3 hlt3 ⊢
          have HV3 : Hid (VAt w3 (gA + 1 + 1) (roundsL (schedL bs 48) [h0, h1, h2, h3, h4, h5, h6, h7] 0)) := ⟨rfl, hV3⟩
          have HA3 := Lib.hid (hA3 rfl)
          have HN3 := Lib.hid (hN3 rfl)
          clear hB3 hb3 HW HM1 HM2 HSr hbr hgA hV3 hA3 hN3 hglt
          obtain ⟨WL, hWL⟩ : ∃ W, schedL bs 48 = W := ⟨_, rfl⟩
          have hWl : WL.length = 64 := by rw [← hWL]; exact schedL_len bs 48
          rw [hWL] at hW3 HV3
          have HWL := Lib.hid hWL
          clear hWL
          go_wp2
          go_loopw [94] (fun i wr => ∃ k : Nat, k ≤ 64 ∧ i = .int .i64 k ∧ Hid (WAt wr w.heap.size WL) ∧ Hid (VAt wr (gA + 1 + 1) (roundsL WL [h0, h1, h2, h3, h4, h5, h6, h7] k)) ∧ Hid (C4 gA (.int .i64 6) (.int .i64 11) (.int .i64 25) (.int .i64 0) wr) ∧ Hid (C4 (gA + 1) (.int .i64 2) (.int .i64 13) (.int .i64 22) (.int .i64 0) wr) ∧ Hid (SumAt wr p [h0, h1, h2, h3, h4, h5, h6, h7] rv cnt) ∧ gA + 1 + 1 < wr.heap.size ∧ Below w.heap.size w wr) (fun i _ => 64 - (intOf i).toNat)
          case atStart => exact ⟨0, Nat.zero_le _, rfl, hW3, HV3, HA3, HN3, hS3, hlt3, hbr3⟩
          case round =>
            obtain ⟨k, hk, rfl, HW, HV, HA, HN, HS3, hlt3, hbr⟩ := hrel
            by_cases hkl : k < 64
            · obtain ⟨x0, x1, x2, x3, x4, x5, x6, x7, hv⟩ : ∃ x0 x1 x2 x3 x4 x5 x6 x7, roundsL WL [h0, h1, h2, h3, h4, h5, h6, h7] k = [x0, x1, x2, x3, x4, x5, x6, x7] := by
                have hl := HV.out.1
                match roundsL WL [h0, h1, h2, h3, h4, h5, h6, h7] k, hl with
                | [a, b, c, d, e, f, g, h], _ => exact ⟨a, b, c, d, e, f, g, h, rfl⟩
              have HNX : Hid (roundsL WL [h0, h1, h2, h3, h4, h5, h6, h7] (k + 1) = roundL [x0, x1, x2, x3, x4, x5, x6, x7] (keyL k) (WL.getD k 0)) := by show _ = _; rw [roundsL, hv]
              rw [hv] at HV
              have hkv := keysV_at k hkl
              obtain ⟨xk, hxk⟩ : ∃ x, WL.getD k 0 = x := ⟨_, rfl⟩
              have hck : ∀ W, WAt W w.heap.size WL → W.cell? ⟨w.heap.size, k, none⟩ = some (V32 xk) := fun W hW => by
                rw [hW.cell k (by omega), ← hxk, List.getD_eq_getElem?_getD, List.getElem?_eq_getElem (by omega)]; rfl
              rw [hxk] at HNX
              obtain ⟨kk, hkk⟩ : ∃ x, keyL k = x := ⟨_, rfl⟩
              have hidx := run_index_keys k hkl wr
              rw [hkk] at hkv HNX hidx
              have hI : (k : Int) < 64 := by omega
              clear hv hxk hkk
              have kA := fun W => of_rot 6 11 25 x4 W (by decide) (by decide) (by decide)
              have kN := fun W => of_rot 2 13 22 x0 W (by decide) (by decide) (by decide)
              obtain ⟨mA, hmA⟩ : ∃ z, mixW 6 11 25 0 x4 = z := ⟨_, rfl⟩
              obtain ⟨mN, hmN⟩ : ∃ z, mixW 2 13 22 0 x0 = z := ⟨_, rfl⟩
              rw [hmA] at kA
              rw [hmN] at kN
              obtain ⟨t1, e1⟩ : ∃ z, IntKind.u32.wrap (x7 + mA) = z := ⟨_, rfl⟩
              obtain ⟨n1, e2⟩ : ∃ z, bits BinOp.and .u32 x4 x5 = z := ⟨_, rfl⟩
              obtain ⟨n2, e3⟩ : ∃ z, bits BinOp.xor .u32 (if IntKind.u32.signed = true then -1 else IntKind.u32.max) x4 = z := ⟨_, rfl⟩
              obtain ⟨n3, e4⟩ : ∃ z, bits BinOp.and .u32 n2 x6 = z := ⟨_, rfl⟩
              obtain ⟨n4, e5⟩ : ∃ z, bits BinOp.xor .u32 n1 n3 = z := ⟨_, rfl⟩
              obtain ⟨t2, e6⟩ : ∃ z, IntKind.u32.wrap (t1 + n4) = z := ⟨_, rfl⟩
              obtain ⟨t3, e7⟩ : ∃ z, IntKind.u32.wrap (t2 + kk) = z := ⟨_, rfl⟩
              obtain ⟨T, e8⟩ : ∃ z, IntKind.u32.wrap (t3 + xk) = z := ⟨_, rfl⟩
              have hT : tL mA x4 x5 x6 x7 kk xk = T := by unfold tL; rw [e1, e2, e3, e4, e5, e6, e7, e8]
              obtain ⟨m1, f1⟩ : ∃ z, bits BinOp.and .u32 x0 x1 = z := ⟨_, rfl⟩
              obtain ⟨m2, f2⟩ : ∃ z, bits BinOp.and .u32 x0 x2 = z := ⟨_, rfl⟩
              obtain ⟨m3, f3⟩ : ∃ z, bits BinOp.xor .u32 m1 m2 = z := ⟨_, rfl⟩
              obtain ⟨m4, f4⟩ : ∃ z, bits BinOp.and .u32 x1 x2 = z := ⟨_, rfl⟩
              obtain ⟨m5, f5⟩ : ∃ z, bits BinOp.xor .u32 m3 m4 = z := ⟨_, rfl⟩
              obtain ⟨U, f6⟩ : ∃ z, IntKind.u32.wrap (mN + m5) = z := ⟨_, rfl⟩
              have hU : uL mN x0 x1 x2 = U := by unfold uL; rw [f1, f2, f3, f4, f5, f6]
              have HR : Hid (roundsL WL [h0, h1, h2, h3, h4, h5, h6, h7] (k + 1) = [(T + U) % 4294967296, x0, x1, x2, (x3 + T) % 4294967296, x4, x5, x6]) := by
                show _ = _; rw [HNX.out]; simp only [roundL]; rw [hmA, hmN, hT, hU]
              clear hmA hmN hT hU HNX
              have hcs : ∀ W, VAt W (gA + 1 + 1) [x0, x1, x2, x3, x4, x5, x6, x7] → C4 gA (.int .i64 6) (.int .i64 11) (.int .i64 25) (.int .i64 0) W → WAt W w.heap.size WL →
                  W.cell? ⟨gA + 1 + 1, 7, none⟩ = some (V32 x7) ∧ W.cell? ⟨gA + 1 + 1, 4, none⟩ = some (V32 x4) ∧ W.cell? ⟨gA + 1 + 1, 5, none⟩ = some (V32 x5) ∧ W.cell? ⟨gA + 1 + 1, 6, none⟩ = some (V32 x6) ∧ C4 gA (.int .i64 6) (.int .i64 11) (.int .i64 25) (.int .i64 0) W ∧ W.cell? ⟨w.heap.size, k, none⟩ = some (V32 xk) := fun W h1 h2 h3 => ⟨h1.cell 7 _ rfl, h1.cell 4 _ rfl, h1.cell 5 _ rfl, h1.cell 6 _ rfl, h2, hck W h3⟩
              have HCS := Lib.hid hcs
              have HVd : Hid (VAt wr.drew (gA + 1 + 1) [x0, x1, x2, x3, x4, x5, x6, x7]) := HV.out
              have HAd : Hid (C4 gA (.int .i64 6) (.int .i64 11) (.int .i64 25) (.int .i64 0) wr.drew) := HA.out
              have HWd : Hid (WAt wr.drew w.heap.size WL) := HW.out
              clear hcs hck hkv
              go_wp2
              refine wp_region_held_drew (S := (fun w' => w'.cell? ⟨gA + 1 + 1, 7, none⟩ = some (V32 x7) ∧ w'.cell? ⟨gA + 1 + 1, 4, none⟩ = some (V32 x4) ∧ w'.cell? ⟨gA + 1 + 1, 5, none⟩ = some (V32 x5) ∧ w'.cell? ⟨gA + 1 + 1, 6, none⟩ = some (V32 x6) ∧ C4 gA (.int .i64 6) (.int .i64 11) (.int .i64 25) (.int .i64 0) w' ∧ w'.cell? ⟨w.heap.size, k, none⟩ = some (V32 xk))) (by kernel_rfl) (HCS.out _ HVd.out HAd.out HWd.out) (fun hHeld => ?_)
              refine held_take (i := 0) (v := ?_) rfl rfl (by kernel_rfl) (by kernel_rfl) (by kernel_rfl) (fun _ _ _ h => h) (by rfl) hHeld ?_ ?_
              rotate_left
              · rintro wh ⟨z7, z4, z5, z6, ⟨s0, s1, s2, s3⟩, zk⟩
                go_simp
                (try with_reducible rfl)
              simp only [Act.put, List.setIfInBounds_toArray, List.set_cons_zero, List.set_cons_succ]
              refine held_take (i := 1) (v := ?_) rfl rfl (by kernel_rfl) (by kernel_rfl) (by kernel_rfl) (fun _ _ _ h => h) (by rfl) hHeld ?_ ?_
              rotate_left
              · rintro wh ⟨z7, z4, z5, z6, ⟨s0, s1, s2, s3⟩, zk⟩
                go_simp
                (try with_reducible rfl)
              simp only [Act.put, List.setIfInBounds_toArray, List.set_cons_zero, List.set_cons_succ]
              refine held_take (i := 2) (v := ?_) rfl rfl (by kernel_rfl) (by kernel_rfl) (by kernel_rfl) (fun _ _ _ h => h) (by rfl) hHeld ?_ ?_
              rotate_left
              · rintro wh ⟨z7, z4, z5, z6, ⟨s0, s1, s2, s3⟩, zk⟩
                go_simp
                (try with_reducible rfl)
              simp only [Act.put, List.setIfInBounds_toArray, List.set_cons_zero, List.set_cons_succ]
              refine held_take (i := 3) (v := ?_) rfl rfl (by kernel_rfl) (by kernel_rfl) (by kernel_rfl) (fun _ _ _ h => h) (by rfl) hHeld ?_ ?_
              rotate_left
              · rintro wh ⟨z7, z4, z5, z6, ⟨s0, s1, s2, s3⟩, zk⟩
                go_simp
                (try with_reducible rfl)
              simp only [Act.put, List.setIfInBounds_toArray, List.set_cons_zero, List.set_cons_succ]
              refine held_take (i := 4) (v := ?_) rfl rfl (by kernel_rfl) (by kernel_rfl) (by kernel_rfl) (fun _ _ _ h => h) (by rfl) hHeld ?_ ?_
              rotate_left
              · rintro wh ⟨z7, z4, z5, z6, ⟨s0, s1, s2, s3⟩, zk⟩
                go_simp
                (try with_reducible rfl)
              simp only [Act.put, List.setIfInBounds_toArray, List.set_cons_zero, List.set_cons_succ]
              refine held_take (i := 7) (v := ?_) rfl rfl (by kernel_rfl) (by kernel_rfl) (by kernel_rfl) (fun _ _ _ h => h) (by rfl) hHeld ?_ ?_
              rotate_left
              · rintro wh ⟨z7, z4, z5, z6, ⟨s0, s1, s2, s3⟩, zk⟩
                go_simp
                (try with_reducible rfl)
              simp only [Act.put, List.setIfInBounds_toArray, List.set_cons_zero, List.set_cons_succ]
              refine held_take (i := 8) (v := ?_) rfl rfl (by kernel_rfl) (by kernel_rfl) (by kernel_rfl) (fun _ _ _ h => h) (by rfl) hHeld ?_ ?_
              rotate_left
              · rintro wh ⟨z7, z4, z5, z6, ⟨s0, s1, s2, s3⟩, zk⟩
                go_simp
                (try with_reducible rfl)
              simp only [Act.put, List.setIfInBounds_toArray, List.set_cons_zero, List.set_cons_succ]
              refine held_take (i := 9) (v := ?_) rfl rfl (by kernel_rfl) (by kernel_rfl) (by kernel_rfl) (fun _ _ _ h => h) (by rfl) hHeld ?_ ?_
              rotate_left
              · rintro wh ⟨z7, z4, z5, z6, ⟨s0, s1, s2, s3⟩, zk⟩
                go_simp
                (try with_reducible rfl)
              simp only [Act.put, List.setIfInBounds_toArray, List.set_cons_zero, List.set_cons_succ]
              refine held_take (i := 10) (v := ?_) rfl rfl (by kernel_rfl) (by kernel_rfl) (by kernel_rfl) (fun _ _ _ h => h) (by rfl) hHeld ?_ ?_
              rotate_left
              · rintro wh ⟨z7, z4, z5, z6, ⟨s0, s1, s2, s3⟩, zk⟩
                go_simp
                (try with_reducible rfl)
              simp only [Act.put, List.setIfInBounds_toArray, List.set_cons_zero, List.set_cons_succ]
              refine held_take (i := 11) (v := ?_) rfl rfl (by kernel_rfl) (by kernel_rfl) (by kernel_rfl) (fun _ _ _ h => h) (by rfl) hHeld ?_ ?_
              rotate_left
              · rintro wh ⟨z7, z4, z5, z6, ⟨s0, s1, s2, s3⟩, zk⟩
                go_simp
                (try with_reducible rfl)
              simp only [Act.put, List.setIfInBounds_toArray, List.set_cons_zero, List.set_cons_succ]
              refine held_take (i := 12) (v := ?_) rfl rfl (by kernel_rfl) (by kernel_rfl) (by kernel_rfl) (fun _ _ _ h => h) (by rfl) hHeld ?_ ?_
              rotate_left
              · rintro wh ⟨z7, z4, z5, z6, ⟨s0, s1, s2, s3⟩, zk⟩
                go_simp
                (try with_reducible rfl)
              simp only [Act.put, List.setIfInBounds_toArray, List.set_cons_zero, List.set_cons_succ]
              refine held_take (i := 13) (v := ?_) rfl rfl (by kernel_rfl) (by kernel_rfl) (by kernel_rfl) (fun _ _ _ h => h) (by rfl) hHeld ?_ ?_
              rotate_left
              · rintro wh ⟨z7, z4, z5, z6, ⟨s0, s1, s2, s3⟩, zk⟩
                go_simp
                (try with_reducible rfl)
              simp only [Act.put, List.setIfInBounds_toArray, List.set_cons_zero, List.set_cons_succ]
              refine held_take (i := 14) (v := ?_) rfl rfl (by kernel_rfl) (by kernel_rfl) (by kernel_rfl) (fun _ _ _ h => h) (by rfl) hHeld ?_ ?_
              rotate_left
              · rintro wh ⟨z7, z4, z5, z6, ⟨s0, s1, s2, s3⟩, zk⟩
                go_simp
                (try with_reducible rfl)
              simp only [Act.put, List.setIfInBounds_toArray, List.set_cons_zero, List.set_cons_succ]
              refine held_take (i := 15) (v := ?_) rfl rfl (by kernel_rfl) (by kernel_rfl) (by kernel_rfl) (fun _ _ _ h => h) (by rfl) hHeld ?_ ?_
              rotate_left
              · rintro wh ⟨z7, z4, z5, z6, ⟨s0, s1, s2, s3⟩, zk⟩
                go_simp
                (try with_reducible rfl)
              simp only [Act.put, List.setIfInBounds_toArray, List.set_cons_zero, List.set_cons_succ]
              refine held_take (i := 16) (v := ?_) rfl rfl (by kernel_rfl) (by kernel_rfl) (by kernel_rfl) (fun _ _ _ h => h) (by rfl) hHeld ?_ ?_
              rotate_left
              · rintro wh ⟨z7, z4, z5, z6, ⟨s0, s1, s2, s3⟩, zk⟩
                go_simp
                (try with_reducible rfl)
              simp only [Act.put, List.setIfInBounds_toArray, List.set_cons_zero, List.set_cons_succ]
              refine held_take (i := 17) (v := ?_) rfl rfl (by kernel_rfl) (by kernel_rfl) (by kernel_rfl) (fun _ _ _ h => h) (by rfl) hHeld ?_ ?_
              rotate_left
              · rintro wh ⟨z7, z4, z5, z6, ⟨s0, s1, s2, s3⟩, zk⟩
                go_simp
                (try with_reducible rfl)
              simp only [Act.put, List.setIfInBounds_toArray, List.set_cons_zero, List.set_cons_succ]
              refine held_take (i := 18) (v := ?_) rfl rfl (by kernel_rfl) (by kernel_rfl) (by kernel_rfl) (fun _ _ _ h => h) (by rfl) hHeld ?_ ?_
              rotate_left
              · rintro wh ⟨z7, z4, z5, z6, ⟨s0, s1, s2, s3⟩, zk⟩
                go_simp
                (try with_reducible rfl)
              simp only [Act.put, List.setIfInBounds_toArray, List.set_cons_zero, List.set_cons_succ]
              refine held_take (i := 20) (v := ?_) rfl rfl (by kernel_rfl) (by kernel_rfl) (by kernel_rfl) (fun _ _ _ h => h) (by rfl) hHeld ?_ ?_
              rotate_left
              · rintro wh ⟨z7, z4, z5, z6, ⟨s0, s1, s2, s3⟩, zk⟩
                go_simp
                (try with_reducible rfl)
              simp only [Act.put, List.setIfInBounds_toArray, List.set_cons_zero, List.set_cons_succ]
              refine held_take (i := 22) (v := ?_) rfl rfl (by kernel_rfl) (by kernel_rfl) (by kernel_rfl) (fun _ _ _ h => h) (by rfl) hHeld ?_ ?_
              rotate_left
              · rintro wh ⟨z7, z4, z5, z6, ⟨s0, s1, s2, s3⟩, zk⟩
                go_simp
                (try with_reducible rfl)
              simp only [Act.put, List.setIfInBounds_toArray, List.set_cons_zero, List.set_cons_succ]
              refine held_take (i := 23) (v := ?_) rfl rfl (by kernel_rfl) (by kernel_rfl) (by kernel_rfl) (fun _ _ _ h => h) (by rfl) hHeld ?_ ?_
              rotate_left
              · rintro wh ⟨z7, z4, z5, z6, ⟨s0, s1, s2, s3⟩, zk⟩
                go_simp
                (try with_reducible rfl)
              simp only [Act.put, List.setIfInBounds_toArray, List.set_cons_zero, List.set_cons_succ]
              refine held_take (i := 24) (v := ?_) rfl rfl (by kernel_rfl) (by kernel_rfl) (by kernel_rfl) (fun _ _ _ h => h) (by rfl) hHeld ?_ ?_
              rotate_left
              · rintro wh ⟨z7, z4, z5, z6, ⟨s0, s1, s2, s3⟩, zk⟩
                go_simp
                (try with_reducible rfl)
              simp only [Act.put, List.setIfInBounds_toArray, List.set_cons_zero, List.set_cons_succ]
              refine held_call (i := 5) rfl (by kernel_rfl) (by rfl) (fun K hK => ?_)
              (go_simp; go_at_call 134; refine (kA _).mono ?_; rintro e w1 ⟨rfl, hb1⟩; have HV1 := Lib.hid (HVd.out.later hb1); have HA1 := Lib.hid (HAd.out.later hb1 (by show gA < wr.heap.size; omega)); have HW1 := Lib.hid (HWd.out.later hb1))
              refine hK.out _ _ (HCS.out _ HV1.out HA1.out HW1.out) (fun hHeld => ?_)
              clear hK K
              (try simp only [Act.put, List.setIfInBounds_toArray, List.set_cons_zero, List.set_cons_succ])
              refine held_take (i := 6) (v := ?_) rfl rfl (by kernel_rfl) (by kernel_rfl) (by kernel_rfl) (fun _ _ _ h => h) (by rfl) hHeld ?_ ?_
              rotate_left
              · rintro wh ⟨z7, z4, z5, z6, ⟨s0, s1, s2, s3⟩, zk⟩
                go_simp
                (try with_reducible rfl)
              simp only [Act.put, List.setIfInBounds_toArray, List.set_cons_zero, List.set_cons_succ]
              refine held_take (i := 19) (v := ?_) rfl rfl (by kernel_rfl) (by kernel_rfl) (by kernel_rfl) (fun _ _ _ h => h) (by rfl) hHeld ?_ ?_
              rotate_left
              · rintro wh ⟨z7, z4, z5, z6, ⟨s0, s1, s2, s3⟩, zk⟩
                go_simp
                (try with_reducible rfl)
              simp only [Act.put, List.setIfInBounds_toArray, List.set_cons_zero, List.set_cons_succ]
              refine held_take (i := 21) (v := ?_) rfl rfl (by kernel_rfl) (by kernel_rfl) (by kernel_rfl) (fun _ _ _ h => h) (by rfl) hHeld ?_ ?_
              rotate_left
              · rintro wh ⟨z7, z4, z5, z6, ⟨s0, s1, s2, s3⟩, zk⟩
                go_simp
                (try with_reducible rfl)
              simp only [Act.put, List.setIfInBounds_toArray, List.set_cons_zero, List.set_cons_succ]
              refine held_take (i := 25) (v := ?_) rfl rfl (by kernel_rfl) (by kernel_rfl) (by kernel_rfl) (fun _ _ _ h => h) (by rfl) hHeld ?_ ?_
              rotate_left
              · rintro wh ⟨z7, z4, z5, z6, ⟨s0, s1, s2, s3⟩, zk⟩
                go_simp
                (try with_reducible rfl)
              simp only [Act.put, List.setIfInBounds_toArray, List.set_cons_zero, List.set_cons_succ]
              refine held_take (i := 26) (v := ?_) rfl rfl (by kernel_rfl) (by kernel_rfl) (by kernel_rfl) (fun _ _ _ h => h) (by rfl) hHeld ?_ ?_
              rotate_left
              · rintro wh ⟨z7, z4, z5, z6, ⟨s0, s1, s2, s3⟩, zk⟩
                go_simp
                (try with_reducible rfl)
              simp only [Act.put, List.setIfInBounds_toArray, List.set_cons_zero, List.set_cons_succ]
              refine wpAnyH_done (by kernel_rfl) ?_ _
              clear e1 e2 e3 e4 e5 e6 e7 e8
              have hlt1 := Nat.lt_of_lt_of_le hlt3 hb1.size
              have HN1 := Lib.hid (HN.out.later (bl_drewN (Below.refl wr.heap.size wr) 1) (by omega) |>.later hb1 (by show gA + 1 < wr.heap.size; omega))
              have HS1 := Lib.hid ((HS3.out.later (bl_drewN (Below.refl wr.heap.size wr) 1)).later hb1)
              have hbr1 := (hbr.drew).trans (hb1.mono hbr.size)
              have HNd : Hid (C4 (gA + 1) (.int .i64 2) (.int .i64 13) (.int .i64 22) (.int .i64 0) w1.drew) := HN1.out
              have HV1d : Hid (VAt w1.drew (gA + 1 + 1) [x0, x1, x2, x3, x4, x5, x6, x7]) := HV1.out
              have hcs2 : ∀ W, VAt W (gA + 1 + 1) [x0, x1, x2, x3, x4, x5, x6, x7] → C4 (gA + 1) (.int .i64 2) (.int .i64 13) (.int .i64 22) (.int .i64 0) W →
                  W.cell? ⟨gA + 1 + 1, 0, none⟩ = some (V32 x0) ∧ W.cell? ⟨gA + 1 + 1, 1, none⟩ = some (V32 x1) ∧ W.cell? ⟨gA + 1 + 1, 2, none⟩ = some (V32 x2) ∧ C4 (gA + 1) (.int .i64 2) (.int .i64 13) (.int .i64 22) (.int .i64 0) W := fun W h1 h2 => ⟨h1.cell 0 _ rfl, h1.cell 1 _ rfl, h1.cell 2 _ rfl, h2⟩
              have HC2 := Lib.hid hcs2
              clear hcs2 hHeld HV HA HN HS3 HW hbr kA HCS HVd HAd HWd hidx
              go_wp2
              refine wp_region_held_drew (S := (fun w' => w'.cell? ⟨gA + 1 + 1, 0, none⟩ = some (V32 x0) ∧ w'.cell? ⟨gA + 1 + 1, 1, none⟩ = some (V32 x1) ∧ w'.cell? ⟨gA + 1 + 1, 2, none⟩ = some (V32 x2) ∧ C4 (gA + 1) (.int .i64 2) (.int .i64 13) (.int .i64 22) (.int .i64 0) w')) (by kernel_rfl) (HC2.out _ HV1d.out HNd.out) (fun hHeld => ?_)
              refine held_take (i := 0) (v := ?_) rfl rfl (by kernel_rfl) (by kernel_rfl) (by kernel_rfl) (fun _ _ _ h => h) (by rfl) hHeld ?_ ?_
              rotate_left
              · rintro wh ⟨z0, z1, z2, ⟨s0, s1, s2, s3⟩⟩
                go_simp
                (try with_reducible rfl)
              simp only [Act.put, List.setIfInBounds_toArray, List.set_cons_zero, List.set_cons_succ]
              refine held_take (i := 1) (v := ?_) rfl rfl (by kernel_rfl) (by kernel_rfl) (by kernel_rfl) (fun _ _ _ h => h) (by rfl) hHeld ?_ ?_
              rotate_left
              · rintro wh ⟨z0, z1, z2, ⟨s0, s1, s2, s3⟩⟩
                go_simp
                (try with_reducible rfl)
              simp only [Act.put, List.setIfInBounds_toArray, List.set_cons_zero, List.set_cons_succ]
              refine held_take (i := 2) (v := ?_) rfl rfl (by kernel_rfl) (by kernel_rfl) (by kernel_rfl) (fun _ _ _ h => h) (by rfl) hHeld ?_ ?_
              rotate_left
              · rintro wh ⟨z0, z1, z2, ⟨s0, s1, s2, s3⟩⟩
                go_simp
                (try with_reducible rfl)
              simp only [Act.put, List.setIfInBounds_toArray, List.set_cons_zero, List.set_cons_succ]
              refine held_take (i := 4) (v := ?_) rfl rfl (by kernel_rfl) (by kernel_rfl) (by kernel_rfl) (fun _ _ _ h => h) (by rfl) hHeld ?_ ?_
              rotate_left
              · rintro wh ⟨z0, z1, z2, ⟨s0, s1, s2, s3⟩⟩
                go_simp
                (try with_reducible rfl)
              simp only [Act.put, List.setIfInBounds_toArray, List.set_cons_zero, List.set_cons_succ]
              refine held_take (i := 5) (v := ?_) rfl rfl (by kernel_rfl) (by kernel_rfl) (by kernel_rfl) (fun _ _ _ h => h) (by rfl) hHeld ?_ ?_
              rotate_left
              · rintro wh ⟨z0, z1, z2, ⟨s0, s1, s2, s3⟩⟩
                go_simp
                (try with_reducible rfl)
              simp only [Act.put, List.setIfInBounds_toArray, List.set_cons_zero, List.set_cons_succ]
              refine held_take (i := 6) (v := ?_) rfl rfl (by kernel_rfl) (by kernel_rfl) (by kernel_rfl) (fun _ _ _ h => h) (by rfl) hHeld ?_ ?_
              rotate_left
              · rintro wh ⟨z0, z1, z2, ⟨s0, s1, s2, s3⟩⟩
                go_simp
                (try with_reducible rfl)
              simp only [Act.put, List.setIfInBounds_toArray, List.set_cons_zero, List.set_cons_succ]
              refine held_take (i := 7) (v := ?_) rfl rfl (by kernel_rfl) (by kernel_rfl) (by kernel_rfl) (fun _ _ _ h => h) (by rfl) hHeld ?_ ?_
              rotate_left
              · rintro wh ⟨z0, z1, z2, ⟨s0, s1, s2, s3⟩⟩
                go_simp
                (try with_reducible rfl)
              simp only [Act.put, List.setIfInBounds_toArray, List.set_cons_zero, List.set_cons_succ]
              refine held_take (i := 8) (v := ?_) rfl rfl (by kernel_rfl) (by kernel_rfl) (by kernel_rfl) (fun _ _ _ h => h) (by rfl) hHeld ?_ ?_
              rotate_left
              · rintro wh ⟨z0, z1, z2, ⟨s0, s1, s2, s3⟩⟩
                go_simp
                (try with_reducible rfl)
              simp only [Act.put, List.setIfInBounds_toArray, List.set_cons_zero, List.set_cons_succ]
              refine held_take (i := 9) (v := ?_) rfl rfl (by kernel_rfl) (by kernel_rfl) (by kernel_rfl) (fun _ _ _ h => h) (by rfl) hHeld ?_ ?_
              rotate_left
              · rintro wh ⟨z0, z1, z2, ⟨s0, s1, s2, s3⟩⟩
                go_simp
                (try with_reducible rfl)
              simp only [Act.put, List.setIfInBounds_toArray, List.set_cons_zero, List.set_cons_succ]
              refine held_take (i := 10) (v := ?_) rfl rfl (by kernel_rfl) (by kernel_rfl) (by kernel_rfl) (fun _ _ _ h => h) (by rfl) hHeld ?_ ?_
              rotate_left
              · rintro wh ⟨z0, z1, z2, ⟨s0, s1, s2, s3⟩⟩
                go_simp
                (try with_reducible rfl)
              simp only [Act.put, List.setIfInBounds_toArray, List.set_cons_zero, List.set_cons_succ]
              refine held_take (i := 11) (v := ?_) rfl rfl (by kernel_rfl) (by kernel_rfl) (by kernel_rfl) (fun _ _ _ h => h) (by rfl) hHeld ?_ ?_
              rotate_left
              · rintro wh ⟨z0, z1, z2, ⟨s0, s1, s2, s3⟩⟩
                go_simp
                (try with_reducible rfl)
              simp only [Act.put, List.setIfInBounds_toArray, List.set_cons_zero, List.set_cons_succ]
              refine held_take (i := 12) (v := ?_) rfl rfl (by kernel_rfl) (by kernel_rfl) (by kernel_rfl) (fun _ _ _ h => h) (by rfl) hHeld ?_ ?_
              rotate_left
              · rintro wh ⟨z0, z1, z2, ⟨s0, s1, s2, s3⟩⟩
                go_simp
                (try with_reducible rfl)
              simp only [Act.put, List.setIfInBounds_toArray, List.set_cons_zero, List.set_cons_succ]
              refine held_take (i := 13) (v := ?_) rfl rfl (by kernel_rfl) (by kernel_rfl) (by kernel_rfl) (fun _ _ _ h => h) (by rfl) hHeld ?_ ?_
              rotate_left
              · rintro wh ⟨z0, z1, z2, ⟨s0, s1, s2, s3⟩⟩
                go_simp
                (try with_reducible rfl)
              simp only [Act.put, List.setIfInBounds_toArray, List.set_cons_zero, List.set_cons_succ]
              refine held_take (i := 14) (v := ?_) rfl rfl (by kernel_rfl) (by kernel_rfl) (by kernel_rfl) (fun _ _ _ h => h) (by rfl) hHeld ?_ ?_
              rotate_left
              · rintro wh ⟨z0, z1, z2, ⟨s0, s1, s2, s3⟩⟩
                go_simp
                (try with_reducible rfl)
              simp only [Act.put, List.setIfInBounds_toArray, List.set_cons_zero, List.set_cons_succ]
              refine held_take (i := 15) (v := ?_) rfl rfl (by kernel_rfl) (by kernel_rfl) (by kernel_rfl) (fun _ _ _ h => h) (by rfl) hHeld ?_ ?_
              rotate_left
              · rintro wh ⟨z0, z1, z2, ⟨s0, s1, s2, s3⟩⟩
                go_simp
                (try with_reducible rfl)
              simp only [Act.put, List.setIfInBounds_toArray, List.set_cons_zero, List.set_cons_succ]
              refine held_take (i := 16) (v := ?_) rfl rfl (by kernel_rfl) (by kernel_rfl) (by kernel_rfl) (fun _ _ _ h => h) (by rfl) hHeld ?_ ?_
              rotate_left
              · rintro wh ⟨z0, z1, z2, ⟨s0, s1, s2, s3⟩⟩
                go_simp
                (try with_reducible rfl)
              simp only [Act.put, List.setIfInBounds_toArray, List.set_cons_zero, List.set_cons_succ]
              refine held_take (i := 17) (v := ?_) rfl rfl (by kernel_rfl) (by kernel_rfl) (by kernel_rfl) (fun _ _ _ h => h) (by rfl) hHeld ?_ ?_
              rotate_left
              · rintro wh ⟨z0, z1, z2, ⟨s0, s1, s2, s3⟩⟩
                go_simp
                (try with_reducible rfl)
              simp only [Act.put, List.setIfInBounds_toArray, List.set_cons_zero, List.set_cons_succ]
              refine held_take (i := 18) (v := ?_) rfl rfl (by kernel_rfl) (by kernel_rfl) (by kernel_rfl) (fun _ _ _ h => h) (by rfl) hHeld ?_ ?_
              rotate_left
              · rintro wh ⟨z0, z1, z2, ⟨s0, s1, s2, s3⟩⟩
                go_simp
                (try with_reducible rfl)
              simp only [Act.put, List.setIfInBounds_toArray, List.set_cons_zero, List.set_cons_succ]
              refine held_take (i := 19) (v := ?_) rfl rfl (by kernel_rfl) (by kernel_rfl) (by kernel_rfl) (fun _ _ _ h => h) (by rfl) hHeld ?_ ?_
              rotate_left
              · rintro wh ⟨z0, z1, z2, ⟨s0, s1, s2, s3⟩⟩
                go_simp
                (try with_reducible rfl)
              simp only [Act.put, List.setIfInBounds_toArray, List.set_cons_zero, List.set_cons_succ]
              refine held_take (i := 20) (v := ?_) rfl rfl (by kernel_rfl) (by kernel_rfl) (by kernel_rfl) (fun _ _ _ h => h) (by rfl) hHeld ?_ ?_
              rotate_left
              · rintro wh ⟨z0, z1, z2, ⟨s0, s1, s2, s3⟩⟩
                go_simp
                (try with_reducible rfl)
              simp only [Act.put, List.setIfInBounds_toArray, List.set_cons_zero, List.set_cons_succ]
              refine held_call (i := 3) rfl (by kernel_rfl) (by rfl) (fun K hK => ?_)
              (go_simp; go_at_call 134; refine (kN _).mono ?_; rintro e w2 ⟨rfl, hb2⟩; have HV2 := Lib.hid (HV1d.out.later hb2); have HN2 := Lib.hid (HNd.out.later hb2 (by show gA + 1 < w1.heap.size; omega)))
              refine hK.out _ _ (HC2.out _ HV2.out HN2.out) (fun hHeld => ?_)
              clear hK K
              (try simp only [Act.put, List.setIfInBounds_toArray, List.set_cons_zero, List.set_cons_succ])
              refine held_take (i := 21) (v := ?_) rfl rfl (by kernel_rfl) (by kernel_rfl) (by kernel_rfl) (fun _ _ _ h => h) (by rfl) hHeld ?_ ?_
              rotate_left
              · rintro wh ⟨z0, z1, z2, ⟨s0, s1, s2, s3⟩⟩
                go_simp
                (try with_reducible rfl)
              simp only [Act.put, List.setIfInBounds_toArray, List.set_cons_zero, List.set_cons_succ]
              refine held_take (i := 22) (v := ?_) rfl rfl (by kernel_rfl) (by kernel_rfl) (by kernel_rfl) (fun _ _ _ h => h) (by rfl) hHeld ?_ ?_
              rotate_left
              · rintro wh ⟨z0, z1, z2, ⟨s0, s1, s2, s3⟩⟩
                go_simp
                (try with_reducible rfl)
              simp only [Act.put, List.setIfInBounds_toArray, List.set_cons_zero, List.set_cons_succ]
              refine wpAnyH_done (by kernel_rfl) ?_ _
              clear f1 f2 f3 f4 f5 f6
              have hlt2 := Nat.lt_of_lt_of_le hlt1 hb2.size
              have HA2 := Lib.hid (HA1.out.later (bl_drewN (Below.refl w1.heap.size w1) 1) (by omega) |>.later hb2 (by show gA < w1.heap.size; omega))
              have HW2 := Lib.hid ((HW1.out.later (bl_drewN (Below.refl w1.heap.size w1) 1)).later hb2)
              have HS2 := Lib.hid ((HS1.out.later (bl_drewN (Below.refl w1.heap.size w1) 1)).later hb2)
              have hbr2 := (hbr1.drew).trans (hb2.mono hbr1.size)
              clear hHeld HV1 HA1 HN1 HS1 HW1 hbr1 kN HC2 HNd HV1d hb1 hb2 hlt3 hlt1
              have HV2d : Hid (VAt w2.drew (gA + 1 + 1) [x0, x1, x2, x3, x4, x5, x6, x7]) := HV2.out
              have hv2h := HV2d.out.2
              have HV2s := Lib.hid HV2d.out.src
              have HH2 := Lib.hid hv2h
              clear hv2h
              go_wp2
              refine wp_region_held_drew (S := (fun _ => True)) (by kernel_rfl) trivial (fun hHeld => ?_)
              refine held_take (i := 0) (v := ?_) rfl rfl (by kernel_rfl) (by kernel_rfl) (by kernel_rfl) (fun _ _ _ h => h) (by rfl) hHeld ?_ ?_
              rotate_left
              · rintro wh _
                go_simp
                (try with_reducible rfl)
              simp only [Act.put, List.setIfInBounds_toArray, List.set_cons_zero, List.set_cons_succ]
              refine held_take (i := 1) (v := ?_) rfl rfl (by kernel_rfl) (by kernel_rfl) (by kernel_rfl) (fun _ _ _ h => h) (by rfl) hHeld ?_ ?_
              rotate_left
              · rintro wh _
                go_simp
                (try with_reducible rfl)
              simp only [Act.put, List.setIfInBounds_toArray, List.set_cons_zero, List.set_cons_succ]
              refine held_step (i := 2) rfl (by kernel_rfl) (fun K hK => ?_)
              (refine step_copy_splice rfl (.tmp 146) (.tmp 147) 191 191 rfl 34 Tryz.underlying191 (by kernel_rfl) (some ⟨gA + 1 + 1, 1, none⟩) (some ⟨gA + 1 + 1, 0, none⟩) 7 7 7 8 rfl rfl (gA + 1 + 1) 1 [V32 x0, V32 x1, V32 x2, V32 x3, V32 x4, V32 x5, V32 x6, V32 x7] 157 HH2.out [V32 x0, V32 x1, V32 x2, V32 x3, V32 x4, V32 x5, V32 x6] rfl (fun _ => ⟨rfl, _, rfl, HV2s.out⟩) (by simp) (by simp [Value.oneCell']) (gA + 1 + 1) w2 ((Below.refl _ _).drew) (Nat.le_refl _) ?_; intro w4 hg4 hb4)
              refine hK.out _ _ trivial (fun hHeld => ?_)
              clear hK K
              (try simp only [Act.put, List.setIfInBounds_toArray])
              refine wpAnyH_done (by kernel_rfl) ?_ _
              have HV4 : Hid (VAt w4 (gA + 1 + 1) [x0, x0, x1, x2, x3, x4, x5, x6]) := ⟨rfl, hg4.out⟩
              have HA4 := Lib.hid (HA2.out.of_heap (hb4.block gA (by omega)))
              have HN4 := Lib.hid (HN2.out.of_heap (hb4.block (gA + 1) (by omega)))
              have HW4 := Lib.hid (HW2.out.of_heap (hb4.block w.heap.size (by omega)))
              have HS4 := Lib.hid (HS2.out.of_heap (hb4.block p (by omega)))
              have hlt4 := Nat.lt_of_lt_of_le hlt2 hb4.size
              have hbr4 := hbr2.trans (hb4.mono (by omega))
              have d4 := HV4.out.cell 4 x3 rfl
              have f4 := HV4.out.free 4
              have HV5 := Lib.hid (HV4.out.put 4 ((x3 + T) % 4294967296))
              clear hHeld HV2 HA2 HN2 HW2 HS2 HV2d HV2s HH2 hg4 hb4 hbr2 hlt2
              go_upto_region 20 with fail
              have HA5 := Lib.hid (HA4.out.of_heap (heap_else w4 (gA + 1 + 1) 4 gA (V32 ((x3 + T) % 4294967296)) (by omega)))
              have HN5 := Lib.hid (HN4.out.of_heap (heap_else w4 (gA + 1 + 1) 4 (gA + 1) (V32 ((x3 + T) % 4294967296)) (by omega)))
              have HW5 := Lib.hid (HW4.out.of_heap (heap_else w4 (gA + 1 + 1) 4 w.heap.size (V32 ((x3 + T) % 4294967296)) (by omega)))
              have HS5 := Lib.hid (HS4.out.of_heap (heap_else w4 (gA + 1 + 1) 4 p (V32 ((x3 + T) % 4294967296)) (by omega)))
              have hbr5 := hbr4.trans (below_setCell (B := w.heap.size) w4 (gA + 1 + 1) 4 (V32 ((x3 + T) % 4294967296)) (by omega))
              have hlt5 : gA + 1 + 1 < (w4.setCell ⟨gA + 1 + 1, 4, none⟩ (V32 ((x3 + T) % 4294967296))).heap.size := by rw [World.size_setCell]; exact hlt4
              clear d4 f4 HV4 HA4 HN4 HW4 HS4 hbr4 hlt4
              generalize w4.setCell ⟨gA + 1 + 1, 4, none⟩ (V32 ((x3 + T) % 4294967296)) = w5 at *
              have d0 := HV5.out.cell 0 x0 rfl
              have f0 := HV5.out.free 0
              have HV6 : Hid (VAt (w5.setCell ⟨gA + 1 + 1, 0, none⟩ (V32 ((T + U) % 4294967296))) (gA + 1 + 1) (roundsL WL [h0, h1, h2, h3, h4, h5, h6, h7] (k + 1))) := by rw [HR.out]; exact HV5.out.put 0 ((T + U) % 4294967296)
              have HA6 := Lib.hid (HA5.out.of_heap (heap_else w5 (gA + 1 + 1) 0 gA (V32 ((T + U) % 4294967296)) (by omega)))
              have HN6 := Lib.hid (HN5.out.of_heap (heap_else w5 (gA + 1 + 1) 0 (gA + 1) (V32 ((T + U) % 4294967296)) (by omega)))
              have HW6 := Lib.hid (HW5.out.of_heap (heap_else w5 (gA + 1 + 1) 0 w.heap.size (V32 ((T + U) % 4294967296)) (by omega)))
              have HS6 := Lib.hid (HS5.out.of_heap (heap_else w5 (gA + 1 + 1) 0 p (V32 ((T + U) % 4294967296)) (by omega)))
              have hbr6 := hbr5.trans (below_setCell (B := w.heap.size) w5 (gA + 1 + 1) 0 (V32 ((T + U) % 4294967296)) (by omega))
              have hlt6 : gA + 1 + 1 < (w5.setCell ⟨gA + 1 + 1, 0, none⟩ (V32 ((T + U) % 4294967296))).heap.size := by rw [World.size_setCell]; exact hlt5
              clear HV5 HA5 HN5 HW5 HS5 hbr5 hlt5
              go_wp2
              go_roundw
              case rel => exact ⟨k + 1, by omega, by go_num, HW6, HV6, HA6, HN6, HS6, hlt6, hbr6⟩
              case measure => (simp [intOf]; try omega)
            · obtain rfl : k = 64 := by omega
              rw [show ((64 : Nat) : Int) = 64 from rfl]
              have HVl := HV.out.1
              obtain ⟨UL, hUL⟩ : ∃ u, roundsL WL [h0, h1, h2, h3, h4, h5, h6, h7] 64 = u := ⟨_, rfl⟩
              obtain ⟨VL, hVL⟩ : ∃ v, [h0, h1, h2, h3, h4, h5, h6, h7] = v := ⟨_, rfl⟩
              have HUL : Hid (blockL bs [h0, h1, h2, h3, h4, h5, h6, h7] = addL VL UL) := by show _ = _; unfold blockL; rw [HWL.out, hUL, hVL]
              rw [hUL] at HV HVl
              rw [hVL] at HS3
              have hg := below_grown hbr (some p)
              have HVg := Lib.hid HV.out
              have HSg : Hid (SumAt wr p (partL VL UL 0) rv cnt) := by rw [partL_zero HS3.out.1]; exact HS3
              have hgvp : gA + 1 + 1 ≠ p := by omega
              clear HV HS3 HW HA HN hUL hVL hbr
              go_wp2
              go_loopw [159] (fun i wr => ∃ k : Nat, k ≤ 8 ∧ i = .int .i64 k ∧ Hid (SumAt wr p (partL VL UL k) rv cnt) ∧ Hid (VAt wr (gA + 1 + 1) UL) ∧ w.grownBy wr (some p)) (fun i _ => 8 - (intOf i).toNat)
              case atStart => exact ⟨0, Nat.zero_le _, rfl, HSg, HVg, hg⟩
              case round =>
                obtain ⟨k, hk, rfl, HS, HV, hg⟩ := hrel
                by_cases hkl : k < 8
                · obtain ⟨x, hx⟩ : ∃ x, VL.getD k 0 = x := ⟨_, rfl⟩
                  obtain ⟨y, hy⟩ : ∃ y, UL.getD k 0 = y := ⟨_, rfl⟩
                  obtain ⟨z, hz⟩ : ∃ z, (x + y) % 4294967296 = z := ⟨_, rfl⟩
                  have HN : Hid ((partL VL UL k).set k z = partL VL UL (k + 1)) := by show _ = _; rw [← hz, ← hx, ← hy]; exact partL_succ VL UL k hkl
                  have c1 : wr.cell? ⟨p, k, none⟩ = some (V32 x) := by rw [HS.out.word k hkl, partL_at _ _ k hkl, hx]
                  have c2 : wr.cell? ⟨gA + 1 + 1, k, none⟩ = some (V32 y) := HV.out.cell k y (by rw [← hy, List.getD_eq_getElem?_getD, List.getElem?_eq_getElem (by rw [HV.out.1]; exact hkl)]; rfl)
                  have hwz : IntKind.u32.wrap (x + y) = z := by rw [IntKind.wrap_u32']; exact hz
                  have hI : (k : Int) < 8 := by omega
                  clear hx hy hz
                  go_wp2
                  go_still_tail 13, (by kernel_rfl)
                  have HSd : Hid (SumAt wr.drew p (partL VL UL k) rv cnt) := HS.out
                  have HVd : Hid (VAt wr.drew (gA + 1 + 1) UL) := HV.out
                  have hgd : w.grownBy wr.drew (some p) := grown_two hg (below_grown ((Below.refl _ _).drew) (some p))
                  change wpList _ _ _ _ _ wr.drew
                  clear HS HV hg c2
                  have c1 : wr.drew.cell? ⟨p, k, none⟩ = some (V32 x) := c1
                  generalize wr.drew = w2 at *
                  have f1 := HSd.out.free k
                  have HS2 : Hid (SumAt (w2.setCell ⟨p, k, none⟩ (V32 z)) p (partL VL UL (k + 1)) rv cnt) := by rw [← HN.out]; exact HSd.out.put k hkl z
                  have HV2 := Lib.hid (HVd.out.of_heap (heap_else w2 p k (gA + 1 + 1) (V32 z) hgvp))
                  have hg2 := grown_two hgd (grown_setCell w2 p k (V32 z))
                  go_wp2
                  go_roundw
                  case rel => exact ⟨k + 1, by omega, by go_num, HS2, HV2, hg2⟩
                  case measure => (simp [intOf]; try omega)
                · obtain rfl : k = 8 := by omega
                  rw [partL_all] at HS
                  go_wp2
                  go_end0
                  exact ⟨rfl, by rw [HUL.out]; exact HS.out, hg⟩
end Go.Proofs.YtipnhpfpppblhaaGreat

/- digest.Sum.Add: a contract. -/
namespace Go.Proofs.YtipnhpfpppblhaaGreat
open Go.RowKit
abbrev V8 (x : Int) : Value := .int .u8 x
def ByteL (bs : List Int) : Prop := ∀ x ∈ bs, 0 ≤ x ∧ x < 256
theorem v8_cells (z : List Int) : ∀ y ∈ z.map V8, y.oneCell' = true := by
  intro y hy
  obtain ⟨x, _, rfl⟩ := List.mem_map.1 hy
  rfl
def ByAt (w : World) (v : Value) (l : List Int) : Prop := RdAt w v l.length 1 (l.map V8)
theorem ByAt.later {w w' : World} {v : Value} {l : List Int} (h : ByAt w v l) (hb : Below w.heap.size w w') : ByAt w' v l := RdAt.later h hb
def blocksL (V bs : List Int) : Nat → List Int
  | 0 => V
  | k + 1 => blockL ((bs.drop (64 * k)).take 64) (blocksL V bs k)
theorem info_u8 : (Tryz.prog.info? 5).map (fun i => (i.zero, i.size, i.bytes)) = some (some (.int .u8 0), 1, 1) := by kernel_rfl
theorem by_block {w : World} {v : Value} {l : List Int} (h : ByAt w v l) (h0 : 64 ≤ l.length) (hB : ByteL l) : ∃ b o c, v = .slice (some ⟨b, o, none⟩) l.length c ∧ l.length ≤ c ∧ b < w.heap.size ∧ Bytes8 w ⟨b, o, none⟩ (l.take 64) ∧
    ∀ j x, l[j]? = some x → w.cell? ⟨b, o + j, none⟩ = some (V8 x) := by
  obtain ⟨b, o, c, hv, hc, hlt, hcell⟩ := RdAt.some h (by omega)
  have hx : ∀ j x, l[j]? = some x → w.cell? ⟨b, o + j, none⟩ = some (V8 x) := fun j x hx => hcell j _ (by rw [List.getElem?_map, hx]; rfl)
  refine ⟨b, o, c, hv, hc, hlt, ⟨b, o, rfl, hlt, fun j hj => ?_⟩, hx⟩
  have hj' : j < l.length := by rw [List.length_take] at hj; omega
  rw [List.getElem_take]
  exact ⟨hx j _ (List.getElem?_eq_getElem hj'), hB _ (List.getElem_mem hj')⟩
theorem SumAt.setCount {w : World} {p : Nat} {V : List Int} {rv : Value} {cnt : Int} (h : SumAt w p V rv cnt) (c : Int) : SumAt (w.setCell ⟨p, 9, none⟩ (.int .i64 c)) p V rv c := by
  refine ⟨h.1, ?_⟩
  rw [heap_setCell_same w p 9 _ _ _ h.2]
  have hl := h.1
  match V, hl with
  | [x0, x1, x2, x3, x4, x5, x6, x7], _ => rfl
theorem SumAt.setRest {w : World} {p : Nat} {V : List Int} {rv : Value} {cnt : Int} (h : SumAt w p V rv cnt) (r : Value) : SumAt (w.setCell ⟨p, 8, none⟩ r) p V r cnt := by
  refine ⟨h.1, ?_⟩
  rw [heap_setCell_same w p 8 _ _ _ h.2]
  have hl := h.1
  match V, hl with
  | [x0, x1, x2, x3, x4, x5, x6, x7], _ => rfl
def restLen (w : World) (p : Nat) : Nat := match w.cell? ⟨p, 8, none⟩ with | some (.slice _ n _) => n | _ => 0
theorem SumAt.restLen {w : World} {p : Nat} {V : List Int} {a : Option Addr} {n c : Nat} {cnt : Int} (h : SumAt w p V (.slice a n c) cnt) : Go.Proofs.YtipnhpfpppblhaaGreat.restLen w p = n := by
  unfold Go.Proofs.YtipnhpfpppblhaaGreat.restLen; rw [h.rest]
theorem row_apart {w : World} {base p : Nat} {e t : TypeId} {size n : Nat} {v : Value} {xs : List Value} {cs : Array Value} {fr : Nat × Nat} (h : w.ownsRow base e size v n xs) (hp : w.heap[p]? = some (.cells cs t fr)) (hne : e ≠ t) : v.ownBlock ≠ some p := by
  rcases h.2 with ⟨rfl, _⟩ | ⟨g, cap, cur, rfl, _, hg, _⟩
  · simp [Value.ownBlock]
  · intro hk
    have : g = p := by simpa [Value.ownBlock] using hk
    subst this
    rw [hg] at hp
    simp only [Option.some.injEq, Obj.cells.injEq] at hp
    exact hne hp.2.1
theorem rd_beside {w w' : World} {v : Value} {n k : Nat} {xs : List Value} {p : Nat} (h : RdAt w v n k xs) (hg : w.grownBy w' (some p)) (hne : v.ownBlock ≠ some p) : RdAt w' v n k xs := by
  refine ⟨h.1, ?_⟩
  rcases h.2 with h | ⟨a, c, rfl, hc, hr⟩
  · exact .inl h
  · refine .inr ⟨a, c, rfl, hc, fun hn => ?_⟩
    obtain ⟨b, o, rfl, hlt, hcell⟩ := hr hn
    refine ⟨b, o, rfl, Nat.lt_of_lt_of_le hlt hg.size, fun j x hx => ?_⟩
    rw [World.cell?_of_block (a := ⟨b, o + j, none⟩) (hg.block b hlt (fun e => hne (by rw [← e]; rfl)))]
    exact hcell j x hx
theorem below_row {w w' : World} {base p : Nat} (hg : w.grownBy w' (some p)) (hp : base ≤ p) (hs : base ≤ w.heap.size) : Below base w w' := (Below.refl base w).grown hg hs (fun k hk => by cases hk; exact hp)
set_option maxHeartbeats 3200000 in
set_option maxRecDepth 100000 in
theorem add_any (V rb bs : List Int) (cnt : Int) (rv v : Value) (p base : Nat) (w : World) (hS : SumAt w p V rv cnt) (hown : w.ownsRow base 5 1 rv rb.length (rb.map V8)) (hb : ByAt w v bs) (hB : ByteL (rb ++ bs))
    (hvp : v.ownBlock ≠ some p) (hbp : base ≤ p) (hbw : base ≤ w.heap.size) (hl : rb.length + bs.length ≤ 140737488355328) (hc : 0 ≤ cnt ∧ cnt + bs.length ≤ 4611686018427387904) :
    Calls Tryz.prog 106 #[.pointer (some ⟨p, 0, none⟩), v] w fun e w' => ∃ rv' k, e = .returned (.int .i64 (cnt + bs.length)) ∧ k = (rb ++ bs).length / 64 ∧ SumAt w' p (blocksL V (rb ++ bs) k) rv' (cnt + bs.length) ∧ ByAt w' rv' ((rb ++ bs).drop (64 * k)) ∧ Below base w w' := by
  obtain ⟨a, c, rfl, hcap, _⟩ := RdAt.shape hb
  obtain ⟨i0, hi, hz0, hz1, hz2⟩ := info_parts info_u8
  have hne1 : rv.ownBlock ≠ some p := row_apart hown hS.2 (by decide)
  have g9 := hS.count
  have f9 := hS.free 9
  have hS1 := hS.setCount (cnt + bs.length)
  have hg1 := grown_setCell w p 9 (.int .i64 (cnt + bs.length))
  have hown1 : (w.setCell ⟨p, 9, none⟩ (.int .i64 (cnt + bs.length))).ownsRow base 5 1 rv rb.length (rb.map V8) := hown.kept hg1 (.inr hne1)
  have hb1 : ByAt (w.setCell ⟨p, 9, none⟩ (.int .i64 (cnt + bs.length))) (.slice a bs.length c) bs := rd_beside hb hg1 hvp
  have hbl1 : Below base w (w.setCell ⟨p, 9, none⟩ (.int .i64 (cnt + bs.length))) := below_row hg1 hbp hbw
  have hww : (w.setCell ⟨p, 9, none⟩ (.int .i64 (cnt + bs.length))).heap.size = w.heap.size := World.size_setCell _ _ _
  have hcn : cnt + (bs.length : Int) ≤ 4611686018427387904 := hc.2
  have HB := Lib.hid hB
  clear hS hown hb hg1 hB
  go_enter Tryz.func106, Tryz.ntmps106
  go_upto_region 4 with fail
  clear g9 f9
  generalize w.setCell ⟨p, 9, none⟩ (.int .i64 (cnt + bs.length)) = w1 at *
  generalize hC : cnt + (bs.length : Int) = C at *
  have HC := Lib.hid hC
  clear hC
  have g8 := hS1.rest
  go_wp2_with (at_builtin; (refine wpList_append_rd rfl (.tmp 20) (.tmp 21) 100 rfl base 5 i0 (.int .u8 0) 1 1 Tryz.underlying100 hi hz0 hz1 hz2 rfl (by decide) _ _ _ rfl hown1 _ bs.length (bs.map V8) rfl hb1 (v8_cells bs) (by unfold maxLen; omega) (by omega) (by omega) ?_); intro v2 w2 hown2 hgrow2; obtain ⟨a2, c2, rfl, hc2, _⟩ := RdAt.shape (RdAt.own hown2); have hS2 := hS1.of_heap (hgrow2.block p hS1.lt (fun e => hne1 e.symm)); have g8 := hS2.rest; have f8 := hS2.free 8)
  have hne2 := row_apart hown2 hS2.2 (by decide)
  have hbl2 : Below base w w2 := hbl1.trans ((Below.refl base w1).grown hgrow2 (by omega) (fun k hk => (hown1.lt k hk).1))
  have hbs2 : base ≤ w2.heap.size := by have := hgrow2.size; omega
  have hS3 := hS2.setRest (.slice a2 (rb.length + bs.length) c2)
  have hg3 := grown_setCell w2 p 8 (.slice a2 (rb.length + bs.length) c2)
  have hrd3 := rd_beside (RdAt.own hown2) hg3 hne2
  have hbl3 : Below base w (w2.setCell ⟨p, 8, none⟩ (.slice a2 (rb.length + bs.length) c2)) := hbl2.trans (below_row hg3 hbp hbs2)
  have hbs3 : base ≤ (w2.setCell ⟨p, 8, none⟩ (.slice a2 (rb.length + bs.length) c2)).heap.size := by rw [World.size_setCell]; exact hbs2
  clear hS1 hS2 hown1 hown2 hgrow2 hbl1 hbl2 hbs2 hg3 g8 f8 hb1 hww
  generalize w2.setCell ⟨p, 8, none⟩ (.slice a2 (rb.length + bs.length) c2) = w3 at *
  obtain ⟨BS, hBS⟩ : ∃ l, rb ++ bs = l := ⟨_, rfl⟩
  have hBl : rb.length + bs.length = BS.length := by rw [← hBS, List.length_append]
  have hrd : ByAt w3 (.slice a2 BS.length c2) (BS.drop (64 * 0)) := by
    have e : rb.map V8 ++ bs.map V8 = BS.map V8 := by rw [← hBS, List.map_append]
    rw [hBl, e] at hrd3
    exact hrd3
  rw [hBl] at hS3 hne2
  rw [hBS] at HB
  have hSl : SumAt w3 p (blocksL V BS 0) (.slice a2 BS.length c2) C := hS3
  have hblen : Hid ((rb ++ bs) = BS) := Lib.hid hBS
  have hBl2 : BS.length ≤ 140737488355328 := by omega
  clear hrd3 hS3 hBS hBl
  have hrd0 : Hid (ByAt w3 (.slice a2 BS.length c2) (BS.drop (64 * 0))) := Lib.hid hrd
  have hSl0 := Lib.hid hSl
  clear hrd hSl
  go_wp2
  go_loopw [25] (fun _ wr => ∃ (k n c' : Nat) (a' : Option Addr), n + 64 * k = BS.length ∧ Hid (SumAt wr p (blocksL V BS k) (.slice a' n c') C) ∧ Hid (ByAt wr (.slice a' n c') (BS.drop (64 * k))) ∧ (Value.slice a' n c').ownBlock ≠ some p ∧ Below base w wr ∧ base ≤ wr.heap.size) (fun _ wr => restLen wr p)
  case atStart => exact ⟨0, BS.length, c2, a2, by omega, hSl0, hrd0, hne2, hbl3, hbs3⟩
  case round =>
    obtain ⟨k, n, c', a', hn, HS, HR, hne, hbl, hbs⟩ := hrel
    have hdl : (BS.drop (64 * k)).length = n := by rw [List.length_drop]; omega
    have hrl := HS.out.restLen
    have g8 := HS.out.rest
    by_cases h64 : 64 ≤ n
    · have hBk : ByteL (BS.drop (64 * k)) := fun x hx => HB.out x (List.mem_of_mem_drop hx)
      obtain ⟨b, o, c'', hv, hcc, hlt, h8, hcell⟩ := by_block HR.out (by omega) hBk
      rw [hdl] at hv hcc
      cases hv
      have hbp2 : b ≠ p := fun e => hne (by rw [e]; rfl)
      have hround := round_any ((BS.drop (64 * k)).take 64) (blocksL V BS k) p ⟨b, o, none⟩ c' wr (by rw [List.length_take]; omega) h8 (.slice (some ⟨b, o, none⟩) n c') C HS.out
      have hI1 : (64 : Int) ≤ (n : Int) := by omega
      have hI2 : (64 : Int) ≤ (c' : Int) := by omega
      have hI3 : (n : Int) ≤ (c' : Int) := by omega
      have HCELL := Lib.hid hcell
      clear hcell h8 hBk
      go_wp2_with fail
      refine hround.mono ?_
      rintro e w4 ⟨rfl, hS4, hg4⟩
      have hbl4 := hbl.trans (below_row hg4 hbp hbs)
      have hbs4 : base ≤ w4.heap.size := Nat.le_trans hbs hg4.size
      have g8' := hS4.rest
      have f8 := hS4.free 8
      have hb4 : b < w4.heap.size := Nat.lt_of_lt_of_le hlt hg4.size
      have hc4 : Hid (∀ j x, (BS.drop (64 * k))[j]? = some x → w4.cell? ⟨b, o + j, none⟩ = some (V8 x)) := Lib.hid (fun j x hx => by
        rw [World.cell?_of_block (a := ⟨b, o + j, none⟩) (hg4.block b hlt (fun e => hbp2 (by cases e; rfl)))]
        exact HCELL.out j x hx)
      have hst : ∀ (oa : Option Addr) (c9 : Nat), n - 64 ≤ c9 → (∃ a9, oa = some a9 ∧ (0 < n - 64 → a9 = ⟨b, o + 64, none⟩) ∧ a9.block = b) → (∃ (k n' c' : Nat) (a' : Option Addr), n' + 64 * k = BS.length ∧ Hid (SumAt (w4.setCell ⟨p, 8, none⟩ (.slice oa (n - 64) c9)) p (blocksL V BS k) (.slice a' n' c') C) ∧ Hid (ByAt (w4.setCell ⟨p, 8, none⟩ (.slice oa (n - 64) c9)) (.slice a' n' c') (BS.drop (64 * k))) ∧ (Value.slice a' n' c').ownBlock ≠ some p ∧ Below base w (w4.setCell ⟨p, 8, none⟩ (.slice oa (n - 64) c9)) ∧ base ≤ (w4.setCell ⟨p, 8, none⟩ (.slice oa (n - 64) c9)).heap.size) := by
        rintro oa c9 h9 ⟨a9, rfl, ha, hab⟩
        have hg9 := grown_setCell w4 p 8 (.slice (some a9) (n - 64) c9)
        refine ⟨k + 1, n - 64, c9, some a9, by omega, Lib.hid (hS4.setRest _), Lib.hid ?_, ?_, hbl4.trans (below_row hg9 hbp hbs4), by rw [World.size_setCell]; exact hbs4⟩
        · refine ⟨by simp, .inr ⟨a9, c9, by rw [List.length_drop]; congr 1; omega, by rw [List.length_drop]; omega, fun h0 => ?_⟩⟩
          rw [List.length_drop] at h0
          refine ⟨b, o + 64, ha (by omega), by rw [World.size_setCell]; exact hb4, fun j x hx => ?_⟩
          rw [World.cell?_of_block (a := ⟨b, o + 64 + j, none⟩) (hg9.block b hb4 (fun e => hbp2 (by cases e; rfl)))]
          rw [List.getElem?_map, Option.map_eq_some_iff] at hx
          obtain ⟨y, hy, rfl⟩ := hx
          have := hc4.out (64 + j) y (by rw [List.getElem?_drop] at hy ⊢; rw [← hy]; congr 1; omega)
          rw [Nat.add_assoc]; exact this
        · intro e
          have : a9.block = p := by simpa [Value.ownBlock] using e
          exact hbp2 (by rw [← hab, this])
      have HST := Lib.hid hst
      have hrl2 : ∀ (a9 : Option Addr) (c9 : Nat), Go.Proofs.YtipnhpfpppblhaaGreat.restLen (w4.setCell ⟨p, 8, none⟩ (.slice a9 (n - 64) c9)) p = n - 64 := fun a9 c9 => (hS4.setRest (.slice a9 (n - 64) c9)).restLen
      have HRL := Lib.hid hrl2
      clear hst hrl2 hS4 hg4 HS HR hround g8 hbl HCELL
      go_wp2
      go_roundw
      case rel => exact HST.out _ _ (by omega) (by split; exact ⟨_, rfl, fun h => by omega, rfl⟩; exact ⟨_, rfl, fun _ => rfl, rfl⟩)
      case measure => rw [HRL.out, hrl]; omega
    · have hI1 : (n : Int) < 64 := by omega
      have g9 := HS.out.count
      clear hrl
      go_wp2
      go_ret
      rw [HC.out, hblen.out]
      exact ⟨_, k, rfl, by omega, HS.out, HR.out, hbl⟩
end Go.Proofs.YtipnhpfpppblhaaGreat

/- digest.New, slices.Clone at bytes, digest.Sum.Now: contracts. -/
namespace Go.Proofs.YtipnhpfpppblhaaGreat
open Go.RowKit
set_option maxHeartbeats 800000 in
theorem new_any (w : World) : Calls Tryz.prog 105 #[] w fun e w' => ∃ p, e = .returned (.pointer (some ⟨p, 0, none⟩)) ∧ w.heap.size ≤ p ∧ SumAt w' p startL (.slice none 0 0) 0 ∧ Below w.heap.size w w' := by
  go_enter Tryz.func105, Tryz.ntmps105
  go_wp2_with fail
  refine (start_any _).mono ?_
  rintro e w1 ⟨rfl, hb1⟩
  have hs : startV = #[V32 1779033703, V32 3144134277, V32 1013904242, V32 2773480762, V32 1359893119, V32 2600822924, V32 528734635, V32 1541459225] := rfl
  rw [hs]
  go_wp2
  go_ret
  exact ⟨w1.heap.size, rfl, hb1.size, ⟨rfl, heap_alloc_new _ _⟩, hb1.alloc hb1.size _⟩
theorem own_empty (w : World) (t : TypeId) : (w.alloc (.cells #[] t)).ownsRow w.heap.size t 1 (.slice (some ⟨w.heap.size, 0, none⟩) 0 0) 0 [] :=
  ⟨rfl, .inr ⟨w.heap.size, 0, #[], rfl, Nat.le_refl _, heap_alloc_new _ _, Nat.le_refl _, by decide, rfl, rfl⟩⟩
set_option maxHeartbeats 800000 in
set_option maxRecDepth 100000 in
theorem clone8 (l : List Int) (w : World) (v : Value) (h : ByAt w v l) (hl : l.length ≤ 140737488355328) :
    Calls Tryz.prog 124 #[v] w fun e w' => ∃ v', e = .returned v' ∧ w'.ownsRow w.heap.size 5 1 v' l.length (l.map V8) ∧ Below w.heap.size w w' := by
  obtain ⟨i0, hi, hz0, hz1, hz2⟩ := info_parts info_u8
  have q22 : ∀ (w : World) (a : Option Addr) (n c n' c' : Nat), (binOp .eql 100 (.slice a n c) (.slice none n' c')).run Tryz.prog w = .ok (.bool a.isNone) w := fun w a n c n' c' => Lib.run_eql_slice_nil w _ _ a n c n' c' Tryz.underlying100
  rcases h.2 with ⟨rfl, h0⟩ | ⟨a, c, rfl, hc, hr⟩
  · have hnil : l = [] := List.length_eq_zero_iff.1 h0
    subst hnil
    go_enter Tryz.func124, Tryz.ntmps124
    go_wp2
    go_ret
    exact ⟨_, rfl, World.ownsRow_nil _ _ _ _, Below.refl _ _⟩
  · have h1 := h.later (alloc_below w (.cells #[] 5))
    have h2 := own_empty w 5
    have hb := alloc_below w (.cells #[] 5)
    go_enter Tryz.func124, Tryz.ntmps124
    go_wp2_with (at_builtin; (refine wpList_append_rd rfl (.tmp 5) (.tmp 6) 100 rfl w.heap.size 5 i0 (.int .u8 0) 1 1 Tryz.underlying100 hi hz0 hz1 hz2 rfl (by decide) _ 0 [] rfl h2 _ l.length (l.map V8) rfl h1 (v8_cells l) (by unfold maxLen; omega) (by omega) (by simp) ?_); intro v2 w2 hown2 hgrow2)
    go_ret
    refine ⟨_, rfl, ?_, hb.grown hgrow2 hb.size (fun k hk => (h2.lt k hk).1)⟩
    have e : 0 + l.length = l.length := Nat.zero_add _
    rw [e] at hown2
    exact hown2
theorem rd_one8 (w : World) (x : Value) (t : TypeId) : RdAt (w.alloc (.cells #[x] t)) (.slice (some ⟨w.heap.size, 0, none⟩) 1 1) 1 1 [x] :=
  RdAt.mk rfl (Nat.le_refl _) (by rw [World.size_alloc]; omega) (fun j y hj => by
    have hj0 : j = 0 := by have := (List.getElem?_eq_some_iff.1 hj).1; simpa using this
    subst hj0
    have := cell_one_new w x t 0 y hj
    simpa [Addr.add] using this)
def lenL (N : Int) (k : Nat) : List Int := (List.range k).map (fun (i : Nat) => N / 2 ^ (56 - 8 * i) % 256)
theorem lenL_succ (N : Int) (k : Nat) : lenL N (k + 1) = lenL N k ++ [N / 2 ^ (56 - 8 * k) % 256] := by simp [lenL, List.range_succ]
def outAt (X : List Int) (j : Nat) : Int := X.getD (j / 4) 0 / 2 ^ (24 - 8 * (j % 4)) % 256
def outL (X : List Int) (k : Nat) : List Int := (List.range k).map (outAt X)
theorem outL_succ (X : List Int) (k : Nat) : outL X (k + 1) = outL X k ++ [outAt X k] := by simp [outL, List.range_succ]
def ORow (w : World) (g : Nat) (S : List Int) : Prop := S.length ≤ 32 ∧ w.heap[g]? = some (.cells ((S.map V8 ++ List.replicate (32 - S.length) (V8 0)).toArray) 133 (0, 0))
theorem outL_len (X : List Int) (k : Nat) : (outL X k).length = k := by simp [outL]
theorem orow_new {w : World} {g : Nat} (h : w.heap[g]? = some (.cells (Array.replicate 32 (.int .u8 0)) 133 (0, 0))) (X : List Int) : ORow w g (outL X 0) := ⟨by simp [outL], by rw [h]; rfl⟩
theorem ORow.free {w : World} {g : Nat} {S : List Int} (h : ORow w g S) (j : Nat) : w.frozen? ⟨g, j, none⟩ = false := by simp [World.frozen?, h.2]
theorem ORow.old {w : World} {g : Nat} {S : List Int} (h : ORow w g S) (k : Nat) (hk : S.length = k) (hj : k < 32) : w.cell? ⟨g, k, none⟩ = some (V8 0) := by
  subst hk
  rw [cell_row h.2, List.getElem?_toArray, List.getElem?_append_right (by simp)]
  rw [List.length_map, Nat.sub_self, List.getElem?_replicate, if_pos (by omega)]
theorem ORow.store {w : World} {g : Nat} {S : List Int} (h : ORow w g S) {k : Nat} (hk : S.length = k) (hj : k < 32) (x : Int) : ORow (w.setCell ⟨g, k, none⟩ (V8 x)) g (S ++ [x]) := by
  subst hk
  refine ⟨by simp; omega, ?_⟩
  rw [heap_setCell_same w g S.length _ _ _ h.2]
  have e : 32 - S.length = (32 - (S ++ [x]).length) + 1 := by simp; omega
  rw [e, List.replicate_succ]
  congr 2
  simp [List.setIfInBounds_toArray]
def padL (rb : List Int) (m : Nat) (cnt : Int) : List Int := rb ++ [128] ++ List.replicate m 0 ++ lenL (IntKind.u64.wrap (IntKind.u64.wrap cnt * 8)) 8
def padN (n : Nat) : Nat := if n < 56 then 55 - n else 119 - n
theorem padN_eq {n m : Nat} (h64 : m < 64) (h : (n + 1 + m) % 64 = 56) (hn : n < 64) : m = padN n := by
  unfold padN; split <;> omega
def sumOut (V bs : List Int) : List Int := outL (blocksL V bs (bs.length / 64)) 32
theorem pad_bytes {rb : List Int} (hB : ByteL rb) (m : Nat) (N : Int) : ByteL ((rb ++ [128] ++ List.replicate m 0 ++ lenL N 8) ++ []) := by
  intro x hx
  rw [List.append_nil] at hx
  simp only [List.mem_append] at hx
  rcases hx with ((h | h) | h) | h
  · exact hB x h
  · obtain rfl := List.mem_singleton.1 h
    omega
  · obtain rfl := (List.mem_replicate.1 h).2
    omega
  · simp only [lenL, List.mem_map] at h
    obtain ⟨j, _, rfl⟩ := h
    omega
set_option maxHeartbeats 4000000 in
set_option maxRecDepth 100000 in
theorem now_any (V rb : List Int) (cnt : Int) (rv : Value) (p : Nat) (w : World) (hS : SumAt w p V rv cnt) (hr : ByAt w rv rb) (hB : ByteL rb) (hl : rb.length < 64) :
    Calls Tryz.prog 107 #[.pointer (some ⟨p, 0, none⟩)] w fun e w' => e = .returned (.agg ((sumOut V (padL rb (padN rb.length) cnt)).map V8).toArray) ∧ Below w.heap.size w w' := by
  obtain ⟨h0, h1, h2, h3, h4, h5, h6, h7, rfl⟩ : ∃ h0 h1 h2 h3 h4 h5 h6 h7, V = [h0, h1, h2, h3, h4, h5, h6, h7] := by
    have hl := hS.1
    match V, hl with
    | [a, b, c, d, e, f, g, h], _ => exact ⟨a, b, c, d, e, f, g, h, rfl⟩
  obtain ⟨i0, hi, hz0, hz1, hz2⟩ := info_parts info_u8
  obtain ⟨ra, rc, rfl, _, _⟩ := RdAt.shape hr
  have hb0 := alloc_below w (.cells (Array.replicate 32 (.int .u8 0)) 133)
  have hS0 := hS.later hb0
  have hr0 := hr.later hb0
  have hR0 : (w.alloc (.cells (Array.replicate 32 (.int .u8 0)) 133)).heap[w.heap.size]? = some (.cells (Array.replicate 32 (.int .u8 0)) 133 (0, 0)) := heap_alloc_new _ _
  have hsz0 := Lib.hid (World.size_alloc w (.cells (Array.replicate 32 (.int .u8 0)) 133))
  clear hS hr
  go_enter Tryz.func107, Tryz.ntmps107
  go_upto_region 3 with fail
  change Code.wp _ _ _ _ (w.alloc (.cells (Array.replicate 32 (.int .u8 0)) 133))
  generalize w.alloc (.cells (Array.replicate 32 (.int .u8 0)) 133) = w0 at *
  have hp0 := hS0.lt
  have g : w0.cell? ⟨p, 0, none⟩ = some (V32 h0) ∧ w0.cell? ⟨p, 1, none⟩ = some (V32 h1) ∧ w0.cell? ⟨p, 2, none⟩ = some (V32 h2) ∧ w0.cell? ⟨p, 3, none⟩ = some (V32 h3) ∧ w0.cell? ⟨p, 4, none⟩ = some (V32 h4) ∧ w0.cell? ⟨p, 5, none⟩ = some (V32 h5) ∧ w0.cell? ⟨p, 6, none⟩ = some (V32 h6) ∧ w0.cell? ⟨p, 7, none⟩ = some (V32 h7) ∧ w0.cell? ⟨p, 8, none⟩ = some (.slice ra rb.length rc) :=
    ⟨hS0.word 0 (by decide), hS0.word 1 (by decide), hS0.word 2 (by decide), hS0.word 3 (by decide), hS0.word 4 (by decide), hS0.word 5 (by decide), hS0.word 6 (by decide), hS0.word 7 (by decide), hS0.rest⟩
  have KS : ∀ W, Below w0.heap.size w0 W → W.cell? ⟨p, 0, none⟩ = some (V32 h0) ∧ W.cell? ⟨p, 1, none⟩ = some (V32 h1) ∧ W.cell? ⟨p, 2, none⟩ = some (V32 h2) ∧ W.cell? ⟨p, 3, none⟩ = some (V32 h3) ∧ W.cell? ⟨p, 4, none⟩ = some (V32 h4) ∧ W.cell? ⟨p, 5, none⟩ = some (V32 h5) ∧ W.cell? ⟨p, 6, none⟩ = some (V32 h6) ∧ W.cell? ⟨p, 7, none⟩ = some (V32 h7) ∧ W.cell? ⟨p, 8, none⟩ = some (.slice ra rb.length rc) := fun W hb =>
    ⟨keep_cell g.1 hb hp0, keep_cell g.2.1 hb hp0, keep_cell g.2.2.1 hb hp0, keep_cell g.2.2.2.1 hb hp0, keep_cell g.2.2.2.2.1 hb hp0, keep_cell g.2.2.2.2.2.1 hb hp0, keep_cell g.2.2.2.2.2.2.1 hb hp0, keep_cell g.2.2.2.2.2.2.2.1 hb hp0, keep_cell g.2.2.2.2.2.2.2.2 hb hp0⟩
  have hcl : ∀ W, Below w0.heap.size w0 W → Calls Tryz.prog 124 #[.slice ra rb.length rc] W fun e w' => ∃ v', e = .returned v' ∧ w'.ownsRow w0.heap.size 5 1 v' rb.length (rb.map V8) ∧ Below W.heap.size W w' := fun W hb => (clone8 rb W _ (hr0.later hb) (by omega)).mono (fun e w' ⟨v', h1, h2, h3⟩ => ⟨v', h1, own_base h2 hb.size, h3⟩)
  have HKS := Lib.hid KS
  have HCL := Lib.hid hcl
  have HG := Lib.hid g
  clear KS hcl g
  go_cut [3] (fun s3 wx => ∃ E v2, s3 = .pointer (some ⟨E, 0, none⟩) ∧ w0.heap.size ≤ E ∧ SumAt wx E [h0, h1, h2, h3, h4, h5, h6, h7] v2 0 ∧ wx.ownsRow w0.heap.size 5 1 v2 (rb.length + 1) ((rb ++ [128]).map V8) ∧ Below w0.heap.size w0 wx)
  case first =>
    go_region_held3 (fun w' => w'.cell? ⟨p, 0, none⟩ = some (V32 h0) ∧ w'.cell? ⟨p, 1, none⟩ = some (V32 h1) ∧ w'.cell? ⟨p, 2, none⟩ = some (V32 h2) ∧ w'.cell? ⟨p, 3, none⟩ = some (V32 h3) ∧ w'.cell? ⟨p, 4, none⟩ = some (V32 h4) ∧ w'.cell? ⟨p, 5, none⟩ = some (V32 h5) ∧ w'.cell? ⟨p, 6, none⟩ = some (V32 h6) ∧ w'.cell? ⟨p, 7, none⟩ = some (V32 h7) ∧ w'.cell? ⟨p, 8, none⟩ = some (.slice ra rb.length rc))
      (first | exact HG.out | exact HKS.out _ ((Below.refl _ _).drew) | exact HKS.out _ (((Below.refl w0.heap.size w0).drew).alloc (Nat.le_refl _) _) | exact HKS.out _ hB2 | exact HKS.out _ hB1 | exact HKS.out _ (hB1.alloc hB1.size _) | exact HKS.out _ (hB2.alloc hB2.size _))
      (first
        | (refine step_append_rd (by rfl) (.tmp 19) (.tmp 20) _ (by rfl) w0.heap.size 5 i0 (.int .u8 0) 1 1 Tryz.underlying100 hi hz0 hz1 hz2 rfl (by decide) _ rb.length (rb.map V8) (by rfl) (by first | exact hown1 | exact own_later hown1 ((Below.refl _ _).alloc (Nat.le_refl _) _)) _ 1 [V8 128] (by rfl) (by first | exact rd_one8 w1 (V8 128) 5 | exact RdAt.later (w := (w0.alloc (.cells #[V8 128] 5)).drew) (rd_one8 w0 (V8 128) 5) hb1) (by simp [Value.oneCell']) (by unfold maxLen; omega) (by omega) (by first | exact hB1.size | exact Nat.le_trans hB1.size (by simp)) ?_; intro v2 w2 hown2 hgrow2 _; obtain ⟨a2, c2, rfl, _, _⟩ := RdAt.shape (RdAt.own hown2); have hB2 : Below w0.heap.size w0 w2 := by first | exact hB1.grown hgrow2 hB1.size (fun m hm => (hown1.lt m hm).1) | exact (hB1.alloc hB1.size _).grown hgrow2 (Nat.le_trans hB1.size (by simp)) (fun m hm => (hown1.lt m hm).1))
        | (go_at_call 124; refine (HCL.out _ (by first | exact (Below.refl _ _).drew | exact ((Below.refl w0.heap.size w0).drew).alloc (Nat.le_refl _) _)).mono ?_; rintro e w1 ⟨v1, rfl, hown1, hb1⟩; have hB1 : Below w0.heap.size w0 w1 := by first | exact ((Below.refl _ _).drew).trans hb1 | exact (((Below.refl w0.heap.size w0).drew).alloc (Nat.le_refl _) _).trans (hb1.mono (by simp))))
    all_goals (
      clear hown1 hgrow2 hb1 hB1
      go_wp2
      go_meet
      exact ⟨_, _, rfl, hB2.size, ⟨rfl, heap_alloc_new _ _⟩, by rw [List.map_append]; exact own_later hown2 (alloc_below _ _), hB2.alloc hB2.size _⟩)
  case rest =>
    obtain ⟨E, v2, rfl, hE, hSE, hown, hbE⟩ := hcut
    obtain ⟨M, hM1, hM2⟩ : ∃ M, (rb.length + 1 + M) % 64 = 56 ∧ ∀ m, m < M → (rb.length + 1 + m) % 64 ≠ 56 := by
      rcases Nat.lt_or_ge 55 rb.length with h | h
      · exact ⟨119 - rb.length, by omega, fun m hm => by omega⟩
      · exact ⟨55 - rb.length, by omega, fun m hm => by omega⟩
    have hM64 : M < 64 := by
      rcases Nat.lt_or_ge M 64 with h | h
      · exact h
      · rcases Nat.lt_or_ge 55 rb.length with h' | h'
        · exact absurd (by omega) (hM2 (119 - rb.length) (by omega))
        · exact absurd (by omega) (hM2 (55 - rb.length) (by omega))
    have HR0 := Lib.hid hR0
    have hSE' := Lib.hid hSE
    have hown' := Lib.hid hown
    have HS0 := Lib.hid hS0
    clear hSE hown HKS HCL HG hS0 hr0 hR0
    go_wp2
    go_loopw [24] (fun _ wr => ∃ (m n : Nat) (v : Value), m ≤ M ∧ n = rb.length + 1 + m ∧ Hid (SumAt wr E [h0, h1, h2, h3, h4, h5, h6, h7] v 0) ∧ Hid (wr.ownsRow w0.heap.size 5 1 v n ((rb ++ [128] ++ List.replicate m 0).map V8)) ∧ Below w0.heap.size w0 wr) (fun _ wr => rb.length + 1 + M - restLen wr E)
    case atStart => exact ⟨0, rb.length + 1, v2, Nat.zero_le _, rfl, hSE', Lib.hid (by simpa using hown'.out), hbE⟩
    case round =>
      obtain ⟨m, n, v, hm, hn, HS, HO, hbr⟩ := hrel
      have HNn := Lib.hid hn
      have hn70 : n ≤ 200 := by omega
      clear hn
      obtain ⟨a2, c2, rfl, hc2, _⟩ := RdAt.shape (RdAt.own HO.out)
      have g8 := HS.out.rest
      have hrl := HS.out.restLen
      have hne1 : (Value.slice a2 n c2).ownBlock ≠ some E := row_apart HO.out HS.out.2 (by decide)
      by_cases hmM : m < M
      · have hne := hM2 m hmM
        have hnb : ((n : Int) % 64 != 56) = true := by rw [bne_iff_ne]; have := HNn.out; omega
        have hrd := rd_one8 wr (V8 0) 5
        have hoa := own_later HO.out (alloc_below wr (.cells #[V8 0] 5))
        have hSa := HS.out.later (alloc_below wr (.cells #[V8 0] 5))
        have hba := hbr.alloc hbr.size (.cells #[V8 0] 5)
        go_wp2_with (at_builtin; (refine wpList_append_rd rfl (.tmp 35) (.tmp 36) 100 rfl w0.heap.size 5 i0 (.int .u8 0) 1 1 Tryz.underlying100 hi hz0 hz1 hz2 rfl (by decide) _ _ _ rfl hoa _ 1 [V8 0] rfl hrd (by simp [Value.oneCell']) (by unfold maxLen; omega) (by omega) hba.size ?_); intro v3 w3 hown3 hgrow3; obtain ⟨a3, c3, rfl, _, _⟩ := RdAt.shape (RdAt.own hown3); have hS3 := hSa.of_heap (hgrow3.block E hSa.lt (fun e => hne1 e.symm)); have g8' := hS3.rest; have f8' := hS3.free 8)
        have hb3 := hba.grown hgrow3 hba.size (fun k hk => (hoa.lt k hk).1)
        have hne3 := row_apart hown3 hS3.2 (by decide)
        have hS4 := Lib.hid (hS3.setRest (.slice a3 (n + 1) c3))
        have hg4 := grown_setCell w3 E 8 (.slice a3 (n + 1) c3)
        have hO4 := Lib.hid (hown3.kept hg4 (.inr hne3))
        have hb4 := hb3.trans (below_row hg4 hE hb3.size)
        have hrl4 := hS4.out.restLen
        clear hS3 g8' f8' hown3 hgrow3 hg4 hoa hSa hba hrd
        generalize w3.setCell ⟨E, 8, none⟩ (.slice a3 (n + 1) c3) = w4 at *
        go_wp2
        go_roundw
        case rel =>
          refine ⟨m + 1, n + 1, _, by omega, by have := HNn.out; omega, hS4, Lib.hid ?_, hb4⟩
          have := hO4.out
          rw [List.replicate_succ', ← List.append_assoc, List.map_append]
          exact this
        case measure => rw [hrl4, hrl]; have := HNn.out; omega
      · obtain rfl : m = M := by omega
        have hnb : ((n : Int) % 64 != 56) = false := by rw [bne_eq_false_iff_eq]; have := HNn.out; omega
        have g9 := (HS0.out.later hbr).count
        go_wp2
        have HM56 := Lib.hid hM1
        have HM64 := Lib.hid hM64
        clear g8 hrl hne1 hnb hM1 hM2 hM64 hm hmM g9 hown' hSE' HNn
        obtain ⟨N, hN⟩ : ∃ N, IntKind.u64.wrap (IntKind.u64.wrap cnt * 8) = N := ⟨_, rfl⟩
        rw [hN]
        have HN := Lib.hid hN
        clear hN
        obtain ⟨L, hL⟩ : ∃ L, rb ++ [128] ++ List.replicate m 0 = L := ⟨_, rfl⟩
        have HL := Lib.hid hL
        rw [hL] at HO
        clear hL
        have HBL : Hid (ByteL ((L ++ lenL N 8) ++ [])) := Lib.hid (by rw [← HL.out]; exact pad_bytes hB m N)
        go_loopw [46] (fun i wr => ∃ (k n' : Nat) (v : Value), k ≤ 8 ∧ i = .int .i64 k ∧ n' = n + k ∧ Hid (SumAt wr E [h0, h1, h2, h3, h4, h5, h6, h7] v 0) ∧ Hid (wr.ownsRow w0.heap.size 5 1 v n' ((L ++ lenL N k).map V8)) ∧ Below w0.heap.size w0 wr) (fun i _ => 8 - (intOf i).toNat)
        case atStart => exact ⟨0, n, _, Nat.zero_le _, rfl, rfl, HS, Lib.hid (by simpa [lenL] using HO.out), hbr⟩
        case round =>
          clear HS HO hbr
          obtain ⟨k, n', v, hk, rfl, hn', HS, HO, hbr⟩ := hrel
          have hn270 : n' ≤ 300 := by omega
          have HNn := Lib.hid hn'
          clear hn'
          obtain ⟨a2, c2, rfl, hc2, _⟩ := RdAt.shape (RdAt.own HO.out)
          have g8 := HS.out.rest
          have hne1 : (Value.slice a2 n' c2).ownBlock ≠ some E := row_apart HO.out HS.out.2 (by decide)
          by_cases hk8 : k < 8
          · have hI : (k : Int) < 8 := by omega
            have q1 : IntKind.i64.wrap (8 * (k : Int)) = 8 * (k : Int) := by rw [IntKind.wrap_i64]; omega
            obtain ⟨s, hs⟩ : ∃ s, 56 - 8 * (k : Int) = s := ⟨_, rfl⟩
            have q2 : IntKind.i64.wrap (56 - 8 * (k : Int)) = s := by rw [IntKind.wrap_i64]; omega
            have hs0 : 0 ≤ s := by omega
            have hs1 : s ≤ 64 := by omega
            obtain ⟨x, hx⟩ : ∃ x, IntKind.u8.wrap (N / 2 ^ s.toNat) = x := ⟨_, rfl⟩
            have HX : Hid (x = N / 2 ^ (56 - 8 * k) % 256) := Lib.hid (by rw [← hx, IntKind.wrap_u8']; congr 2; congr 1; omega)
            have hrd := rd_one8 wr (V8 x) 5
            have hoa := own_later HO.out (alloc_below wr (.cells #[V8 x] 5))
            have hSa := HS.out.later (alloc_below wr (.cells #[V8 x] 5))
            have hba := hbr.alloc hbr.size (.cells #[V8 x] 5)
            clear hs
            go_upto_region 10 with fail
            refine wp_region_heldS 15 (S := fun W : World => W.cell? ⟨E, 8, none⟩ = some (.slice a2 n' c2)) (by kernel_rfl) g8 (fun hHeld => ?_)
            refine heldS_take (i := 0) (v := ?_) rfl rfl (by kernel_rfl) (by kernel_rfl) (by kernel_rfl) (by kernel_rfl) (by kernel_rfl) (fun _ _ _ h => h) (by rfl) hHeld ?_ ?_
            rotate_left
            · rintro wh hcw
              go_simp
              (try with_reducible rfl)
            simp only [Act.put, List.setIfInBounds_toArray, List.set_cons_zero, List.set_cons_succ]
            refine heldS_take (i := 1) (v := ?_) rfl rfl (by kernel_rfl) (by kernel_rfl) (by kernel_rfl) (by kernel_rfl) (by kernel_rfl) (fun _ _ _ h => h) (by rfl) hHeld ?_ ?_
            rotate_left
            · rintro wh hcw
              go_simp
              (try with_reducible rfl)
            simp only [Act.put, List.setIfInBounds_toArray, List.set_cons_zero, List.set_cons_succ]
            refine heldS_take (i := 2) (v := ?_) rfl rfl (by kernel_rfl) (by kernel_rfl) (by kernel_rfl) (by kernel_rfl) (by kernel_rfl) (fun _ _ _ h => h) (by rfl) hHeld ?_ ?_
            rotate_left
            · rintro wh hcw
              go_simp
              (try with_reducible rfl)
            simp only [Act.put, List.setIfInBounds_toArray, List.set_cons_zero, List.set_cons_succ]
            refine heldS_take (i := 3) (v := ?_) rfl rfl (by kernel_rfl) (by kernel_rfl) (by kernel_rfl) (by kernel_rfl) (by kernel_rfl) (fun _ _ _ h => h) (by rfl) hHeld ?_ ?_
            rotate_left
            · rintro wh hcw
              go_simp
              (try with_reducible rfl)
            simp only [Act.put, List.setIfInBounds_toArray, List.set_cons_zero, List.set_cons_succ]
            refine heldS_take (i := 4) (v := ?_) rfl rfl (by kernel_rfl) (by kernel_rfl) (by kernel_rfl) (by kernel_rfl) (by kernel_rfl) (fun _ _ _ h => h) (by rfl) hHeld ?_ ?_
            rotate_left
            · rintro wh hcw
              go_simp
              (try with_reducible rfl)
            simp only [Act.put, List.setIfInBounds_toArray, List.set_cons_zero, List.set_cons_succ]
            refine heldS_take (i := 5) (v := ?_) rfl rfl (by kernel_rfl) (by kernel_rfl) (by kernel_rfl) (by kernel_rfl) (by kernel_rfl) (fun _ _ _ h => h) (by rfl) hHeld ?_ ?_
            rotate_left
            · rintro wh hcw
              go_simp
              (try with_reducible rfl)
            simp only [Act.put, List.setIfInBounds_toArray, List.set_cons_zero, List.set_cons_succ]
            refine heldS_take (i := 6) (v := ?_) rfl rfl (by kernel_rfl) (by kernel_rfl) (by kernel_rfl) (by kernel_rfl) (by kernel_rfl) (fun _ _ _ h => h) (by rfl) hHeld ?_ ?_
            rotate_left
            · rintro wh hcw
              go_simp
              (try with_reducible rfl)
            simp only [Act.put, List.setIfInBounds_toArray, List.set_cons_zero, List.set_cons_succ]
            refine heldS_take (i := 7) (v := ?_) rfl rfl (by kernel_rfl) (by kernel_rfl) (by kernel_rfl) (by kernel_rfl) (by kernel_rfl) (fun _ _ _ h => h) (by rfl) hHeld ?_ ?_
            rotate_left
            · rintro wh hcw
              go_simp
              (try with_reducible rfl)
            simp only [Act.put, List.setIfInBounds_toArray, List.set_cons_zero, List.set_cons_succ]
            refine heldS_take (i := 8) (v := ?_) rfl rfl (by kernel_rfl) (by kernel_rfl) (by kernel_rfl) (by kernel_rfl) (by kernel_rfl) (fun _ _ _ h => h) (by rfl) hHeld ?_ ?_
            rotate_left
            · rintro wh hcw
              go_simp
              (try with_reducible rfl)
            simp only [Act.put, List.setIfInBounds_toArray, List.set_cons_zero, List.set_cons_succ]
            refine heldS_take (i := 9) (v := ?_) rfl rfl (by kernel_rfl) (by kernel_rfl) (by kernel_rfl) (by kernel_rfl) (by kernel_rfl) (fun _ _ _ h => h) (by rfl) hHeld ?_ ?_
            rotate_left
            · rintro wh hcw
              go_simp
              (try with_reducible rfl)
            simp only [Act.put, List.setIfInBounds_toArray, List.set_cons_zero, List.set_cons_succ]
            refine heldS_take (i := 10) (v := ?_) rfl rfl (by kernel_rfl) (by kernel_rfl) (by kernel_rfl) (by kernel_rfl) (by kernel_rfl) (fun _ _ _ h => h) (by rfl) hHeld ?_ ?_
            rotate_left
            · rintro wh hcw
              go_simp
              (try with_reducible rfl)
            simp only [Act.put, List.setIfInBounds_toArray, List.set_cons_zero, List.set_cons_succ]
            refine heldS_step (i := 11) rfl (by kernel_rfl) (fun K hK => ?_)
            go_simp
            refine hK.out _ _ hSa.rest (fun hHeld => ?_)
            clear hK K
            (try simp only [Act.put, List.setIfInBounds_toArray])
            refine heldS_step (i := 12) rfl (by kernel_rfl) (fun K hK => ?_)
            (refine step_append_rd (by rfl) (.tmp 53) (.tmp 60) _ (by rfl) w0.heap.size 5 i0 (.int .u8 0) 1 1 Tryz.underlying100 hi hz0 hz1 hz2 rfl (by decide) _ _ _ (by rfl) hoa _ 1 [V8 x] (by rfl) hrd (by simp [Value.oneCell']) (by unfold maxLen; omega) (by omega) hba.size ?_); intro v3 w3 hown3 hgrow3 _; obtain ⟨a3, c3, rfl, _, _⟩ := RdAt.shape (RdAt.own hown3); have hS3 := hSa.of_heap (hgrow3.block E hSa.lt (fun e => hne1 e.symm)); have g8' := hS3.rest; have f8' := hS3.free 8
            refine hK.out _ _ g8' (fun hHeld => ?_)
            clear hK K
            (try simp only [Act.put, List.setIfInBounds_toArray])
            refine heldS_step (i := 13) rfl (by kernel_rfl) (fun K hK => ?_)
            go_simp
            refine hK.out _ _ g8' (fun hHeld => ?_)
            clear hK K
            (try simp only [Act.put, List.setIfInBounds_toArray])
            refine heldS_step (i := 14) rfl (by kernel_rfl) (fun K hK => ?_)
            go_simp
            refine hK.out _ _ g8' (fun hHeld => ?_)
            clear hK K
            (try simp only [Act.put, List.setIfInBounds_toArray])
            refine heldS_last (i := 15) rfl (by kernel_rfl) (by kernel_rfl) (fun K hK => ?_)
            go_simp
            refine hK.out _ _ ?_
            clear hK K
            (try simp only [Act.put, List.setIfInBounds_toArray])
            refine wpAnyEnd_done (by kernel_rfl) ?_ _
            have hb3 := hba.drew.grown hgrow3 hba.size (fun k hk => (hoa.lt k hk).1)
            have hne3 := row_apart hown3 hS3.2 (by decide)
            have hS4 := Lib.hid (hS3.setRest (.slice a3 (n' + 1) c3))
            have hg4 := grown_setCell w3 E 8 (.slice a3 (n' + 1) c3)
            have hO4 := Lib.hid (hown3.kept hg4 (.inr hne3))
            have hb4 := hb3.trans (below_row hg4 hE hb3.size)
            clear hS3 g8' f8' hown3 hgrow3 hg4 hoa hSa hba hrd g8 hb3 hne3 HS HO hbr hHeld q1 q2 hs0 hs1 hx
            change Exit.inBlock _ _ _ _ (w3.setCell ⟨E, 8, none⟩ (.slice a3 (n' + 1) c3))
            generalize w3.setCell ⟨E, 8, none⟩ (.slice a3 (n' + 1) c3) = w4 at *
            go_wp2
            go_roundw
            case rel =>
              refine ⟨k + 1, n' + 1, _, by omega, by go_num, by have := HNn.out; omega, hS4, Lib.hid ?_, hb4⟩
              rw [lenL_succ, ← HX.out, ← List.append_assoc, List.map_append]
              exact hO4.out
            case measure => (simp [intOf]; try omega)
          · obtain rfl : k = 8 := by omega
            rw [show ((8 : Nat) : Int) = 8 from rfl]
            have hLl : Hid ((L ++ lenL N 8).length = n') := Lib.hid (by have := HO.out.1; rw [List.length_map] at this; omega)
            have hadd := add_any [h0, h1, h2, h3, h4, h5, h6, h7] (L ++ lenL N 8) [] 0 (.slice a2 n' c2) (.slice none 0 0) E w0.heap.size wr HS.out (by rw [hLl.out]; exact HO.out) (RdAt.nil _ _) HBL.out (by simp [Value.ownBlock]) hE hbr.size (by rw [hLl.out]; simp; omega) (by simp)
            clear g8 hne1
            go_wp2_with fail
            refine hadd.mono ?_
            rintro e wa ⟨rv', kk, rfl, hkk, hSA, _, hba⟩
            obtain ⟨X, hX⟩ : ∃ X, blocksL [h0, h1, h2, h3, h4, h5, h6, h7] ((L ++ lenL N 8) ++ []) kk = X := ⟨_, rfl⟩
            rw [hX] at hSA
            have HXX : Hid (X = blocksL [h0, h1, h2, h3, h4, h5, h6, h7] (padL rb m cnt) ((padL rb m cnt).length / 64)) := Lib.hid (by rw [← hX, hkk, List.append_nil, ← HL.out, ← HN.out]; rfl)
            have hbA := hbr.trans hba
            have hR1' := Lib.hid ((hbA.block w.heap.size (by rw [hsz0.out]; omega)).trans HR0.out)
            have hSA2 := hSA.later (alloc_below wa (.cells (Array.replicate 32 (.int .u8 0)) 133))
            have hbA2 := hbA.alloc hbA.size (.cells (Array.replicate 32 (.int .u8 0)) 133)
            have hO2 : (wa.alloc (.cells (Array.replicate 32 (.int .u8 0)) 133)).heap[wa.heap.size]? = some (.cells (Array.replicate 32 (.int .u8 0)) 133 (0, 0)) := heap_alloc_new _ _
            have hEO : E < wa.heap.size := hSA.lt
            have hbw : w0.heap.size ≤ wa.heap.size := hbA.size
            clear hX hkk hSA hba hadd HBL hLl HO HS hbr hbA
            generalize (0 : Int) + (([] : List Int).length : Int) = cz at *
            have HSA := Lib.hid hSA2
            have HO3 : Hid (ORow (wa.alloc (.cells (Array.replicate 32 (.int .u8 0)) 133)) wa.heap.size (outL X 0)) := Lib.hid (orow_new hO2 X)
            have HbA := Lib.hid hbA2
            have HR2 : Hid ((wa.alloc (.cells (Array.replicate 32 (.int .u8 0)) 133)).heap[w.heap.size]? = some (.cells (Array.replicate 32 (.int .u8 0)) 133 (0, 0))) := Lib.hid ((hbA2.block w.heap.size (by rw [hsz0.out]; omega)).trans HR0.out)
            clear hSA2 hO2 hbA2 hR1'
            go_wp2
            obtain ⟨O, hO⟩ : ∃ O, O = wa.heap.size := ⟨_, rfl⟩
            have HOO := Lib.hid hO
            rw [← hO] at HO3 hEO hbw ⊢
            clear hO
            go_loopw [67] (fun i wr => ∃ (k : Nat), k ≤ 32 ∧ i = .int .i64 k ∧ Hid (SumAt wr E X rv' cz) ∧ Hid (ORow wr O (outL X k)) ∧ Hid (wr.heap[w.heap.size]? = some (.cells (Array.replicate 32 (.int .u8 0)) 133 (0, 0))) ∧ Hid (Below w0.heap.size w0 wr)) (fun i _ => 32 - (intOf i).toNat)
            case atStart => exact ⟨0, Nat.zero_le _, rfl, HSA, HO3, HR2, HbA⟩
            case round =>
              clear HSA HO3 HR2 HbA
              obtain ⟨k, hk, rfl, HS, HO, HR, HB⟩ := hrel
              by_cases hkl : k < 32
              · obtain ⟨q, hq⟩ : ∃ q, k / 4 = q := ⟨_, rfl⟩
                have hq1 : (k : Int) / 4 = (q : Int) := by omega
                have hq8 : q < 8 := by omega
                have hI1 : (q : Int) < 8 := by omega
                have hI2 : (k : Int) < 32 := by omega
                have g1 := HS.out.word q hq8
                obtain ⟨y, hy⟩ : ∃ y, X.getD q 0 = y := ⟨_, rfl⟩
                rw [hy] at g1
                obtain ⟨m8, hm8⟩ : ∃ m : Int, 8 * ((k : Int) % 4) = m := ⟨_, rfl⟩
                have q1 : IntKind.i64.wrap (8 * ((k : Int) % 4)) = m8 := by rw [IntKind.wrap_i64]; omega
                obtain ⟨s, hs⟩ : ∃ s : Int, 24 - m8 = s := ⟨_, rfl⟩
                have q2 : IntKind.i64.wrap (24 - m8) = s := by rw [IntKind.wrap_i64]; omega
                have hs0 : 0 ≤ s := by omega
                have hs1 : s ≤ 32 := by omega
                obtain ⟨x, hx⟩ : ∃ x, IntKind.u8.wrap (y / 2 ^ s.toNat) = x := ⟨_, rfl⟩
                have HX2 : Hid (x = outAt X k) := Lib.hid (by rw [← hx, IntKind.wrap_u8']; unfold outAt; rw [hq, hy]; congr 3; omega)
                have g2 := HO.out.old k (by simp [outL]) hkl
                have f2 := HO.out.free k
                have HST := Lib.hid (HO.out.store (k := k) (by simp [outL]) hkl x)
                have hS2 := Lib.hid (HS.out.of_heap (w' := wr.setCell ⟨O, k, none⟩ (V8 x)) (heap_setCell_other wr ⟨O, k, none⟩ E _ (by show E ≠ O; omega)))
                have hR2 := Lib.hid ((heap_setCell_other wr ⟨O, k, none⟩ w.heap.size (V8 x) (by have := hsz0.out; show w.heap.size ≠ O; omega)).trans HR.out)
                have hB2 := Lib.hid (HB.out.trans (below_setCell (B := w0.heap.size) wr O k (V8 x) (by omega)))
                clear hq hm8 hs hy HS HO HR HB
                go_wp2
                go_roundw
                case rel =>
                  refine ⟨k + 1, by omega, by go_num, hS2, Lib.hid ?_, hR2, hB2⟩
                  rw [outL_succ, ← HX2.out]
                  exact HST.out
                case measure => (simp [intOf]; try omega)
              · obtain rfl : k = 32 := by omega
                rw [show ((32 : Nat) : Int) = 32 from rfl]
                have hO5 : wr.heap[O]? = some (.cells ((outL X 32).map V8).toArray 133 (0, 0)) := by have := HO.out.2; rw [outL_len] at this; simpa using this
                go_upto_region 19 with fail
                have hOl : ((outL X 32).map V8).toArray.size = 32 := by simp [outL]
                have hI9 : (Tryz.prog.info? 133).map (·.size) = some ((outL X 32).map V8).toArray.size := by rw [hOl]; kernel_rfl
                apply wp_region_lit
                refine wpList_load_row rfl 133 (.tmp 6) rfl O rfl 133 ((outL X 32).map V8).toArray (0, 0) _ hO5 Tryz.underlying133 rfl hI9 ?_
                refine wpList_store_row rfl 133 (.tmp 2) (.tmp 86) rfl w.heap.size ((outL X 32).map V8).toArray rfl rfl 133 _ HR.out hI9 (by rw [hOl]; rfl) (all_oneCell_toArray (v8_cells _)) ?_
                have hg2 := setRow_heap wr w.heap.size _ ((outL X 32).map V8).toArray _ _ HR.out
                have hb2 : Below w.heap.size w (wr.setRow w.heap.size ((outL X 32).map V8).toArray) := below_setRow (hb0.trans (HB.out.mono hb0.size)) (Nat.le_refl _) _
                generalize wr.setRow w.heap.size ((outL X 32).map V8).toArray = w1 at *
                have hfin : outL X 32 = sumOut [h0, h1, h2, h3, h4, h5, h6, h7] (padL rb m cnt) := by unfold sumOut; rw [← HXX.out]
                have hm56 : (rb.length + 1 + m) % 64 = 56 := HM56.out
                simp only [Act.put, List.setIfInBounds_toArray, List.set_cons_zero, List.set_cons_succ]
                show Exit.then _ _ Exit.normal _ _
                simp only [Exit.then]
                refine (by assumption : ∀ (a : Act) (w : World), Code.wp _ Code.ret _ a w → _) _ _ ?_
                go_wp2
                refine bodyPost_ret (results_cell_row rfl _ _ w.heap.size 133 ((outL X 32).map V8).toArray (0, 0) (.array 32 5) rfl hg2 Tryz.underlying133 rfl hI9) rfl ?_
                refine ⟨?_, hb2⟩
                rw [hfin, padN_eq HM64.out hm56 hl]
end Go.Proofs.YtipnhpfpppblhaaGreat

/- slices.Concat at []byte: a contract. -/
namespace Go.Proofs.YtipnhpfpppblhaaGreat
open Go.RowKit Go.Sort
theorem grow_any (n : Nat) (w : World) (h0 : 0 < n) (hn : n ≤ 4000000) :
    Calls Tryz.prog 88 #[.slice none 0 0, .int .i64 n] w fun e w' => ∃ g cap, e = .returned (.slice (some ⟨g, 0, none⟩) 0 cap) ∧ w'.ownsRow w.heap.size 5 1 (.slice (some ⟨g, 0, none⟩) 0 cap) 0 [] ∧ Below w.heap.size w w' := by
  obtain ⟨i0, hi, hz0, hz1, hz2⟩ := info_parts info_u8
  have h := Any8.slices_Grow_grow Tryz.lays8n4b i0 (.int .u8 0) hi hz0 (by rw [hz1]; decide) none 0 0 n [] w (Nat.le_refl _) (by omega) (by rw [hz2]; omega) (by omega) (by simp) (fun _ => rfl) (fun _ h => by cases h)
  refine Calls.mono h ?_
  rintro e w' ⟨rfl, rfl⟩
  refine ⟨_, _, rfl, ⟨rfl, .inr ⟨w.heap.size, _, _, rfl, Nat.le_refl _, heap_alloc_new _ _, Nat.zero_le _, grownCap_le_maxLen _ _ _ _ (by unfold maxLen; omega), ?_, by simp⟩⟩, ((Below.refl _ _).drew).alloc (Nat.le_refl _) _⟩
  have hge := grownCap_ge w (0 + n) 0 (Tryz.lays8n4b_ren.t 25)
  have e1 : (Value.int IntKind.u8 0).cells.size = 1 := rfl
  simp [Builtin.zeroCells, e1] at hge ⊢
  omega
def SlsAt (w : World) (a : Addr) (ls : List (Value × List Int)) : Prop :=
  ∃ b o, a = ⟨b, o, none⟩ ∧ b < w.heap.size ∧ ∀ j (h : j < ls.length), w.cell? ⟨b, o + j, none⟩ = some ls[j].1 ∧ ByAt w ls[j].1 ls[j].2
def sumL (ls : List (Value × List Int)) : List Int := ls.flatMap (·.2)
theorem sumL_take {ls : List (Value × List Int)} {k : Nat} (h : k < ls.length) : sumL (ls.take (k + 1)) = sumL (ls.take k) ++ ls[k].2 := by
  unfold sumL
  rw [List.take_succ_eq_append_getElem h, List.flatMap_append]; simp
theorem sumL_le (ls : List (Value × List Int)) (k : Nat) : (sumL (ls.take k)).length ≤ (sumL ls).length := by
  have : sumL ls = sumL (ls.take k) ++ sumL (ls.drop k) := by unfold sumL; rw [← List.flatMap_append, List.take_append_drop]
  rw [this, List.length_append]; omega
set_option maxHeartbeats 1600000 in
set_option maxRecDepth 10000000 in
theorem concat_any (ls : List (Value × List Int)) (a : Addr) (c : Nat) (w : World) (hls : SlsAt w a ls) (hne : 0 < (sumL ls).length) (hl : (sumL ls).length ≤ 4000000) (hn : ls.length ≤ 4000000) :
    Calls Tryz.prog 60 #[.slice (some a) ls.length c] w fun e w' => ∃ v, e = .returned v ∧ w'.ownsRow w.heap.size 5 1 v (sumL ls).length ((sumL ls).map V8) ∧ Below w.heap.size w w' := by
  obtain ⟨b, o, rfl, hb, hcell⟩ := hls
  obtain ⟨i0, hi, hz0, hz1, hz2⟩ := info_parts info_u8
  have HC := Lib.hid hcell
  clear hcell
  go_enter Tryz.func60, Tryz.ntmps60
  go_wp2
  go_loopw [3, 11] (fun s i wr => ∃ k t : Nat, k ≤ ls.length ∧ i = .int .i64 k ∧ s = .int .i64 t ∧ t ≤ 4000000 ∧ Hid (t = (sumL (ls.take k)).length) ∧ Below w.heap.size w wr) (fun _ i _ => ls.length - (intOf i).toNat)
  case atStart => exact ⟨0, 0, Nat.zero_le _, rfl, rfl, by omega, Lib.hid rfl, Below.refl _ _⟩
  case round =>
    obtain ⟨k, t, hk, rfl, rfl, ht, HT, hbr⟩ := hrel
    by_cases hkl : k < ls.length
    · obtain ⟨h1, h2⟩ := HC.out k hkl
      obtain ⟨x, hx⟩ : ∃ x, ls[k] = x := ⟨_, rfl⟩
      have HN : Hid (t + x.2.length = (sumL (ls.take (k + 1))).length) := by show _ = _; rw [sumL_take hkl, List.length_append, HT.out, hx]
      have hle : t + x.2.length ≤ 4000000 := by rw [HN.out]; exact Nat.le_trans (sumL_le ls (k + 1)) hl
      rw [hx] at h1 h2
      obtain ⟨va, vl⟩ := x
      obtain ⟨a1, c1, hva, hc1, _⟩ := RdAt.shape h2
      dsimp only at hva hc1
      subst hva
      have hcr : wr.cell? ⟨b, o + k, none⟩ = some (.slice a1 vl.length c1) := keep_cell h1 hbr hb
      have hle' : (t : Int) + (vl.length : Int) ≤ 4000000 := by dsimp only at hle; omega
      clear h1 h2 hx HT
      go_wp2
      go_roundw
      case rel => exact ⟨k + 1, t + vl.length, by omega, by go_num, by go_num, hle, HN, hbr⟩
      case measure => (simp [intOf]; try omega)
    · obtain rfl : k = ls.length := by omega
      obtain rfl : t = (sumL ls).length := by rw [HT.out, List.take_length]
      clear HT
      have hg := grow_any (sumL ls).length wr hne hl
      go_wp2_with fail
      refine hg.mono ?_
      rintro e w1 ⟨g, cap, rfl, hown, hb1⟩
      have hown1 := own_base hown hbr.size
      have hbr1 := hbr.trans (hb1.mono hbr.size)
      clear hg hown hbr hb1
      go_wp2
      go_loopw [6, 27] (fun v i wr => ∃ k : Nat, k ≤ ls.length ∧ i = .int .i64 k ∧ wr.ownsRow w.heap.size 5 1 v (sumL (ls.take k)).length ((sumL (ls.take k)).map V8) ∧ Below w.heap.size w wr) (fun _ i _ => ls.length - (intOf i).toNat)
      case atStart => exact ⟨0, Nat.zero_le _, rfl, hown1, hbr1⟩
      case round =>
        obtain ⟨k, hk, rfl, hown, hbr⟩ := hrel
        by_cases hkl : k < ls.length
        · obtain ⟨h1, h2⟩ := HC.out k hkl
          have e1 := sumL_take hkl
          have hle1 : (sumL (ls.take (k + 1))).length ≤ 4000000 := Nat.le_trans (sumL_le ls (k + 1)) hl
          obtain ⟨x, hx⟩ : ∃ x, ls[k] = x := ⟨_, rfl⟩
          rw [hx] at h1 h2 e1
          obtain ⟨va, vl⟩ := x
          have hcr : wr.cell? ⟨b, o + k, none⟩ = some va := keep_cell h1 hbr hb
          have hrd : ByAt wr va vl := ByAt.later h2 hbr
          have hle : (sumL (ls.take k)).length + vl.length ≤ 4000000 := by rw [e1, List.length_append] at hle1; exact hle1
          have HE := Lib.hid e1
          clear h1 h2 hx e1 hle1
          go_wp2_with (at_builtin; (refine wpList_append_rd rfl (.tmp 31) (.tmp 32) 100 rfl w.heap.size 5 i0 (.int .u8 0) 1 1 Tryz.underlying100 hi hz0 hz1 hz2 rfl (by decide) _ _ _ rfl hown _ vl.length (vl.map V8) rfl hrd (v8_cells vl) (by unfold maxLen; omega) (by omega) hbr.size ?_); intro v' w' hown' hgrow)
          have hb' : Below w.heap.size w w' := hbr.grown hgrow hbr.size (fun m hm => (hown.lt m hm).1)
          clear hown hgrow hbr hrd hcr
          go_wp2
          go_roundw
          case rel => exact ⟨k + 1, by omega, by go_num, by rw [HE.out, List.length_append, List.map_append]; exact hown', hb'⟩
          case measure => (simp [intOf]; try omega)
        · obtain rfl : k = ls.length := by omega
          rw [List.take_length] at hown
          go_wp2
          go_ret
          exact ⟨_, rfl, hown, hbr⟩
end Go.Proofs.YtipnhpfpppblhaaGreat

/- []byte(text): what lies in memory; one byte appended to it. -/
namespace Go.Proofs.YtipnhpfpppblhaaGreat
open Go.RowKit
def byL (s : ByteArray) : List Int := (B s).map (fun c => (c.toNat : Int))
theorem byL_len (s : ByteArray) : (byL s).length = s.size := by simp [byL]
theorem byL_byte (s : ByteArray) : ByteL (byL s) := by
  intro x hx
  simp only [byL, List.mem_map] at hx
  obtain ⟨c, _, rfl⟩ := hx
  have := c.toNat_lt
  omega
def cvW (w : World) (s : ByteArray) : World := Lib.bytesWorld w 5 s
def cvC (w : World) (s : ByteArray) : Nat := grownCap w s.size 0 5
theorem cv_run (w : World) (s : ByteArray) : (convert 9 100 (.string s)).run Tryz.prog w = .ok (.slice (some ⟨w.heap.size, 0, none⟩) s.size (cvC w s)) (cvW w s) :=
  Lib.run_convert_string_bytes (P := Tryz.prog) w 9 100 5 s Tryz.underlying9 Tryz.underlying100 Tryz.underlying5
theorem cv_below (w : World) (s : ByteArray) : Below w.heap.size w (cvW w s) :=
  ⟨rfl, rfl, rfl, by rw [cvW, Lib.bytesWorld_size]; omega, fun k hk => Lib.bytesWorld_at_old w _ s k hk⟩
theorem cv_size (w : World) (s : ByteArray) : (cvW w s).heap.size = w.heap.size + 1 := Lib.bytesWorld_size _ _ _
theorem cv_cap (w : World) (s : ByteArray) : s.size ≤ cvC w s := grownCap_ge w s.size 0 _
theorem byL_at (s : ByteArray) (j : Nat) (y : Value) (h : ((byL s).map V8)[j]? = some y) : j < s.size ∧ y = .int .u8 (s.data.toList.getD j 0).toNat := by
  rw [List.getElem?_map, Option.map_eq_some_iff] at h
  obtain ⟨x, hx, rfl⟩ := h
  have hj := (List.getElem?_eq_some_iff.1 hx).1
  rw [byL_len] at hj
  refine ⟨hj, ?_⟩
  simp only [byL, List.getElem?_map, Option.map_eq_some_iff] at hx
  obtain ⟨c, hc, rfl⟩ := hx
  rw [List.getD_eq_getElem?_getD, hc]; rfl
theorem cv_at (w : World) (s : ByteArray) : ByAt (cvW w s) (.slice (some ⟨w.heap.size, 0, none⟩) s.size (cvC w s)) (byL s) := by
  have h := RdAt.mk (w := cvW w s) (b := w.heap.size) (o := 0) (n := s.size) (c := cvC w s) (k := 1) (xs := (byL s).map V8) (by simp [byL_len]) (cv_cap w s) (by rw [cv_size]; omega) (fun j y hj => by
    obtain ⟨h1, rfl⟩ := byL_at s j y hj
    rw [Nat.zero_add]
    exact Lib.bytesWorld_cell w 5 s j h1)
  unfold ByAt
  rw [byL_len]
  exact h
theorem cv_free (w : World) (s : ByteArray) (j : Nat) (hj : j < cvC w s) : ((cvW w s).cell? ⟨w.heap.size, j, none⟩).isSome = true ∧ (cvW w s).frozen? ⟨w.heap.size, j, none⟩ = false := by
  have hg := Lib.bytesWorld_at_new w 5 s
  have hs : (Lib.bytesCells w 5 s).size = cvC w s := by
    have := cv_cap w s
    unfold cvC at *
    simp [Lib.bytesCells]; omega
  constructor
  · rw [World.cell?, cvW, hg]
    simp [hs, hj]
  · rw [World.frozen?, cvW, hg]
    simp [hs]; omega
theorem run_append_cv (w W : World) (s : ByteArray) (hw : Below (cvW w s).heap.size (cvW w s) W) (hs : s.size ≤ 4000000) (x : Int) (u : Value) (hu : RdAt W u 1 1 [V8 x]) (ty : TypeId) (i0 : TypeInfo)
    (hi : Tryz.prog.info? 5 = some i0) (hz0 : i0.zero = some (.int .u8 0)) (hz1 : i0.size = 1) (hz2 : i0.bytes = 1) :
    ∃ a' c' w', (Builtin.append_ #[100, 100] ty #[.slice (some ⟨w.heap.size, 0, none⟩) s.size (cvC w s), u]).run Tryz.prog W = .ok (.slice (some a') (s.size + 1) c') w' ∧
      ByAt w' (.slice (some a') (s.size + 1) c') (byL s ++ [x]) ∧ Below w.heap.size w w' ∧ a'.block < w'.heap.size ∧ w.heap.size ≤ a'.block := by
  have hlt : w.heap.size < (cvW w s).heap.size := by rw [cv_size]; omega
  have hb0 : Below w.heap.size w W := (cv_below w s).trans (hw.mono (Nat.le_of_lt hlt))
  obtain ⟨b, o, c, rfl, hc, hbl, hcell⟩ := RdAt.some hu (by decide)
  have hx0 : W.cell? ⟨b, o, none⟩ = some (V8 x) := hcell 0 _ rfl
  have hat := (cv_at w s).later hw
  have holds : ∀ j y, ((byL s).map V8)[j]? = some y → W.cell? ⟨w.heap.size, j, none⟩ = some y := fun j y hj => by
    obtain ⟨h1, rfl⟩ := byL_at s j y hj
    rw [hw.cell (p := ⟨w.heap.size, j, none⟩) hlt]
    exact Lib.bytesWorld_cell w 5 s j h1
  have hbig : w.heap.size < W.heap.size := Nat.lt_of_lt_of_le hlt hw.size
  have key : ∀ w' (g c' : Nat), s.size + 1 ≤ c' → g < w'.heap.size → (∀ j y, ((byL s ++ [x]).map V8)[j]? = some y → w'.cell? ⟨g, j, none⟩ = some y) → ByAt w' (.slice (some ⟨g, 0, none⟩) (s.size + 1) c') (byL s ++ [x]) := fun w' g c' h1 h2 h3 => by
    have h := RdAt.mk (w := w') (b := g) (o := 0) (n := s.size + 1) (c := c') (k := 1) (xs := (byL s ++ [x]).map V8) (by simp [byL_len]) h1 h2 (fun j y hj => by rw [Nat.zero_add]; exact h3 j y hj)
    unfold ByAt
    rw [show (byL s ++ [x]).length = s.size + 1 by simp [byL_len]]
    exact h
  have hsrc : Src Tryz.prog i0.size 100 (.slice (some ⟨b, o, none⟩) 1 c) 1 [V8 x] W := by
    rw [hz1]
    exact Src.ofSlice W Tryz.underlying100 _ _ _ [V8 x] rfl (fun j y hj => by
      have hj0 : j = 0 := by have := (List.getElem?_eq_some_iff.1 hj).1; simpa using this
      subst hj0
      have : V8 x = y := by simpa using hj
      subst this
      simpa [Addr.add] using hx0) (by simp [Value.oneCell'])
  rcases Nat.lt_or_ge s.size (cvC w s) with hroom | hroom
  · obtain ⟨hf1, hf2⟩ := cv_free w s s.size hroom
    have hq1 : (W.cell? ⟨w.heap.size, s.size, none⟩).isSome = true := by rw [hw.cell (p := ⟨w.heap.size, s.size, none⟩) hlt]; exact hf1
    have hq2 : W.frozen? ⟨w.heap.size, s.size, none⟩ = false := by rw [World.frozen?_of_block (a := ⟨w.heap.size, s.size, none⟩) (hw.block _ hlt)]; exact hf2
    have hr := run_append_room_src (P := Tryz.prog) (w := W) 100 100 ty 5 i0 Tryz.underlying100 hi w.heap.size 0 s.size (cvC w s) _ 1 [V8 x] hsrc hroom
      (fun j hj => by have : j = 0 := by simpa using hj
                      subst this; simpa [hz1] using hq1) (fun j hj => by have : j = 0 := by simpa using hj
                                                                         subst this; simpa [hz1] using hq2)
    refine ⟨_, _, _, hr, ?_, ?_, ?_, Nat.le_refl _⟩
    · refine key _ _ _ hroom ?_ (fun j y hj => ?_)
      · simp [World.setCells]; exact hbig
      · simp only [World.setCells, hz1, Nat.mul_one, Nat.zero_add]
        rw [List.map_append] at hj
        by_cases hjs : j < s.size
        · rw [List.getElem?_append_left (by simpa [byL_len] using hjs)] at hj
          rw [World.cell?_setCell_other _ _ _ _ (by intro e; cases e; omega)]
          exact holds j y hj
        · have hjl := (List.getElem?_eq_some_iff.1 hj).1
          have : j = s.size := by simp [byL_len] at hjl; omega
          subst this
          rw [List.getElem?_append_right (by simp [byL_len])] at hj
          have hy : V8 x = y := by simpa [byL_len] using hj
          rw [World.cell?_setCell_same' _ _ _ hq1, hy]
    · refine hb0.trans ?_
      simp only [World.setCells]
      exact below_setCell W _ _ _ (Nat.le_refl _)
    · simp [World.setCells]; exact hbig
  · have e1 : cvC w s = s.size := Nat.le_antisymm hroom (cv_cap w s)
    have hr := run_append_grow (P := Tryz.prog) W 100 ty 5 i0 (.int .u8 0) Tryz.underlying100 hi hz0 ⟨w.heap.size, 0, none⟩ s.size (cvC w s) ((byL s).map V8) (by simp [byL_len, hz1])
      (fun j y hj => by rw [Addr.add_mid, Nat.zero_add]; exact holds j y hj) ⟨b, o, none⟩ 1 c [V8 x] (by simp [hz1]) (fun j y hj => by
        have hj0 : j = 0 := by have := (List.getElem?_eq_some_iff.1 hj).1; simpa using this
        subst hj0
        have : V8 x = y := by simpa using hj
        subst this
        simpa [Addr.add] using hx0) (by omega) (by omega) (growslice_fits (by omega) (by rw [hz2]; omega))
    have hge := grownCap_ge W (s.size + 1) (cvC w s) 5
    refine ⟨_, _, _, hr, ?_, ?_, ?_, Nat.le_of_lt hbig⟩
    · refine key _ _ _ hge (by simp) (fun j y hj => ?_)
      have e2 : (W.drew.alloc (.cells (((byL s).map V8).toArray ++ [V8 x].toArray ++ Builtin.zeroCells (Value.int .u8 0).cells (grownCap W (s.size + 1) (cvC w s) 5 - (s.size + 1))) 5)).cell? ⟨W.heap.size, j, none⟩ = _ := World.cell?_alloc_new W.drew _ _ j
      rw [e2]
      rw [List.map_append] at hj
      have hjl := (List.getElem?_eq_some_iff.1 hj).1
      rw [Array.getElem?_append_left (by simpa using hjl)]
      simpa using hj
    · exact hb0.trans (((Below.refl _ _).drew).alloc (Nat.le_of_lt hbig) _)
    · simp
end Go.Proofs.YtipnhpfpppblhaaGreat

/- digest.Of: a contract. -/
namespace Go.Proofs.YtipnhpfpppblhaaGreat
open Go.RowKit
def ofL (bs : List Int) : List Int := sumOut (blocksL startL bs (bs.length / 64)) (padL (bs.drop (64 * (bs.length / 64))) (padN (bs.drop (64 * (bs.length / 64))).length) bs.length)
theorem ofL_len (bs : List Int) : (ofL bs).length = 32 := outL_len _ _
theorem outL_byte (X : List Int) (k : Nat) : ByteL (outL X k) := by
  intro x hx
  simp only [outL, List.mem_map] at hx
  obtain ⟨j, _, rfl⟩ := hx
  unfold outAt
  omega
set_option maxHeartbeats 1600000 in
set_option maxRecDepth 100000 in
theorem of_any (bs : List Int) (v : Value) (w : World) (hb : ByAt w v bs) (hB : ByteL bs) (hv : ∀ p, v.ownBlock = some p → p < w.heap.size) (hl : bs.length ≤ 1000000000000) :
    Calls Tryz.prog 89 #[v] w fun e w' => e = .returned (.agg ((ofL bs).map V8).toArray) ∧ Below w.heap.size w w' := by
  have hb0 := alloc_below w (.cells (Array.replicate 32 (.int .u8 0)) 133)
  have hr0 := hb.later hb0
  have hR0 : (w.alloc (.cells (Array.replicate 32 (.int .u8 0)) 133)).heap[w.heap.size]? = some (.cells (Array.replicate 32 (.int .u8 0)) 133 (0, 0)) := heap_alloc_new _ _
  have hsz0 := Lib.hid (World.size_alloc w (.cells (Array.replicate 32 (.int .u8 0)) 133))
  have HR0 := Lib.hid hR0
  have HB := Lib.hid hB
  have HL := Lib.hid hl
  clear hb hR0 hB hl
  go_enter Tryz.func89, Tryz.ntmps89
  go_upto_region 1 with fail
  change Code.wp _ _ _ _ (w.alloc (.cells (Array.replicate 32 (.int .u8 0)) 133))
  generalize w.alloc (.cells (Array.replicate 32 (.int .u8 0)) 133) = w0 at *
  go_wp2_with fail
  refine (new_any _).mono ?_
  rintro e w1 ⟨p, rfl, hp, hS1, hb1⟩
  have hv1 : v.ownBlock ≠ some p := fun e => by have := hv p e; have := hsz0.out; omega
  have hadd := add_any startL [] bs 0 (.slice none 0 0) v p w0.heap.size w1 hS1 (World.ownsRow_nil _ _ _ _) (hr0.later hb1) HB.out hv1 hp hb1.size (by have := HL.out; simp; omega) (by have := HL.out; omega)
  go_wp2_with fail
  refine hadd.mono ?_
  rintro e w2 ⟨rv, k, rfl, hk, hS2, hr2, hb2⟩
  rw [List.nil_append] at hk hS2 hr2
  rw [Int.zero_add] at hS2
  have hlen : (bs.drop (64 * k)).length < 64 := by rw [List.length_drop]; omega
  have hnow := now_any (blocksL startL bs k) (bs.drop (64 * k)) bs.length rv p w2 hS2 hr2 (fun x hx => HB.out x (List.mem_of_mem_drop hx)) hlen
  clear hadd
  go_wp2_with fail
  refine hnow.mono ?_
  rintro e w3 ⟨rfl, hb3⟩
  subst hk
  have hE : (sumOut (blocksL startL bs (bs.length / 64)) (padL (bs.drop (64 * (bs.length / 64))) (padN (bs.drop (64 * (bs.length / 64))).length) bs.length)) = ofL bs := rfl
  rw [hE]
  have hB3 : Below w0.heap.size w0 w3 := (hb1.trans hb2).trans (hb3.mono (Nat.le_trans hb1.size hb2.size))
  have hR3 := (hB3.block w.heap.size (by rw [hsz0.out]; omega)).trans HR0.out
  have hOl : ((ofL bs).map V8).toArray.size = 32 := by simp [ofL_len]
  have hI9 : (Tryz.prog.info? 133).map (·.size) = some ((ofL bs).map V8).toArray.size := by rw [hOl]; kernel_rfl
  have hcs := all_oneCell_toArray (v8_cells (ofL bs))
  obtain ⟨C, hC⟩ : ∃ C, ((ofL bs).map V8).toArray = C := ⟨_, rfl⟩
  rw [hC] at hOl hI9 hcs ⊢
  have HCC := Lib.hid hC
  clear hC hnow hE hS1 hS2 hr2
  rename_i hKK
  refine hKK _ _ ?_
  refine wpList_store_row rfl 133 (.tmp 2) (.tmp 9) rfl w.heap.size C rfl rfl 133 _ hR3 hI9 (by rw [hOl]; rfl) hcs ?_
  have hg2 := setRow_heap w3 w.heap.size _ C _ _ hR3
  have hb2 : Below w.heap.size w (w3.setRow w.heap.size C) := below_setRow (hb0.trans (hB3.mono hb0.size)) (Nat.le_refl _) _
  generalize w3.setRow w.heap.size C = w4 at *
  show Exit.then _ _ Exit.normal _ _
  simp only [Exit.then]
  refine (by assumption : ∀ (a : Act) (w : World), Code.wp _ Code.ret _ a w → _) _ _ ?_
  go_wp2
  refine bodyPost_ret (results_cell_row rfl _ _ w.heap.size 133 C (0, 0) (.array 32 5) rfl hg2 Tryz.underlying133 rfl hI9) rfl ?_
  exact ⟨by rw [HCC.out], hb2⟩
def shortS (n x : Int) : Int := bits BinOp.or .u64 (IntKind.u64.wrap (n * 256)) x
def shortK (l : List Int) : Nat → Int
  | 0 => 0
  | k + 1 => shortS (shortK l k) (l.getD k 0)
def shortL (bs : List Int) : Int := shortK (ofL bs) 8
set_option maxHeartbeats 1600000 in
set_option maxRecDepth 100000 in
theorem short_any (bs : List Int) (v : Value) (w : World) (hb : ByAt w v bs) (hB : ByteL bs) (hv : ∀ p, v.ownBlock = some p → p < w.heap.size) (hl : bs.length ≤ 1000000000000) :
    Calls Tryz.prog 61 #[v] w fun e w' => e = .returned (.int .u64 (shortL bs)) ∧ Below w.heap.size w w' := by
  have hof := of_any bs v w hb hB hv hl
  clear hb hB hv hl
  go_enter Tryz.func61, Tryz.ntmps61
  go_upto_region 2 with fail
  go_wp2_with fail
  refine hof.mono ?_
  rintro e w1 ⟨rfl, hb1⟩
  have hbyte : Hid (ByteL (ofL bs)) := Lib.hid (outL_byte _ _)
  obtain ⟨F, hF⟩ : ∃ F, ofL bs = F := ⟨_, rfl⟩
  have hFl : F.length = 32 := by rw [← hF]; exact ofL_len bs
  have HSH : Hid (shortL bs = shortK F 8) := Lib.hid (by unfold shortL; rw [hF])
  rw [hF] at hbyte ⊢
  have hOl : (F.map V8).toArray.size = 32 := by simp [hFl]
  have hI9 : (Tryz.prog.info? 133).map (·.size) = some (F.map V8).toArray.size := by rw [hOl]; kernel_rfl
  have hcs := all_oneCell_toArray (v8_cells F)
  have hcell : ∀ k, k < 32 → (F.map V8).toArray[k]? = some (V8 (F.getD k 0)) := fun k hk => by
    rw [List.getElem?_toArray, List.getElem?_map, List.getD_eq_getElem?_getD, List.getElem?_eq_getElem (by omega)]; rfl
  have HC := Lib.hid hcell
  generalize (F.map V8).toArray = C at *
  clear hof hF hcell
  rename_i hKK
  refine hKK _ _ ?_
  refine Go.Great.wpList_allocTo rfl (some 4) rfl (.pointer (some ⟨w1.heap.size, 0, none⟩)) (.cells (Array.replicate 32 (.int .u8 0)) 133) (by go_simp; rfl) ?_
  refine wpList_store_row rfl 133 (.tmp 4) (.tmp 8) rfl w1.heap.size C rfl rfl 133 _ (heap_alloc_new _ _) hI9 (by rw [hOl]; rfl) hcs ?_
  have hg2 := setRow_heap (w1.alloc (.cells (Array.replicate 32 (.int .u8 0)) 133)) w1.heap.size _ C _ _ (heap_alloc_new _ _)
  have hb2 : Below w.heap.size w ((w1.alloc (.cells (Array.replicate 32 (.int .u8 0)) 133)).setRow w1.heap.size C) := below_setRow (hb1.alloc hb1.size _) hb1.size _
  generalize (w1.alloc (.cells (Array.replicate 32 (.int .u8 0)) 133)).setRow w1.heap.size C = w4 at *
  show Exit.then _ _ Exit.normal _ _
  simp only [Exit.then]
  have hc4 : Hid (∀ k, k < 32 → w4.cell? ⟨w1.heap.size, k, none⟩ = some (V8 (F.getD k 0))) := Lib.hid (fun k hk => by rw [cell_row hg2]; exact HC.out k hk)
  clear hg2 hI9 hcs hOl HC
  go_wp2
  go_loopw [11, 3] (fun i n wr => ∃ k : Nat, k ≤ 8 ∧ i = .int .i64 k ∧ n = .int .u64 (shortK F k) ∧ wr = w4) (fun i _ _ => 8 - (intOf i).toNat)
  case atStart => exact ⟨0, Nat.zero_le _, rfl, rfl, rfl⟩
  case round =>
    obtain ⟨k, hk, rfl, rfl, rfl⟩ := hrel
    by_cases hkl : k < 8
    · have hI : (k : Int) < 8 := by omega
      have g := hc4.out k (by omega)
      obtain ⟨x, hx⟩ : ∃ x, F.getD k 0 = x := ⟨_, rfl⟩
      have hxb : 0 ≤ x ∧ x < 256 := by
        rw [← hx, List.getD_eq_getElem?_getD, List.getElem?_eq_getElem (by omega)]
        exact hbyte.out _ (List.getElem_mem _)
      have q1 : IntKind.u64.wrap x = x := by simp [IntKind.wrap, IntKind.bits, IntKind.signed]; omega
      rw [hx] at g
      have HX := Lib.hid hx
      clear hx
      go_wp2
      go_roundw
      case rel => exact ⟨k + 1, by omega, by go_num, by rw [shortK, HX.out]; rfl, trivial⟩
      case measure => (simp [intOf]; try omega)
    · obtain rfl : k = 8 := by omega
      rw [show ((8 : Nat) : Int) = 8 from rfl]
      go_wp2
      go_ret
      exact ⟨by rw [HSH.out]; rfl, hb2⟩
end Go.Proofs.YtipnhpfpppblhaaGreat

/- alert.Id: a contract. -/
namespace Go.Proofs.YtipnhpfpppblhaaGreat
open Go.RowKit
def fldB (f : Fld) : List Int := byL f.1 ++ [61] ++ byL f.2 ++ [0]
def idB (src : ByteArray) (fl : List Fld) : List Int := byL src ++ [0] ++ fl.flatMap fldB
theorem idB_take {fl : List Fld} {k : Nat} (src : ByteArray) (h : k < fl.length) : idB src (fl.take (k + 1)) = idB src (fl.take k) ++ fldB fl[k] := by
  unfold idB
  rw [List.take_succ_eq_append_getElem h, List.flatMap_append]; simp
theorem idB_le (src : ByteArray) (fl : List Fld) (k : Nat) : (idB src (fl.take k)).length ≤ (idB src fl).length := by
  have : idB src fl = idB src (fl.take k) ++ (fl.drop k).flatMap fldB := by
    unfold idB
    rw [List.append_assoc _ _ ((fl.drop k).flatMap fldB), ← List.flatMap_append, List.take_append_drop]
  rw [this, List.length_append]; omega
theorem idB_byte (src : ByteArray) (fl : List Fld) : ByteL (idB src fl) := by
  intro x hx
  simp only [idB, List.mem_append, List.mem_flatMap, fldB] at hx
  rcases hx with (h | h) | ⟨f, _, ((h | h) | h) | h⟩
  · exact byL_byte src x h
  · obtain rfl := List.mem_singleton.1 h; omega
  · exact byL_byte f.1 x h
  · obtain rfl := List.mem_singleton.1 h; omega
  · exact byL_byte f.2 x h
  · obtain rfl := List.mem_singleton.1 h; omega
theorem wpList_append_cv {w W : World} {ops : Array Oper} {rest : List Oper} {o : Oper} {a : Act} {Q : Exit → Act → World → Prop} (hgd : o.guard = none) (s x : Operand)
    (ho : o.op = .call { callee := .builtin .append, args := #[s, x], argTypes := #[100, 100] }) (i0 : TypeInfo)
    (hi : Tryz.prog.info? 5 = some i0) (hz0 : i0.zero = some (.int .u8 0)) (hz1 : i0.size = 1) (hz2 : i0.bytes = 1)
    (str : ByteArray) (hs : a.eval s = .slice (some ⟨w.heap.size, 0, none⟩) str.size (cvC w str)) (hw : Below (cvW w str).heap.size (cvW w str) W) (hl : str.size ≤ 4000000)
    (u : Value) (c : Int) (hx : a.eval x = u) (hu : RdAt W u 1 1 [V8 c])
    (h : ∀ a' c' w', ByAt w' (.slice (some a') (str.size + 1) c') (byL str ++ [c]) → Below w.heap.size w w' → a'.block < w'.heap.size → wpList Tryz.prog ops Q rest (a.put o.dst (.slice (some a') (str.size + 1) c')) w') : wpList Tryz.prog ops Q (o :: rest) a W := by
  refine wpList_plain hgd fun K hK => ?_
  obtain ⟨a', c', w', hr, h2, h3, h4, _⟩ := run_append_cv w W str hw hl c u hu o.type i0 hi hz0 hz1 hz2
  unfold Oper.wp execOp
  simp only [ho, resolve, invoke, builtin, Sem.run_bind, Sem.run_pure, Result.andThen_ok, List.map_toArray, List.map_cons, List.map_nil, hs, hx, hr]
  exact hK _ _ (h a' c' w' h2 h3 h4)
theorem own_ltA {a : Addr} {n c m : Nat} (h : a.block < m) : ∀ p, (Value.slice (some a) n c).ownBlock = some p → p < m := by
  intro p hp
  have : a.block = p := by simpa [Value.ownBlock] using hp
  rw [← this]; exact h
theorem by_one (w : World) (x : Int) : ByAt (w.alloc (.cells #[V8 x] 5)) (.slice (some ⟨w.heap.size, 0, none⟩) 1 1) [x] := rd_one8 w (V8 x) 5
theorem pieces_at (w : World) (v : Value) (bs : List Int) (hv : ByAt w v bs) (n u : ByteArray) :
    SlsAt ((((((cvW w n).alloc (.cells #[V8 61] 5))) |> fun w2 => ((cvW w2 u).alloc (.cells #[V8 0] 5)) |> fun w4 => w4.alloc (.cells #[v, .slice (some ⟨w.heap.size, 0, none⟩) n.size (cvC w n), .slice (some ⟨(cvW w n).heap.size, 0, none⟩) 1 1, .slice (some ⟨w2.heap.size, 0, none⟩) u.size (cvC w2 u), .slice (some ⟨(cvW w2 u).heap.size, 0, none⟩) 1 1] 100))))
      ⟨((cvW ((cvW w n).alloc (.cells #[V8 61] 5)) u).alloc (.cells #[V8 0] 5)).heap.size, 0, none⟩
      [(v, bs), (.slice (some ⟨w.heap.size, 0, none⟩) n.size (cvC w n), byL n), (.slice (some ⟨(cvW w n).heap.size, 0, none⟩) 1 1, [61]), (.slice (some ⟨((cvW w n).alloc (.cells #[V8 61] 5)).heap.size, 0, none⟩) u.size (cvC ((cvW w n).alloc (.cells #[V8 61] 5)) u), byL u), (.slice (some ⟨(cvW ((cvW w n).alloc (.cells #[V8 61] 5)) u).heap.size, 0, none⟩) 1 1, [0])] := by
  dsimp only
  have b1 := cv_below w n
  have b2 := alloc_below (cvW w n) (.cells #[V8 61] 5)
  have r1 := cv_at w n
  have r2 := by_one (cvW w n) 61
  have s1 := cv_size w n
  have s2 : ((cvW w n).alloc (.cells #[V8 61] 5)).heap.size = (cvW w n).heap.size + 1 := World.size_alloc _ _
  generalize (cvW w n).alloc (.cells #[V8 61] 5) = w2 at *
  have b3 := cv_below w2 u
  have b4 := alloc_below (cvW w2 u) (.cells #[V8 0] 5)
  have r3 := cv_at w2 u
  have r4 := by_one (cvW w2 u) 0
  have s3 := cv_size w2 u
  have s4 : ((cvW w2 u).alloc (.cells #[V8 0] 5)).heap.size = (cvW w2 u).heap.size + 1 := World.size_alloc _ _
  generalize (cvW w2 u).alloc (.cells #[V8 0] 5) = w4 at *
  generalize hQ : (#[v, .slice (some ⟨w.heap.size, 0, none⟩) n.size (cvC w n), .slice (some ⟨(cvW w n).heap.size, 0, none⟩) 1 1, .slice (some ⟨w2.heap.size, 0, none⟩) u.size (cvC w2 u), .slice (some ⟨(cvW w2 u).heap.size, 0, none⟩) 1 1] : Array Value) = Q
  have b5 := alloc_below w4 (.cells Q 100)
  have hsz : w4.heap.size < (w4.alloc (.cells Q 100)).heap.size := by rw [World.size_alloc]; omega
  have hcell : ∀ j, (w4.alloc (.cells Q 100)).cell? ⟨w4.heap.size, 0 + j, none⟩ = Q[j]? := fun j => by rw [Nat.zero_add]; exact World.cell?_alloc_at _ _ _ _ rfl
  have b24 := b3.trans (b4.mono (by omega))
  have b25 := b24.trans (b5.mono (by omega))
  have b12 := b1.trans (b2.mono (by omega))
  have e0 : ByAt (w4.alloc (.cells Q 100)) v bs := hv.later (b12.trans (b25.mono (by omega)))
  have e1 := (r1.later b2).later b25
  have e2 := r2.later b25
  have e3 := (r3.later b4).later b5
  have e4 := r4.later b5
  refine ⟨w4.heap.size, 0, rfl, hsz, fun j hj => ?_⟩
  match j, hj with
  | 0, _ => exact ⟨by rw [hcell, ← hQ]; rfl, e0⟩
  | 1, _ => exact ⟨by rw [hcell, ← hQ]; rfl, e1⟩
  | 2, _ => exact ⟨by rw [hcell, ← hQ]; rfl, e2⟩
  | 3, _ => exact ⟨by rw [hcell, ← hQ]; rfl, e3⟩
  | 4, _ => exact ⟨by rw [hcell, ← hQ]; rfl, e4⟩
set_option maxHeartbeats 1600000 in
set_option maxRecDepth 100000 in
theorem id_any (src : ByteArray) (fl : List Fld) (lv : Int) (c : Nat) (fr til : Int) (v : Value) (w : World) (hv : FldsAt w v fl) (hl : (idB src fl).length ≤ 4000000) :
    Calls Tryz.prog 28 #[.agg #[.string src, v, .int .i64 lv, .int .u32 c, .int .i64 fr, .int .i64 til]] w fun e w' => e = .returned (.int .u64 (shortL (idB src fl))) ∧ Below w.heap.size w w' := by
  obtain ⟨fa, fc, rfl, hfc, hfr⟩ := RdAt.shape hv
  obtain ⟨i0, hi, hz0, hz1, hz2⟩ := info_parts info_u8
  have HF := Lib.hid hfr
  clear hfr hv
  have hsl : src.size ≤ 4000000 := by have := idB_le src fl 0; simp [idB, byL_len] at this hl; omega
  have hfl : fl.length ≤ 4000000 := by
    have : fl.length ≤ (fl.flatMap fldB).length := by
      clear hl HF hfc
      induction fl with
      | nil => simp
      | cons f l ih => simp only [List.flatMap_cons, List.length_append, fldB, List.length_cons, List.length_nil]; omega
    unfold idB at hl
    rw [List.length_append] at hl
    omega
  have kc := fun W => cv_run W src
  have HL := Lib.hid hl
  clear hl
  go_enter Tryz.func28, Tryz.ntmps28
  go_upto_region 1 with fail
  have hbx := alloc_below w (.cells #[.string src, .slice fa fl.length fc, .int .i64 lv, .int .u32 c, .int .i64 fr, .int .i64 til] 54)
  have hbox := box6 (Below.refl (w.alloc (.cells #[.string src, .slice fa fl.length fc, .int .i64 lv, .int .u32 c, .int .i64 fr, .int .i64 til] 54)).heap.size _)
  obtain ⟨⟨x0, x1, x2, x3, x4, x5⟩, hlt0, _⟩ := hbox
  generalize w.alloc (.cells #[.string src, .slice fa fl.length fc, .int .i64 lv, .int .u32 c, .int .i64 fr, .int .i64 til] 54) = w0 at *
  have hlt := Lib.hid hlt0
  clear hlt0
  have hcb := (cv_below w0 src)
  have hal := alloc_below (cvW w0 src) (.cells #[V8 0] 5)
  have hrd := rd_one8 (cvW w0 src) (V8 0) 5
  go_wp2_with (at_builtin; (refine wpList_append_cv (w := w0) rfl (.tmp 8) (.tmp 9) rfl i0 hi hz0 hz1 hz2 src rfl hal hsl _ 0 rfl hrd ?_); intro a1 c1 w1 hby1 hb1 hlt1; have hX1 := keep_cell x1 hb1 hlt.out)
  have hB1 := hbx.trans (hb1.mono (Nat.le_of_lt hlt.out))
  have hby1' := Lib.hid hby1
  have hlt1' := Lib.hid hlt1
  clear x0 x1 x2 x3 x4 x5 hcb hal hrd hby1 hlt1 hb1 hbx
  have HL2 := HL.out
  have hN0 : Hid (src.size + 1 = (idB src (fl.take 0)).length) := Lib.hid (by simp [idB, byL_len])
  have hby2 : Hid (ByAt w1 (.slice (some a1) (src.size + 1) c1) (idB src (fl.take 0))) := Lib.hid (by have := hby1'.out; simpa [idB] using this)
  have hown2 := Lib.hid (own_ltA (n := src.size + 1) (c := c1) hlt1'.out)
  clear hby1' HL2 hlt1'
  generalize hnn : src.size + 1 = nn at *
  clear hnn
  have hB1' := Lib.hid hB1
  clear hB1 hX1
  go_loopw [3, 14] (fun s i wr => ∃ (k n c' : Nat) (a' : Option Addr), k ≤ fl.length ∧ i = .int .i64 k ∧ s = .slice a' n c' ∧ Hid (n = (idB src (fl.take k)).length) ∧ Hid (ByAt wr (.slice a' n c') (idB src (fl.take k))) ∧ Hid (∀ p, (Value.slice a' n c').ownBlock = some p → p < wr.heap.size) ∧ Hid (Below w.heap.size w wr)) (fun _ i _ => fl.length - (intOf i).toNat)
  case atStart => exact ⟨0, nn, c1, some a1, Nat.zero_le _, rfl, rfl, hN0, hby2, hown2, hB1'⟩
  case round =>
    clear hN0 hby2 hown2 hB1'
    obtain ⟨k, n, c', a', hk, rfl, rfl, HN, HB, HO, Hb⟩ := hrel
    by_cases hkl : k < fl.length
    · obtain ⟨b, o, rfl, hb, hcell⟩ := HF.out (by omega)
      obtain ⟨x, hxe⟩ : ∃ x, fl[k].1 = x := ⟨_, rfl⟩
      obtain ⟨y, hye⟩ : ∃ y, fl[k].2 = y := ⟨_, rfl⟩
      obtain ⟨hx0, hy0⟩ := fldCells_at fl k hkl
      rw [hxe] at hx0
      rw [hye] at hy0
      have hcx : wr.cell? ⟨b, o + k * 2, none⟩ = some (.string x) := keep_cell (hcell _ _ hx0) Hb.out hb
      have hcy : wr.cell? ⟨b, o + k * 2 + 1, none⟩ = some (.string y) := keep_cell (hcell _ _ hy0) Hb.out hb
      have hE : Hid (fldB fl[k] = byL x ++ [61] ++ byL y ++ [0]) := Lib.hid (by unfold fldB; rw [hxe, hye])
      have kcx := fun W => cv_run W x
      have kcy := fun W => cv_run W y
      clear hcell hxe hye hx0 hy0
      go_upto_region 5 with fail
      have hbx := box2 (Below.refl (wr.alloc (.cells #[.string x, .string y] 90)).heap.size _)
      obtain ⟨y0, y1, hlw, hbw⟩ := hbx
      have HBa : ByAt (wr.alloc (.cells #[.string x, .string y] 90)) (.slice a' n c') (idB src (fl.take k)) := HB.out.later hbw
      change Code.wp _ _ _ _ (wr.alloc (.cells #[.string x, .string y] 90))
      generalize wr.alloc (.cells #[.string x, .string y] 90) = wa at *
      have b1 := (cv_below wa x).trans ((alloc_below (cvW wa x) (.cells #[V8 61] 5)).mono (by rw [cv_size]; omega))
      have y1' := keep_cell y1 b1 hlw
      have hps := pieces_at wa _ _ HBa x y
      dsimp only at hps
      have hE2 : sumL [((Value.slice a' n c'), idB src (fl.take k)), (.slice (some ⟨wa.heap.size, 0, none⟩) x.size (cvC wa x), byL x), (.slice (some ⟨(cvW wa x).heap.size, 0, none⟩) 1 1, [61]), (.slice (some ⟨((cvW wa x).alloc (.cells #[V8 61] 5)).heap.size, 0, none⟩) y.size (cvC ((cvW wa x).alloc (.cells #[V8 61] 5)) y), byL y), (.slice (some ⟨(cvW ((cvW wa x).alloc (.cells #[V8 61] 5)) y).heap.size, 0, none⟩) 1 1, [0])] = idB src (fl.take (k + 1)) := by
        rw [idB_take src hkl, hE.out]; simp only [sumL, List.flatMap_cons, List.flatMap_nil, List.append_nil, List.append_assoc]
      have hlen := idB_le src fl (k + 1)
      have hpos : 0 < (idB src (fl.take (k + 1))).length := by unfold idB; simp only [List.length_append, List.length_cons]; omega
      have hcc := concat_any _ _ 5 _ hps (by rw [hE2]; exact hpos) (by rw [hE2]; have := HL.out; omega) (by simp)
      rw [hE2] at hcc
      have kcx1 := cv_run wa x
      have kcy1 := cv_run ((cvW wa x).alloc (.cells #[V8 61] 5)) y
      have hsz := cv_below wa x
      clear hps hE2 HBa hpos b1 y1 hlen hlw HN HB HO HF hE hb kcx kcy
      generalize hwb : cvW wa x = wb at *
      generalize hwd : cvW (wb.alloc (.cells #[V8 61] 5)) y = wd at *
      generalize cvC wa x = cx at *
      generalize cvC (wb.alloc (.cells #[V8 61] 5)) y = cy at *
      simp only [World.size_alloc] at hcc kcy1
      have HCC := Lib.hid hcc
      have HY := Lib.hid hbw
      have HWB := Lib.hid hwb
      have HWD := Lib.hid hwd
      clear hcc hbw hwb hwd hsz
      go_wp2_with fail
      refine HCC.out.mono ?_
      rintro e w2 ⟨v2, rfl, hown, hb2⟩
      have q1 : Below wa.heap.size wa wb := by rw [← HWB.out]; exact cv_below wa x
      have q2 := alloc_below wb (.cells #[V8 61] 5)
      have q3 : Below (wb.alloc (.cells #[V8 61] 5)).heap.size (wb.alloc (.cells #[V8 61] 5)) wd := by rw [← HWD.out]; exact cv_below _ y
      have q4 := alloc_below wd (.cells #[V8 0] 5)
      have q5 := ((q1.trans (q2.mono q1.size)).trans (q3.mono (by have := q1.size; have := q2.size; omega))).trans (q4.mono (by have := q1.size; have := q2.size; have := q3.size; omega))
      have q6 := q5.trans ((alloc_below _ (.cells #[.slice a' n c', .slice (some ⟨wa.heap.size, 0, none⟩) x.size cx, .slice (some ⟨wb.heap.size, 0, none⟩) 1 1, .slice (some ⟨wb.heap.size + 1, 0, none⟩) y.size cy, .slice (some ⟨wd.heap.size, 0, none⟩) 1 1] 100)).mono q5.size)
      have q6s := q6.size
      simp only [World.size_alloc] at q6s
      have q7 := HY.out.trans ((q6.trans (hb2.mono q6s)).mono HY.out.size)
      have hB2 := Hb.out.trans (q7.mono Hb.out.size)
      obtain ⟨a2, c2, rfl, _, _⟩ := RdAt.shape (RdAt.own hown)
      have hO2 : ∀ p, (Value.slice a2 (idB src (fl.take (k + 1))).length c2).ownBlock = some p → p < w2.heap.size := fun p hp => (hown.lt p hp).2
      have hBy : ByAt w2 (.slice a2 (idB src (fl.take (k + 1))).length c2) (idB src (fl.take (k + 1))) := RdAt.own hown
      have HO2 := Lib.hid hO2
      have HBy := Lib.hid hBy
      have HB2 := Lib.hid hB2
      obtain ⟨nx, hnx⟩ : ∃ z, (idB src (fl.take (k + 1))).length = z := ⟨_, rfl⟩
      rw [hnx] at HO2 HBy
      have HNX := Lib.hid hnx
      clear q1 q2 q3 q4 q5 q6 q6s q7 hown hb2 hO2 hBy hB2 HCC HY HWB HWD kcx1 kcy1 y0 y1' hcx hcy Hb
      try rw [hnx]
      clear hnx
      go_wp2
      go_roundw
      case rel => exact ⟨k + 1, nx, c2, a2, by omega, by go_num, rfl, Lib.hid HNX.out.symm, HBy, HO2, HB2⟩
      case measure => (simp [intOf]; try omega)
    · obtain rfl : k = fl.length := by omega
      have hbs : ByAt wr (.slice a' n c') (idB src fl) := by have := HB.out; rwa [List.take_length] at this
      have hn : n = (idB src fl).length := by have := HN.out; rwa [List.take_length] at this
      subst hn
      have hsh := short_any (idB src fl) (.slice a' (idB src fl).length c') wr hbs (idB_byte src fl) HO.out (by have := HL.out; omega)
      have HSH := Lib.hid hsh
      clear hsh hbs HB HN HO
      go_wp2_with fail
      refine HSH.out.mono ?_
      rintro e w2 ⟨rfl, hb2⟩
      have hB2 := Hb.out.trans (hb2.mono Hb.out.size)
      go_wp2
      go_ret
      exact ⟨rfl, hB2⟩
end Go.Proofs.YtipnhpfpppblhaaGreat

/- Alerts that may be: what Apart puts. Plain. -/
namespace Go.Proofs.YtipnhpfpppblhaaGreat
open Go.RowKit Go.Maps
theorem nameL_len {s : ByteArray} (h : nameL (B s) = true) : s.size ≤ 12 := by
  unfold nameL at h
  simp only [Bool.and_eq_true, decide_eq_true_eq] at h
  have := h.1.1.2
  rwa [len_B] at this
theorem rightF_at {l : List Fld} (h : rightF l = true) : l.length ≤ 8 ∧ ∀ j (hj : j < l.length), nameL (B l[j].1) = true ∧ l[j].2.size ≤ 200 := by
  unfold rightF at h
  simp only [Bool.and_eq_true, decide_eq_true_eq, List.all_eq_true, List.mem_range] at h
  refine ⟨h.1, fun j hj => ?_⟩
  have := h.2 j hj
  unfold fldOk at this
  simp only [Bool.and_eq_true, decide_eq_true_eq] at this
  have e : l.getD j default = l[j] := by rw [List.getD_eq_getElem?_getD, List.getElem?_eq_getElem hj]; rfl
  rw [e] at this
  exact ⟨this.1.1, this.1.2⟩
theorem flat_le (l : List Fld) (h : ∀ f ∈ l, f.1.size ≤ 12 ∧ f.2.size ≤ 200) : (l.flatMap fldB).length ≤ l.length * 214 := by
  induction l with
  | nil => simp
  | cons f l ih =>
    have h1 := ih (fun g hg => h g (List.mem_cons_of_mem _ hg))
    obtain ⟨h2, h3⟩ := h f List.mem_cons_self
    rw [List.flatMap_cons, List.length_append, List.length_cons]
    have : (fldB f).length = f.1.size + 1 + f.2.size + 1 := by simp [fldB, byL_len]; omega
    omega
theorem whoA_iff {src : ByteArray} {fl : List Fld} {lv : Int} : whoA src fl lv = true ↔ nameL (B src) = true ∧ 0 < fl.length ∧ rightF fl = true ∧ rightL lv = true := by
  unfold whoA
  simp only [Bool.and_eq_true, decide_eq_true_eq, and_assoc]
theorem idB_bound {src : ByteArray} {fl : List Fld} {lv : Int} (h : whoA src fl lv = true) : (idB src fl).length ≤ 4000000 := by
  obtain ⟨h1, _, h3, _⟩ := whoA_iff.1 h
  have h4 := nameL_len h1
  obtain ⟨h5, h6⟩ := rightF_at h3
  have h7 := flat_le fl (fun f hf => by
    obtain ⟨j, hj, rfl⟩ := List.getElem_of_mem hf
    obtain ⟨a, b⟩ := h6 j hj
    exact ⟨nameL_len a, b⟩)
  unfold idB
  simp only [List.length_append, byL_len, List.length_cons, List.length_nil]
  omega
theorem rightA_who {x : Al} (h : rightA x = true) : whoA x.src x.fl x.lv = true := by
  unfold rightA at h
  simp only [Bool.and_eq_true] at h
  exact h.1.1
def idA (x : Al) : Int := shortL (idB x.src x.fl)
end Go.Proofs.YtipnhpfpppblhaaGreat

/- inhibit.by: a contract. -/
namespace Go.Proofs.YtipnhpfpppblhaaGreat
open Go.RowKit Go.Shelf
attribute [local go_sem] Oper.semAt_some
theorem rightA_len {x : Al} (h : rightA x = true) : x.fl.length ≤ 8 := by
  obtain ⟨_, _, h3, _⟩ := whoA_iff.1 (rightA_who h)
  exact (rightF_at h3).1
theorem ih_len {x : PIh} (h : badIh x = false) : x.bys.length ≤ 8 ∧ x.frm.length ≤ 12 ∧ x.whn.length ≤ 12 := by
  unfold badIh byP whenP at h
  simp only [Bool.or_eq_false_iff, Bool.not_eq_false', Bool.and_eq_true, decide_eq_true_eq] at h
  exact ⟨h.1.1.1.2, h.1.2.2, h.2.2⟩
noncomputable def goodBy (x : PIh) (id : Int) (c : List Fld) (p : Al) : Bool := allM p.fl x.frm && alikeM x.bys p.fl c && (idA p != id)
noncomputable def byM (x : PIh) (l : List (Al × Value)) (id : Int) (c : List Fld) (now : Int) : Bool := allM c x.whn && (l.filter (goesA now)).any fun p => goodBy x id c p.1
set_option maxHeartbeats 3200000 in
set_option maxRecDepth 100000 in
theorem by_any (x : PIh) (l : List (Al × Value)) (id : Int) (c : Al) (lv : Value) (fa : Option Addr) (fc : Nat) (now : Int) (w : World) (hx : IhIn w x) (hxf : IhFit x) (hok : badIh x = false) (hl : AlsAt w lv l) (hlen : l.length ≤ maxLen) (hc : FldsAt w (.slice fa c.fl.length fc) c.fl) (hcf : FldsFit c.fl) (hcl : c.fl.length ≤ 1000000000000) :
    Calls Tryz.prog 30 #[.agg #[x.bv, .int .i64 x.lv, .int .u32 x.c, x.fv, x.wv], lv, .int .u64 id, AlV c (.slice fa c.fl.length fc), .int .i64 now] w fun e w' => e = .returned (.bool (byM x l id c.fl now)) ∧ Below w.heap.size w w' := by
  obtain ⟨n1, n2, n3⟩ := ih_len hok
  have KW := Lib.hid (fun V (h : Below w.heap.size w V) => all_any c.fl x.whn _ x.wv V (hc.later h) hcl hcf (hx.m.later h) (by omega) hxf.whn)
  have KM := Lib.hid (fun (p : Al × Value) (hp : p ∈ l) (hr : rightA p.1 = true) V (h : Below w.heap.size w V) => all_any p.1.fl x.frm p.2 x.fv V ((hl.fld p hp).1.later h) (by have := rightA_len hr; omega) (hl.fld p hp).2.fl (hx.f.later h) (by omega) hxf.frm)
  have KA := Lib.hid (fun (p : Al × Value) (hp : p ∈ l) (hr : rightA p.1 = true) V (h : Below w.heap.size w V) => alike_any x.bys p.1.fl c.fl x.bv p.2 _ V (RdAt.later hx.b h) ((hl.fld p hp).1.later h) (hc.later h) (by omega) (by have := rightA_len hr; omega) hcl)
  have KI := Lib.hid (fun (p : Al × Value) (hp : p ∈ l) (hr : rightA p.1 = true) V (h : Below w.heap.size w V) => id_any p.1.src p.1.fl p.1.lv p.1.c p.1.fr p.1.til p.2 V ((hl.fld p hp).1.later h) (idB_bound (rightA_who hr)))
  have HBY : Hid (byM x l id c.fl now = (allM c.fl x.whn && (l.filter (goesA now)).any fun p => goodBy x id c.fl p.1)) := Lib.hid rfl
  have HGD : Hid (∀ p, goodBy x id c.fl p = (allM p.fl x.frm && alikeM x.bys p.fl c.fl && (idA p != id))) := Lib.hid (fun _ => rfl)
  obtain ⟨la, lc, rfl, hlc, _⟩ := RdAt.shape hl.row
  have HL := Lib.hid hl
  have HFD := Lib.hid (fun p hp => (hl.fld p hp).1)
  generalize goodBy x id c.fl = GD at *
  generalize byM x l id c.fl now = R at *
  obtain ⟨bys, xlv, xc, frm, whn, bv, fv, wv⟩ := x
  dsimp only at *
  obtain ⟨ba, bc, hba, _, _⟩ := RdAt.shape hx.b
  dsimp only at hba
  subst hba
  obtain ⟨ra, rc, hra, _, _⟩ := RdAt.shape hx.f
  dsimp only at hra
  subst hra
  obtain ⟨wa, wc, hwa, _, _⟩ := RdAt.shape hx.m
  dsimp only at hwa
  subst hwa
  obtain ⟨src, fl, alv, ac, fr, til⟩ := c
  dsimp only at *
  obtain ⟨W1, hW1⟩ : ∃ z, w.alloc (.cells #[.slice ba bys.length bc, .int .i64 xlv, .int .u32 xc, .slice ra frm.length rc, .slice wa whn.length wc] 51) = z := ⟨_, rfl⟩
  have g1 : C5 w.heap.size (.slice ba bys.length bc) (.int .i64 xlv) (.int .u32 xc) (.slice ra frm.length rc) (.slice wa whn.length wc) W1 := by rw [← hW1]; exact box5n w _ _ _ _ _ _
  have s1 : W1.heap.size = w.heap.size + 1 := by rw [← hW1, World.size_alloc]
  have b1 : Below w.heap.size w W1 := by rw [← hW1]; exact alloc_below _ _
  obtain ⟨W2, hW2⟩ : ∃ z, W1.alloc (.cells #[.int .u64 id] 69) = z := ⟨_, rfl⟩
  have g2 : W2.cell? ⟨w.heap.size + 1, 0, none⟩ = some (.int .u64 id) := by rw [← s1, ← hW2, cell_of_row _ _ _ _ _ _ (heap_alloc_new W1 _)]; rfl
  have s2 : W2.heap.size = w.heap.size + 1 + 1 := by rw [← hW2, World.size_alloc, s1]
  have b2 : Below W1.heap.size W1 W2 := by rw [← hW2]; exact alloc_below _ _
  obtain ⟨W3, hW3⟩ : ∃ z, W2.alloc (.cells #[.string src, .slice fa fl.length fc, .int .i64 alv, .int .u32 ac, .int .i64 fr, .int .i64 til] 54) = z := ⟨_, rfl⟩
  have g3 : C6 (w.heap.size + 1 + 1) (.string src) (.slice fa fl.length fc) (.int .i64 alv) (.int .u32 ac) (.int .i64 fr) (.int .i64 til) W3 := by rw [← s2, ← hW3]; exact box6n W2 _ _ _ _ _ _ _
  have s3 : W3.heap.size = w.heap.size + 1 + 1 + 1 := by rw [← hW3, World.size_alloc, s2]
  have b3 : Below W2.heap.size W2 W3 := by rw [← hW3]; exact alloc_below _ _
  obtain ⟨W4, hW4⟩ : ∃ z, W3.alloc (.cells #[.bool false] 4) = z := ⟨_, rfl⟩
  have g4 : W4.heap[w.heap.size + 1 + 1 + 1]? = some (.cells #[.bool false] 4 (0, 0)) := by rw [← s3, ← hW4]; exact World.alloc_heap_new W3 _
  have s4 : W4.heap.size = w.heap.size + 1 + 1 + 1 + 1 := by rw [← hW4, World.size_alloc, s3]
  have b4 : Below W3.heap.size W3 W4 := by rw [← hW4]; exact alloc_below _ _
  have hB4 : Below w.heap.size w W4 := ((b1.trans (b2.mono b1.size)).trans (b3.mono (by omega))).trans (b4.mono (by omega))
  have G1 := Lib.hid (((g1.later b2 (by omega)).later b3 (by omega)).later b4 (by omega))
  have G2 := Lib.hid (keep_cell (keep_cell g2 b3 (by show w.heap.size + 1 < W2.heap.size; omega)) b4 (by show w.heap.size + 1 < W3.heap.size; omega))
  have G3 := Lib.hid (g3.later b4 (by omega))
  have G4 : Boxed W4 (w.heap.size + 1 + 1 + 1) 4 (.bool false) := g4
  have S4 := Lib.hid s4
  have B4 := Lib.hid hB4
  clear hx hxf hok hl hc hcf n1 n2 n3 g1 g2 g3 g4 b1 b2 b3 b4 hB4
  obtain ⟨r0, r1, r2, r3, r4⟩ := G1.out
  obtain ⟨x0, x1, x2, x3, x4, x5⟩ := G3.out
  have c4 := G4.cell
  have f4 := G4.frozen
  refine (callsIn_wide (n := 6)).1 ?_
  refine callsIn_of_wp_marks Tryz.func30 rfl trivial ?_ rfl
  simp only [Tryz.ntmps30, List.size_toArray, List.length_cons, List.length_nil, Nat.reduceAdd, Nat.reduceSub, Array.replicate_succ, Array.replicate_zero, List.push_toArray, List.append_toArray, List.nil_append, List.cons_append]
  gi_wp2_with fail
  refine ⟨trivial, ?_⟩
  have kk := KW.out _ B4.out
  cases hwh : allM fl whn
  · have HF : Hid (R = false) := Lib.hid (by rw [HBY.out, hwh]; rfl)
    rw [hwh] at kk
    clear hwh
    refine (callsIn_wide.2 kk).mono ?_
    rintro e w5 ⟨rfl, hb5⟩
    have G5 := G4.kept (below_grown hb5 none) (by simp)
    have HB5 := Lib.hid (B4.out.trans (hb5.mono B4.out.size))
    have c4 := G5.cell
    have f4 := G5.frozen
    clear kk hb5 r0 r1 r2 r3 r4 x0 x1 x2 x3 x4 x5 hW1 hW2 hW3 hW4 s1 s2 s3 s4
    gi_wp2
    refine ⟨.bool false, ?_, by rw [HF.out], HB5.out.setCell (p := ⟨w.heap.size + 1 + 1 + 1, 0, none⟩) (by show w.heap.size ≤ w.heap.size + 1 + 1 + 1; omega) _⟩
    have hc := (G5.set (.bool false)).cell
    simp [results, Tryz.f30, go_sem, hc]
  · rw [hwh] at kk
    have HWH := Lib.hid hwh
    clear hwh
    refine (callsIn_wide.2 kk).mono ?_
    rintro e w5 ⟨rfl, hb5⟩
    have hB5 := B4.out.trans (hb5.mono B4.out.size)
    have G5 := G4.kept (below_grown hb5 none) (by simp)
    have hs5 := hb5.size
    have D1 := Lib.hid (C5.later G1.out hb5 (by omega))
    have D2 := Lib.hid (keep_cell G2.out hb5 (by omega))
    have D3 := Lib.hid (C6.later G3.out hb5 (by omega))
    rw [s4] at hs5
    have HB5 := Lib.hid hB5
    clear kk hb5 hB5 r0 r1 r2 r3 r4 x0 x1 x2 x3 x4 x5 hW1 hW2 hW3 hW4 s1 s2 s3 s4 G4 c4 f4
    gi_wp2_with fail
    refine ⟨trivial, ?_⟩
    refine (callsIn_wide.2 (firing_any la l.length lc now _)).mono ?_
    rintro e w6 ⟨rfl, hw6⟩
    have e0 : w6.cell? ⟨w5.heap.size, 0, none⟩ = some (.slice la l.length lc) := by
      rw [hw6, World.cell?_alloc_lt _ _ _ (by rw [World.size_alloc]; exact Nat.lt_succ_self _), cell_of_row _ _ _ _ _ _ (heap_alloc_new w5 _)]; rfl
    have e1 : w6.cell? ⟨w5.heap.size + 1, 0, none⟩ = some (.int .i64 now) := by
      rw [hw6, ← World.size_alloc w5 (.cells #[.slice la l.length lc] 31), cell_of_row _ _ _ _ _ _ (heap_alloc_new _ _)]; rfl
    have hb6 : Below w5.heap.size w5 w6 := by rw [hw6]; exact (alloc_below _ _).trans ((alloc_below _ _).mono (by rw [World.size_alloc]; omega))
    have hs6 : w6.heap.size = w5.heap.size + 1 + 1 := by rw [hw6, World.size_alloc, World.size_alloc]
    have G6 := G5.kept (below_grown hb6 none) (by simp)
    have D1 := Lib.hid (C5.later D1.out hb6 (by omega))
    have D2 := Lib.hid (keep_cell D2.out hb6 (by show w.heap.size + 1 < w5.heap.size; omega))
    have D3 := Lib.hid (C6.later D3.out hb6 (by omega))
    have hB6 := HB5.out.trans (hb6.mono HB5.out.size)
    have HL6 := HL.out.later hB6
    clear hw6 hb6 G5
    gi_wp2_with fail
    refine wpIn_rangeFunc_ownH rfl (by omega) (gf := 92) (lb := #[.pointer (some ⟨w5.heap.size, 0, none⟩), .pointer (some ⟨w5.heap.size + 1, 0, none⟩)]) rfl trivial (enters_of Tryz.func92 (by kernel_rfl) rfl)
      (firing_stops (6 - 1) (by omega) l now w5.heap.size w6 _ HL6 hlen e0 e1 (by omega)) belowK_t (belowK_b (Nat.le_refl _)) (Below.refl _ _) (fun _ => rfl)
      (fun pre W => Below w6.heap.size w6 W ∧ ∀ y ∈ pre, GD y.1.1 = false)
      (fun c pre W => c = .ret ∧ (∃ y ∈ pre, GD y.1.1 = true) ∧ W.cell? ⟨w.heap.size + 1 + 1 + 1, 0, none⟩ = some (.bool true) ∧ Below w.heap.size w W)
      (OwnFrom.and (ownFrom_below (Nat.le_refl _) (Nat.le_refl _)) (ownFrom_pure _ _))
      (fun c => OwnFrom.and (ownFrom_pure _ (fun _ => c = .ret)) (OwnFrom.and (ownFrom_pure _ _) (OwnFrom.and (Own.from (fun s A B row hs hg hr => cell_kept hs hg hr) _) (ownFrom_below (Nat.le_refl _) (by omega)))))
      ⟨Below.refl _ _, fun y hy => by cases hy⟩
      (fun x a' W => ∃ Bx, w6.heap.size ≤ Bx ∧ Bx < W.heap.size ∧ C6 Bx (.string x.1.1.src) x.1.2 (.int .i64 x.1.1.lv) (.int .u32 x.1.1.c) (.int .i64 x.1.1.fr) (.int .i64 x.1.1.til) W ∧ a' = { tmps := #[.agg #[.slice ba bys.length bc, .int .i64 xlv, .int .u32 xc, .slice ra frm.length rc, .slice wa whn.length wc], .slice la l.length lc, .int .u64 id, AlV { src := src, fl := fl, lv := alv, c := ac, fr := fr, til := til } (.slice fa fl.length fc), .int .i64 now, .pointer (some ⟨w.heap.size, 0, none⟩), undef, .pointer (some ⟨w.heap.size + 1, 0, none⟩), .pointer (some ⟨w.heap.size + 1 + 1, 0, none⟩), undef, .pointer (some ⟨w.heap.size + 1 + 1 + 1, 0, none⟩), .pointer (some ⟨Bx, 0, none⟩), .pointer (some ⟨w.heap.size + 1 + 1, 1, none⟩), .slice fa fl.length fc, .pointer (some ⟨w.heap.size, 4, none⟩), .slice wa whn.length wc, .bool true, .bool false, .slice la l.length lc, .int .i64 now, .func (.func 92) #[] #[.pointer (some ⟨w5.heap.size, 0, none⟩), .pointer (some ⟨w5.heap.size + 1, 0, none⟩)], AlV x.1.1 x.1.2, undef, undef, undef, undef, undef, undef, undef, undef, undef, undef, undef, undef, undef, undef, undef, undef, undef, undef, undef, undef], defers := [] })
      (fun x a' _ X Y row hs hg hr => by
        obtain ⟨Bx, h1, h2, ⟨z0, z1, z2, z3, z4, z5⟩, h4⟩ := hs
        have hr' := fun r e => (hr r e).2
        exact ⟨Bx, h1, Nat.lt_of_lt_of_le h2 hg.size, ⟨cell_kept z0 hg hr', cell_kept z1 hg hr', cell_kept z2 hg hr', cell_kept z3 hg hr', cell_kept z4 hg hr', cell_kept z5 hg hr'⟩, h4⟩)
      ?assign ?body ?done ?stop
    case assign =>
      rintro id' pre ⟨⟨⟨src', fl', lv', c', fr', til'⟩, fv'⟩, hp, hright⟩ W K ⟨hB, hno⟩ hK
      obtain ⟨fa', fc', hfv, _, _⟩ := RdAt.shape (HFD.out _ hp)
      dsimp only at hfv
      subst hfv
      have hKK := Lib.hid hK
      clear hK
      gi_wp2
      refine hKK.out _ _ ((KeepsOthers.alloc _ _).from _) ((Below.refl _ W).alloc hB.size _) ⟨hB.alloc hB.size _, hno⟩ ⟨W.heap.size, hB.size, by rw [World.size_alloc]; omega, box6n W _ _ _ _ _ _ _, rfl⟩
    case body =>
      rintro id' pre ⟨⟨⟨src', fl', lv', c', fr', til'⟩, fv'⟩, hp, hright⟩ a' W hid ⟨rr, hrr⟩ ⟨hB, hno⟩ ⟨Bx, hBx, hBl, hCA, rfl⟩ hlt
      obtain ⟨fa', fc', hfv, _, _⟩ := RdAt.shape (HFD.out _ hp)
      dsimp only at hfv
      subst hfv
      have KM' := Lib.hid (fun V h => KM.out _ hp hright V h)
      have KA' := Lib.hid (fun V h => KA.out _ hp hright V h)
      have KI' := Lib.hid (fun V h => KI.out _ hp hright V h)
      have HG1 := Lib.hid (HGD.out ⟨src', fl', lv', c', fr', til'⟩)
      have hId : idA ⟨src', fl', lv', c', fr', til'⟩ = shortL (idB src' fl') := rfl
      rw [hId] at HG1
      dsimp only at *
      have HNO := Lib.hid hno
      have HBW := Lib.hid hB
      have hBw := hB6.trans (hB.mono hB6.size)
      have HBw := Lib.hid hBw
      obtain ⟨r0, r1, r2, r3, r4⟩ := C5.later D1.out hB (by omega)
      have i0 := keep_cell D2.out hB (by show w.heap.size + 1 < w6.heap.size; omega)
      obtain ⟨x0, x1, x2, x3, x4, x5⟩ := C6.later D3.out hB (by omega)
      have G7 := G6.kept (below_grown hB none) (by simp)
      obtain ⟨y0, y1, y2, y3, y4, y5⟩ := hCA
      have hsw := hB.size
      have ltr : w.heap.size < W.heap.size := by omega
      have lti : w.heap.size + 1 < W.heap.size := by omega
      have ltx : w.heap.size + 1 + 1 < W.heap.size := by omega
      have KEEP : Hid (∀ (e : Bool) (V : World), Below W.heap.size W V → (GD ⟨src', fl', lv', c', fr', til'⟩ = e) → e = false → KeepsFrom w6.heap.size W V ∧ Below w6.heap.size W V ∧ Below w6.heap.size w6 V ∧ ∀ y ∈ pre ++ [(⟨(⟨src', fl', lv', c', fr', til'⟩, .slice fa' fl'.length fc'), hp, hright⟩ : AlIn l)], GD y.1.1 = false) := Lib.hid (by
        intro e V hV hg he
        refine ⟨(KeepsOthers.of_grownBy (below_grown hV none) (fun j o e => by cases e)).from _, hV.mono hsw, hB.trans (hV.mono hsw), ?_⟩
        intro y hy
        rcases List.mem_append.1 hy with h | h
        · exact hno y h
        · rw [List.mem_singleton.1 h]; rw [← he, ← hg])
      have LEAVE : Hid (∀ (V : World), Below W.heap.size W V → (GD ⟨src', fl', lv', c', fr', til'⟩ = true) → KeepsFrom w6.heap.size W (V.setCell ⟨w.heap.size + 1 + 1 + 1, 0, none⟩ (.bool true)) ∧ Code.ret = Code.ret ∧ (∃ y ∈ pre ++ [(⟨(⟨src', fl', lv', c', fr', til'⟩, .slice fa' fl'.length fc'), hp, hright⟩ : AlIn l)], GD y.1.1 = true) ∧ (V.setCell ⟨w.heap.size + 1 + 1 + 1, 0, none⟩ (.bool true)).cell? ⟨w.heap.size + 1 + 1 + 1, 0, none⟩ = some (.bool true) ∧ Below w.heap.size w (V.setCell ⟨w.heap.size + 1 + 1 + 1, 0, none⟩ (.bool true))) := Lib.hid (by
        intro V hV hg
        have G8 := G7.kept (below_grown hV none) (by simp)
        refine ⟨((KeepsOthers.of_grownBy (below_grown hV none) (fun j o e => by cases e)).trans (KeepsOthers.setCell _ _ _)).from _, rfl, ⟨_, List.mem_append.2 (.inr (List.mem_singleton.2 rfl)), hg⟩, (G8.set (.bool true)).cell, ?_⟩
        exact (hBw.trans (hV.mono hBw.size)).setCell (p := ⟨w.heap.size + 1 + 1 + 1, 0, none⟩) (by show w.heap.size ≤ w.heap.size + 1 + 1 + 1; omega) _)
      have GG7 := Lib.hid G7
      have c4 := G7.cell
      have f4 := G7.frozen
      clear hB hno hBw HNO HL6 e0 e1 D1 D2 D3 hB6 HFD KM KA KI HGD G6 G7 hId
      gi_wp2_with fail
      cases hAM : allM fl' frm
      · have HF : Hid (GD ⟨src', fl', lv', c', fr', til'⟩ = false) := Lib.hid (by rw [HG1.out, hAM]; rfl)
        have kk := KM'.out W.drew (HBw.out.trans ((Below.refl _ _).drew.mono HBw.out.size))
        rw [hAM] at kk
        clear hAM HG1
        refine region_inRound (S := (fun W => W.cell? ⟨w.heap.size, 0, none⟩ = some (.slice ba bys.length bc) ∧ W.cell? ⟨w.heap.size, 1, none⟩ = some (.int .i64 xlv) ∧ W.cell? ⟨w.heap.size, 2, none⟩ = some (.int .u32 xc) ∧ W.cell? ⟨w.heap.size, 3, none⟩ = some (.slice ra frm.length rc) ∧ W.cell? ⟨w.heap.size, 4, none⟩ = some (.slice wa whn.length wc) ∧ W.cell? ⟨w.heap.size + 1, 0, none⟩ = some (.int .u64 id) ∧ W.cell? ⟨w.heap.size + 1 + 1, 0, none⟩ = some (.string src) ∧ W.cell? ⟨w.heap.size + 1 + 1, 1, none⟩ = some (.slice fa fl.length fc) ∧ W.cell? ⟨w.heap.size + 1 + 1, 2, none⟩ = some (.int .i64 alv) ∧ W.cell? ⟨w.heap.size + 1 + 1, 3, none⟩ = some (.int .u32 ac) ∧ W.cell? ⟨w.heap.size + 1 + 1, 4, none⟩ = some (.int .i64 fr) ∧ W.cell? ⟨w.heap.size + 1 + 1, 5, none⟩ = some (.int .i64 til) ∧ W.cell? ⟨Bx, 0, none⟩ = some (.string src') ∧ W.cell? ⟨Bx, 1, none⟩ = some (.slice fa' fl'.length fc') ∧ W.cell? ⟨Bx, 2, none⟩ = some (.int .i64 lv') ∧ W.cell? ⟨Bx, 3, none⟩ = some (.int .u32 c') ∧ W.cell? ⟨Bx, 4, none⟩ = some (.int .i64 fr') ∧ W.cell? ⟨Bx, 5, none⟩ = some (.int .i64 til'))) (by kernel_rfl) (fun ⟨_, _, h⟩ => h) (by kernel_rfl) ⟨r0, r1, r2, r3, r4, i0, x0, x1, x2, x3, x4, x5, y0, y1, y2, y3, y4, y5⟩ (fun hHeld => ?_)
        have hd : Below W.heap.size W W.drew := (Below.refl _ _).drew
        refine held_take (i := 0) (v := ?_) rfl rfl (by kernel_rfl) (by kernel_rfl) (by kernel_rfl) (fun _ _ _ h => h) (by rfl) hHeld ?_ ?_
        rotate_left
        · rintro wh ⟨z0, z1, z2, z3, z4, z5, z6, z7, z8, z9, z10, z11, z12, z13, z14, z15, z16, z17⟩
          go_simp
          (try with_reducible rfl)
        simp only [Act.put, List.setIfInBounds_toArray, List.set_cons_zero, List.set_cons_succ]
        refine held_take (i := 1) (v := ?_) rfl rfl (by kernel_rfl) (by kernel_rfl) (by kernel_rfl) (fun _ _ _ h => h) (by rfl) hHeld ?_ ?_
        rotate_left
        · rintro wh ⟨z0, z1, z2, z3, z4, z5, z6, z7, z8, z9, z10, z11, z12, z13, z14, z15, z16, z17⟩
          go_simp
          (try with_reducible rfl)
        simp only [Act.put, List.setIfInBounds_toArray, List.set_cons_zero, List.set_cons_succ]
        refine held_take (i := 2) (v := ?_) rfl rfl (by kernel_rfl) (by kernel_rfl) (by kernel_rfl) (fun _ _ _ h => h) (by rfl) hHeld ?_ ?_
        rotate_left
        · rintro wh ⟨z0, z1, z2, z3, z4, z5, z6, z7, z8, z9, z10, z11, z12, z13, z14, z15, z16, z17⟩
          go_simp
          (try with_reducible rfl)
        simp only [Act.put, List.setIfInBounds_toArray, List.set_cons_zero, List.set_cons_succ]
        refine held_take (i := 3) (v := ?_) rfl rfl (by kernel_rfl) (by kernel_rfl) (by kernel_rfl) (fun _ _ _ h => h) (by rfl) hHeld ?_ ?_
        rotate_left
        · rintro wh ⟨z0, z1, z2, z3, z4, z5, z6, z7, z8, z9, z10, z11, z12, z13, z14, z15, z16, z17⟩
          go_simp
          (try with_reducible rfl)
        simp only [Act.put, List.setIfInBounds_toArray, List.set_cons_zero, List.set_cons_succ]
        refine held_call (i := 4) rfl (by kernel_rfl) (by rfl) (fun K hK => ?_)
        (go_simp; go_at_call 62; refine kk.mono ?_; rintro e w7 ⟨rfl, hb7⟩; have hB7 := hd.trans (hb7.mono hd.size))
        refine hK.out _ _ ⟨keep_cell r0 hB7 ltr, keep_cell r1 hB7 ltr, keep_cell r2 hB7 ltr, keep_cell r3 hB7 ltr, keep_cell r4 hB7 ltr, keep_cell i0 hB7 lti, keep_cell x0 hB7 ltx, keep_cell x1 hB7 ltx, keep_cell x2 hB7 ltx, keep_cell x3 hB7 ltx, keep_cell x4 hB7 ltx, keep_cell x5 hB7 ltx, keep_cell y0 hB7 hBl, keep_cell y1 hB7 hBl, keep_cell y2 hB7 hBl, keep_cell y3 hB7 hBl, keep_cell y4 hB7 hBl, keep_cell y5 hB7 hBl⟩ (fun hHeld => ?_)
        clear hK K
        (try simp only [Act.put, List.setIfInBounds_toArray, List.set_cons_zero, List.set_cons_succ])
        refine held_take (i := 5) (v := ?_) rfl rfl (by kernel_rfl) (by kernel_rfl) (by kernel_rfl) (fun _ _ _ h => h) (by rfl) hHeld ?_ ?_
        rotate_left
        · rintro wh ⟨z0, z1, z2, z3, z4, z5, z6, z7, z8, z9, z10, z11, z12, z13, z14, z15, z16, z17⟩
          go_simp
          (try with_reducible rfl)
        simp only [Act.put, List.setIfInBounds_toArray, List.set_cons_zero, List.set_cons_succ]
        refine held_skip (i := 6) rfl rfl (by kernel_rfl) (by kernel_rfl) (by kernel_rfl) (fun _ _ _ h => h) (by rfl) hHeld ?_
        simp only [Act.put, List.setIfInBounds_toArray, List.set_cons_zero, List.set_cons_succ]
        refine held_skip (i := 7) rfl rfl (by kernel_rfl) (by kernel_rfl) (by kernel_rfl) (fun _ _ _ h => h) (by rfl) hHeld ?_
        simp only [Act.put, List.setIfInBounds_toArray, List.set_cons_zero, List.set_cons_succ]
        refine held_skip (i := 8) rfl rfl (by kernel_rfl) (by kernel_rfl) (by kernel_rfl) (fun _ _ _ h => h) (by rfl) hHeld ?_
        simp only [Act.put, List.setIfInBounds_toArray, List.set_cons_zero, List.set_cons_succ]
        refine held_skip (i := 9) rfl rfl (by kernel_rfl) (by kernel_rfl) (by kernel_rfl) (fun _ _ _ h => h) (by rfl) hHeld ?_
        simp only [Act.put, List.setIfInBounds_toArray, List.set_cons_zero, List.set_cons_succ]
        refine held_skip (i := 10) rfl rfl (by kernel_rfl) (by kernel_rfl) (by kernel_rfl) (fun _ _ _ h => h) (by rfl) hHeld ?_
        simp only [Act.put, List.setIfInBounds_toArray, List.set_cons_zero, List.set_cons_succ]
        refine held_skip (i := 11) rfl rfl (by kernel_rfl) (by kernel_rfl) (by kernel_rfl) (fun _ _ _ h => h) (by rfl) hHeld ?_
        simp only [Act.put, List.setIfInBounds_toArray, List.set_cons_zero, List.set_cons_succ]
        refine held_skip (i := 12) rfl rfl (by kernel_rfl) (by kernel_rfl) (by kernel_rfl) (fun _ _ _ h => h) (by rfl) hHeld ?_
        simp only [Act.put, List.setIfInBounds_toArray, List.set_cons_zero, List.set_cons_succ]
        refine held_take (i := 13) (v := ?_) rfl rfl (by kernel_rfl) (by kernel_rfl) (by kernel_rfl) (fun _ _ _ h => h) (by rfl) hHeld ?_ ?_
        rotate_left
        · rintro wh ⟨z0, z1, z2, z3, z4, z5, z6, z7, z8, z9, z10, z11, z12, z13, z14, z15, z16, z17⟩
          go_simp
          (try with_reducible rfl)
        simp only [Act.put, List.setIfInBounds_toArray, List.set_cons_zero, List.set_cons_succ]
        refine held_take (i := 14) (v := ?_) rfl rfl (by kernel_rfl) (by kernel_rfl) (by kernel_rfl) (fun _ _ _ h => h) (by rfl) hHeld ?_ ?_
        rotate_left
        · rintro wh ⟨z0, z1, z2, z3, z4, z5, z6, z7, z8, z9, z10, z11, z12, z13, z14, z15, z16, z17⟩
          go_simp
          (try with_reducible rfl)
        simp only [Act.put, List.setIfInBounds_toArray, List.set_cons_zero, List.set_cons_succ]
        refine held_skip (i := 15) rfl rfl (by kernel_rfl) (by kernel_rfl) (by kernel_rfl) (fun _ _ _ h => h) (by rfl) hHeld ?_
        simp only [Act.put, List.setIfInBounds_toArray, List.set_cons_zero, List.set_cons_succ]
        refine held_skip (i := 16) rfl rfl (by kernel_rfl) (by kernel_rfl) (by kernel_rfl) (fun _ _ _ h => h) (by rfl) hHeld ?_
        simp only [Act.put, List.setIfInBounds_toArray, List.set_cons_zero, List.set_cons_succ]
        refine held_skip (i := 17) rfl rfl (by kernel_rfl) (by kernel_rfl) (by kernel_rfl) (fun _ _ _ h => h) (by rfl) hHeld ?_
        simp only [Act.put, List.setIfInBounds_toArray, List.set_cons_zero, List.set_cons_succ]
        refine held_skip (i := 18) rfl rfl (by kernel_rfl) (by kernel_rfl) (by kernel_rfl) (fun _ _ _ h => h) (by rfl) hHeld ?_
        simp only [Act.put, List.setIfInBounds_toArray, List.set_cons_zero, List.set_cons_succ]
        refine held_take (i := 19) (v := ?_) rfl rfl (by kernel_rfl) (by kernel_rfl) (by kernel_rfl) (fun _ _ _ h => h) (by rfl) hHeld ?_ ?_
        rotate_left
        · rintro wh ⟨z0, z1, z2, z3, z4, z5, z6, z7, z8, z9, z10, z11, z12, z13, z14, z15, z16, z17⟩
          go_simp
          (try with_reducible rfl)
        simp only [Act.put, List.setIfInBounds_toArray, List.set_cons_zero, List.set_cons_succ]
        refine wpAnyH_done (by kernel_rfl) ?_ _
        have HB7 := Lib.hid hB7
        clear hB7 c4 f4
        gi_wp2
        exact KEEP.out _ _ HB7.out HF.out rfl
      cases hAK : alikeM bys fl' fl
      · have HF : Hid (GD ⟨src', fl', lv', c', fr', til'⟩ = false) := Lib.hid (by rw [HG1.out, hAM, hAK]; rfl)
        have kk := KM'.out W.drew (HBw.out.trans ((Below.refl _ _).drew.mono HBw.out.size))
        rw [hAM] at kk
        have KAK := Lib.hid (fun V (h : Below W.heap.size W V) => KA'.out V (HBw.out.trans (h.mono HBw.out.size)))
        rw [hAK] at KAK
        have KID := Lib.hid (fun V (h : Below W.heap.size W V) => KI'.out V (HBw.out.trans (h.mono HBw.out.size)))
        clear hAM hAK HG1
        refine region_inRound (S := (fun W => W.cell? ⟨w.heap.size, 0, none⟩ = some (.slice ba bys.length bc) ∧ W.cell? ⟨w.heap.size, 1, none⟩ = some (.int .i64 xlv) ∧ W.cell? ⟨w.heap.size, 2, none⟩ = some (.int .u32 xc) ∧ W.cell? ⟨w.heap.size, 3, none⟩ = some (.slice ra frm.length rc) ∧ W.cell? ⟨w.heap.size, 4, none⟩ = some (.slice wa whn.length wc) ∧ W.cell? ⟨w.heap.size + 1, 0, none⟩ = some (.int .u64 id) ∧ W.cell? ⟨w.heap.size + 1 + 1, 0, none⟩ = some (.string src) ∧ W.cell? ⟨w.heap.size + 1 + 1, 1, none⟩ = some (.slice fa fl.length fc) ∧ W.cell? ⟨w.heap.size + 1 + 1, 2, none⟩ = some (.int .i64 alv) ∧ W.cell? ⟨w.heap.size + 1 + 1, 3, none⟩ = some (.int .u32 ac) ∧ W.cell? ⟨w.heap.size + 1 + 1, 4, none⟩ = some (.int .i64 fr) ∧ W.cell? ⟨w.heap.size + 1 + 1, 5, none⟩ = some (.int .i64 til) ∧ W.cell? ⟨Bx, 0, none⟩ = some (.string src') ∧ W.cell? ⟨Bx, 1, none⟩ = some (.slice fa' fl'.length fc') ∧ W.cell? ⟨Bx, 2, none⟩ = some (.int .i64 lv') ∧ W.cell? ⟨Bx, 3, none⟩ = some (.int .u32 c') ∧ W.cell? ⟨Bx, 4, none⟩ = some (.int .i64 fr') ∧ W.cell? ⟨Bx, 5, none⟩ = some (.int .i64 til'))) (by kernel_rfl) (fun ⟨_, _, h⟩ => h) (by kernel_rfl) ⟨r0, r1, r2, r3, r4, i0, x0, x1, x2, x3, x4, x5, y0, y1, y2, y3, y4, y5⟩ (fun hHeld => ?_)
        have hd : Below W.heap.size W W.drew := (Below.refl _ _).drew
        refine held_take (i := 0) (v := ?_) rfl rfl (by kernel_rfl) (by kernel_rfl) (by kernel_rfl) (fun _ _ _ h => h) (by rfl) hHeld ?_ ?_
        rotate_left
        · rintro wh ⟨z0, z1, z2, z3, z4, z5, z6, z7, z8, z9, z10, z11, z12, z13, z14, z15, z16, z17⟩
          go_simp
          (try with_reducible rfl)
        simp only [Act.put, List.setIfInBounds_toArray, List.set_cons_zero, List.set_cons_succ]
        refine held_take (i := 1) (v := ?_) rfl rfl (by kernel_rfl) (by kernel_rfl) (by kernel_rfl) (fun _ _ _ h => h) (by rfl) hHeld ?_ ?_
        rotate_left
        · rintro wh ⟨z0, z1, z2, z3, z4, z5, z6, z7, z8, z9, z10, z11, z12, z13, z14, z15, z16, z17⟩
          go_simp
          (try with_reducible rfl)
        simp only [Act.put, List.setIfInBounds_toArray, List.set_cons_zero, List.set_cons_succ]
        refine held_take (i := 2) (v := ?_) rfl rfl (by kernel_rfl) (by kernel_rfl) (by kernel_rfl) (fun _ _ _ h => h) (by rfl) hHeld ?_ ?_
        rotate_left
        · rintro wh ⟨z0, z1, z2, z3, z4, z5, z6, z7, z8, z9, z10, z11, z12, z13, z14, z15, z16, z17⟩
          go_simp
          (try with_reducible rfl)
        simp only [Act.put, List.setIfInBounds_toArray, List.set_cons_zero, List.set_cons_succ]
        refine held_take (i := 3) (v := ?_) rfl rfl (by kernel_rfl) (by kernel_rfl) (by kernel_rfl) (fun _ _ _ h => h) (by rfl) hHeld ?_ ?_
        rotate_left
        · rintro wh ⟨z0, z1, z2, z3, z4, z5, z6, z7, z8, z9, z10, z11, z12, z13, z14, z15, z16, z17⟩
          go_simp
          (try with_reducible rfl)
        simp only [Act.put, List.setIfInBounds_toArray, List.set_cons_zero, List.set_cons_succ]
        refine held_call (i := 4) rfl (by kernel_rfl) (by rfl) (fun K hK => ?_)
        (go_simp; go_at_call 62; refine kk.mono ?_; rintro e w7 ⟨rfl, hb7⟩; have hB7 := hd.trans (hb7.mono hd.size))
        refine hK.out _ _ ⟨keep_cell r0 hB7 ltr, keep_cell r1 hB7 ltr, keep_cell r2 hB7 ltr, keep_cell r3 hB7 ltr, keep_cell r4 hB7 ltr, keep_cell i0 hB7 lti, keep_cell x0 hB7 ltx, keep_cell x1 hB7 ltx, keep_cell x2 hB7 ltx, keep_cell x3 hB7 ltx, keep_cell x4 hB7 ltx, keep_cell x5 hB7 ltx, keep_cell y0 hB7 hBl, keep_cell y1 hB7 hBl, keep_cell y2 hB7 hBl, keep_cell y3 hB7 hBl, keep_cell y4 hB7 hBl, keep_cell y5 hB7 hBl⟩ (fun hHeld => ?_)
        clear hK K
        (try simp only [Act.put, List.setIfInBounds_toArray, List.set_cons_zero, List.set_cons_succ])
        refine held_take (i := 5) (v := ?_) rfl rfl (by kernel_rfl) (by kernel_rfl) (by kernel_rfl) (fun _ _ _ h => h) (by rfl) hHeld ?_ ?_
        rotate_left
        · rintro wh ⟨z0, z1, z2, z3, z4, z5, z6, z7, z8, z9, z10, z11, z12, z13, z14, z15, z16, z17⟩
          go_simp
          (try with_reducible rfl)
        simp only [Act.put, List.setIfInBounds_toArray, List.set_cons_zero, List.set_cons_succ]
        refine held_take (i := 6) (v := ?_) rfl rfl (by kernel_rfl) (by kernel_rfl) (by kernel_rfl) (fun _ _ _ h => h) (by rfl) hHeld ?_ ?_
        rotate_left
        · rintro wh ⟨z0, z1, z2, z3, z4, z5, z6, z7, z8, z9, z10, z11, z12, z13, z14, z15, z16, z17⟩
          go_simp
          (try with_reducible rfl)
        simp only [Act.put, List.setIfInBounds_toArray, List.set_cons_zero, List.set_cons_succ]
        refine held_take (i := 7) (v := ?_) rfl rfl (by kernel_rfl) (by kernel_rfl) (by kernel_rfl) (fun _ _ _ h => h) (by rfl) hHeld ?_ ?_
        rotate_left
        · rintro wh ⟨z0, z1, z2, z3, z4, z5, z6, z7, z8, z9, z10, z11, z12, z13, z14, z15, z16, z17⟩
          go_simp
          (try with_reducible rfl)
        simp only [Act.put, List.setIfInBounds_toArray, List.set_cons_zero, List.set_cons_succ]
        refine held_take (i := 8) (v := ?_) rfl rfl (by kernel_rfl) (by kernel_rfl) (by kernel_rfl) (fun _ _ _ h => h) (by rfl) hHeld ?_ ?_
        rotate_left
        · rintro wh ⟨z0, z1, z2, z3, z4, z5, z6, z7, z8, z9, z10, z11, z12, z13, z14, z15, z16, z17⟩
          go_simp
          (try with_reducible rfl)
        simp only [Act.put, List.setIfInBounds_toArray, List.set_cons_zero, List.set_cons_succ]
        refine held_take (i := 9) (v := ?_) rfl rfl (by kernel_rfl) (by kernel_rfl) (by kernel_rfl) (fun _ _ _ h => h) (by rfl) hHeld ?_ ?_
        rotate_left
        · rintro wh ⟨z0, z1, z2, z3, z4, z5, z6, z7, z8, z9, z10, z11, z12, z13, z14, z15, z16, z17⟩
          go_simp
          (try with_reducible rfl)
        simp only [Act.put, List.setIfInBounds_toArray, List.set_cons_zero, List.set_cons_succ]
        refine held_take (i := 10) (v := ?_) rfl rfl (by kernel_rfl) (by kernel_rfl) (by kernel_rfl) (fun _ _ _ h => h) (by rfl) hHeld ?_ ?_
        rotate_left
        · rintro wh ⟨z0, z1, z2, z3, z4, z5, z6, z7, z8, z9, z10, z11, z12, z13, z14, z15, z16, z17⟩
          go_simp
          (try with_reducible rfl)
        simp only [Act.put, List.setIfInBounds_toArray, List.set_cons_zero, List.set_cons_succ]
        refine held_take (i := 11) (v := ?_) rfl rfl (by kernel_rfl) (by kernel_rfl) (by kernel_rfl) (fun _ _ _ h => h) (by rfl) hHeld ?_ ?_
        rotate_left
        · rintro wh ⟨z0, z1, z2, z3, z4, z5, z6, z7, z8, z9, z10, z11, z12, z13, z14, z15, z16, z17⟩
          go_simp
          (try with_reducible rfl)
        simp only [Act.put, List.setIfInBounds_toArray, List.set_cons_zero, List.set_cons_succ]
        refine held_call (i := 12) rfl (by kernel_rfl) (by rfl) (fun K hK => ?_)
        (go_simp; go_at_call 64; refine (KAK.out _ hB7).mono ?_; rintro e w8 ⟨rfl, hb8⟩; have hB8 := hB7.trans (hb8.mono hB7.size))
        refine hK.out _ _ ⟨keep_cell r0 hB8 ltr, keep_cell r1 hB8 ltr, keep_cell r2 hB8 ltr, keep_cell r3 hB8 ltr, keep_cell r4 hB8 ltr, keep_cell i0 hB8 lti, keep_cell x0 hB8 ltx, keep_cell x1 hB8 ltx, keep_cell x2 hB8 ltx, keep_cell x3 hB8 ltx, keep_cell x4 hB8 ltx, keep_cell x5 hB8 ltx, keep_cell y0 hB8 hBl, keep_cell y1 hB8 hBl, keep_cell y2 hB8 hBl, keep_cell y3 hB8 hBl, keep_cell y4 hB8 hBl, keep_cell y5 hB8 hBl⟩ (fun hHeld => ?_)
        clear hK K
        (try simp only [Act.put, List.setIfInBounds_toArray, List.set_cons_zero, List.set_cons_succ])
        refine held_take (i := 13) (v := ?_) rfl rfl (by kernel_rfl) (by kernel_rfl) (by kernel_rfl) (fun _ _ _ h => h) (by rfl) hHeld ?_ ?_
        rotate_left
        · rintro wh ⟨z0, z1, z2, z3, z4, z5, z6, z7, z8, z9, z10, z11, z12, z13, z14, z15, z16, z17⟩
          go_simp
          (try with_reducible rfl)
        simp only [Act.put, List.setIfInBounds_toArray, List.set_cons_zero, List.set_cons_succ]
        refine held_take (i := 14) (v := ?_) rfl rfl (by kernel_rfl) (by kernel_rfl) (by kernel_rfl) (fun _ _ _ h => h) (by rfl) hHeld ?_ ?_
        rotate_left
        · rintro wh ⟨z0, z1, z2, z3, z4, z5, z6, z7, z8, z9, z10, z11, z12, z13, z14, z15, z16, z17⟩
          go_simp
          (try with_reducible rfl)
        simp only [Act.put, List.setIfInBounds_toArray, List.set_cons_zero, List.set_cons_succ]
        refine held_skip (i := 15) rfl rfl (by kernel_rfl) (by kernel_rfl) (by kernel_rfl) (fun _ _ _ h => h) (by rfl) hHeld ?_
        simp only [Act.put, List.setIfInBounds_toArray, List.set_cons_zero, List.set_cons_succ]
        refine held_skip (i := 16) rfl rfl (by kernel_rfl) (by kernel_rfl) (by kernel_rfl) (fun _ _ _ h => h) (by rfl) hHeld ?_
        simp only [Act.put, List.setIfInBounds_toArray, List.set_cons_zero, List.set_cons_succ]
        refine held_skip (i := 17) rfl rfl (by kernel_rfl) (by kernel_rfl) (by kernel_rfl) (fun _ _ _ h => h) (by rfl) hHeld ?_
        simp only [Act.put, List.setIfInBounds_toArray, List.set_cons_zero, List.set_cons_succ]
        refine held_skip (i := 18) rfl rfl (by kernel_rfl) (by kernel_rfl) (by kernel_rfl) (fun _ _ _ h => h) (by rfl) hHeld ?_
        simp only [Act.put, List.setIfInBounds_toArray, List.set_cons_zero, List.set_cons_succ]
        refine held_take (i := 19) (v := ?_) rfl rfl (by kernel_rfl) (by kernel_rfl) (by kernel_rfl) (fun _ _ _ h => h) (by rfl) hHeld ?_ ?_
        rotate_left
        · rintro wh ⟨z0, z1, z2, z3, z4, z5, z6, z7, z8, z9, z10, z11, z12, z13, z14, z15, z16, z17⟩
          go_simp
          (try with_reducible rfl)
        simp only [Act.put, List.setIfInBounds_toArray, List.set_cons_zero, List.set_cons_succ]
        refine wpAnyH_done (by kernel_rfl) ?_ _
        have HB8 := Lib.hid hB8
        clear hB8 c4 f4
        gi_wp2
        exact KEEP.out _ _ HB8.out HF.out rfl
      have HF : Hid (GD ⟨src', fl', lv', c', fr', til'⟩ = (shortL (idB src' fl') != id)) := Lib.hid (by rw [HG1.out, hAM, hAK]; rfl)
      have kk := KM'.out W.drew (HBw.out.trans ((Below.refl _ _).drew.mono HBw.out.size))
      rw [hAM] at kk
      have KAK := Lib.hid (fun V (h : Below W.heap.size W V) => KA'.out V (HBw.out.trans (h.mono HBw.out.size)))
      rw [hAK] at KAK
      have KID := Lib.hid (fun V (h : Below W.heap.size W V) => KI'.out V (HBw.out.trans (h.mono HBw.out.size)))
      generalize shortL (idB src' fl') = sid at *
      clear hAM hAK HG1
      refine region_inRound (S := (fun W => W.cell? ⟨w.heap.size, 0, none⟩ = some (.slice ba bys.length bc) ∧ W.cell? ⟨w.heap.size, 1, none⟩ = some (.int .i64 xlv) ∧ W.cell? ⟨w.heap.size, 2, none⟩ = some (.int .u32 xc) ∧ W.cell? ⟨w.heap.size, 3, none⟩ = some (.slice ra frm.length rc) ∧ W.cell? ⟨w.heap.size, 4, none⟩ = some (.slice wa whn.length wc) ∧ W.cell? ⟨w.heap.size + 1, 0, none⟩ = some (.int .u64 id) ∧ W.cell? ⟨w.heap.size + 1 + 1, 0, none⟩ = some (.string src) ∧ W.cell? ⟨w.heap.size + 1 + 1, 1, none⟩ = some (.slice fa fl.length fc) ∧ W.cell? ⟨w.heap.size + 1 + 1, 2, none⟩ = some (.int .i64 alv) ∧ W.cell? ⟨w.heap.size + 1 + 1, 3, none⟩ = some (.int .u32 ac) ∧ W.cell? ⟨w.heap.size + 1 + 1, 4, none⟩ = some (.int .i64 fr) ∧ W.cell? ⟨w.heap.size + 1 + 1, 5, none⟩ = some (.int .i64 til) ∧ W.cell? ⟨Bx, 0, none⟩ = some (.string src') ∧ W.cell? ⟨Bx, 1, none⟩ = some (.slice fa' fl'.length fc') ∧ W.cell? ⟨Bx, 2, none⟩ = some (.int .i64 lv') ∧ W.cell? ⟨Bx, 3, none⟩ = some (.int .u32 c') ∧ W.cell? ⟨Bx, 4, none⟩ = some (.int .i64 fr') ∧ W.cell? ⟨Bx, 5, none⟩ = some (.int .i64 til'))) (by kernel_rfl) (fun ⟨_, _, h⟩ => h) (by kernel_rfl) ⟨r0, r1, r2, r3, r4, i0, x0, x1, x2, x3, x4, x5, y0, y1, y2, y3, y4, y5⟩ (fun hHeld => ?_)
      have hd : Below W.heap.size W W.drew := (Below.refl _ _).drew
      refine held_take (i := 0) (v := ?_) rfl rfl (by kernel_rfl) (by kernel_rfl) (by kernel_rfl) (fun _ _ _ h => h) (by rfl) hHeld ?_ ?_
      rotate_left
      · rintro wh ⟨z0, z1, z2, z3, z4, z5, z6, z7, z8, z9, z10, z11, z12, z13, z14, z15, z16, z17⟩
        go_simp
        (try with_reducible rfl)
      simp only [Act.put, List.setIfInBounds_toArray, List.set_cons_zero, List.set_cons_succ]
      refine held_take (i := 1) (v := ?_) rfl rfl (by kernel_rfl) (by kernel_rfl) (by kernel_rfl) (fun _ _ _ h => h) (by rfl) hHeld ?_ ?_
      rotate_left
      · rintro wh ⟨z0, z1, z2, z3, z4, z5, z6, z7, z8, z9, z10, z11, z12, z13, z14, z15, z16, z17⟩
        go_simp
        (try with_reducible rfl)
      simp only [Act.put, List.setIfInBounds_toArray, List.set_cons_zero, List.set_cons_succ]
      refine held_take (i := 2) (v := ?_) rfl rfl (by kernel_rfl) (by kernel_rfl) (by kernel_rfl) (fun _ _ _ h => h) (by rfl) hHeld ?_ ?_
      rotate_left
      · rintro wh ⟨z0, z1, z2, z3, z4, z5, z6, z7, z8, z9, z10, z11, z12, z13, z14, z15, z16, z17⟩
        go_simp
        (try with_reducible rfl)
      simp only [Act.put, List.setIfInBounds_toArray, List.set_cons_zero, List.set_cons_succ]
      refine held_take (i := 3) (v := ?_) rfl rfl (by kernel_rfl) (by kernel_rfl) (by kernel_rfl) (fun _ _ _ h => h) (by rfl) hHeld ?_ ?_
      rotate_left
      · rintro wh ⟨z0, z1, z2, z3, z4, z5, z6, z7, z8, z9, z10, z11, z12, z13, z14, z15, z16, z17⟩
        go_simp
        (try with_reducible rfl)
      simp only [Act.put, List.setIfInBounds_toArray, List.set_cons_zero, List.set_cons_succ]
      refine held_call (i := 4) rfl (by kernel_rfl) (by rfl) (fun K hK => ?_)
      (go_simp; go_at_call 62; refine kk.mono ?_; rintro e w7 ⟨rfl, hb7⟩; have hB7 := hd.trans (hb7.mono hd.size))
      refine hK.out _ _ ⟨keep_cell r0 hB7 ltr, keep_cell r1 hB7 ltr, keep_cell r2 hB7 ltr, keep_cell r3 hB7 ltr, keep_cell r4 hB7 ltr, keep_cell i0 hB7 lti, keep_cell x0 hB7 ltx, keep_cell x1 hB7 ltx, keep_cell x2 hB7 ltx, keep_cell x3 hB7 ltx, keep_cell x4 hB7 ltx, keep_cell x5 hB7 ltx, keep_cell y0 hB7 hBl, keep_cell y1 hB7 hBl, keep_cell y2 hB7 hBl, keep_cell y3 hB7 hBl, keep_cell y4 hB7 hBl, keep_cell y5 hB7 hBl⟩ (fun hHeld => ?_)
      clear hK K
      (try simp only [Act.put, List.setIfInBounds_toArray, List.set_cons_zero, List.set_cons_succ])
      refine held_take (i := 5) (v := ?_) rfl rfl (by kernel_rfl) (by kernel_rfl) (by kernel_rfl) (fun _ _ _ h => h) (by rfl) hHeld ?_ ?_
      rotate_left
      · rintro wh ⟨z0, z1, z2, z3, z4, z5, z6, z7, z8, z9, z10, z11, z12, z13, z14, z15, z16, z17⟩
        go_simp
        (try with_reducible rfl)
      simp only [Act.put, List.setIfInBounds_toArray, List.set_cons_zero, List.set_cons_succ]
      refine held_take (i := 6) (v := ?_) rfl rfl (by kernel_rfl) (by kernel_rfl) (by kernel_rfl) (fun _ _ _ h => h) (by rfl) hHeld ?_ ?_
      rotate_left
      · rintro wh ⟨z0, z1, z2, z3, z4, z5, z6, z7, z8, z9, z10, z11, z12, z13, z14, z15, z16, z17⟩
        go_simp
        (try with_reducible rfl)
      simp only [Act.put, List.setIfInBounds_toArray, List.set_cons_zero, List.set_cons_succ]
      refine held_take (i := 7) (v := ?_) rfl rfl (by kernel_rfl) (by kernel_rfl) (by kernel_rfl) (fun _ _ _ h => h) (by rfl) hHeld ?_ ?_
      rotate_left
      · rintro wh ⟨z0, z1, z2, z3, z4, z5, z6, z7, z8, z9, z10, z11, z12, z13, z14, z15, z16, z17⟩
        go_simp
        (try with_reducible rfl)
      simp only [Act.put, List.setIfInBounds_toArray, List.set_cons_zero, List.set_cons_succ]
      refine held_take (i := 8) (v := ?_) rfl rfl (by kernel_rfl) (by kernel_rfl) (by kernel_rfl) (fun _ _ _ h => h) (by rfl) hHeld ?_ ?_
      rotate_left
      · rintro wh ⟨z0, z1, z2, z3, z4, z5, z6, z7, z8, z9, z10, z11, z12, z13, z14, z15, z16, z17⟩
        go_simp
        (try with_reducible rfl)
      simp only [Act.put, List.setIfInBounds_toArray, List.set_cons_zero, List.set_cons_succ]
      refine held_take (i := 9) (v := ?_) rfl rfl (by kernel_rfl) (by kernel_rfl) (by kernel_rfl) (fun _ _ _ h => h) (by rfl) hHeld ?_ ?_
      rotate_left
      · rintro wh ⟨z0, z1, z2, z3, z4, z5, z6, z7, z8, z9, z10, z11, z12, z13, z14, z15, z16, z17⟩
        go_simp
        (try with_reducible rfl)
      simp only [Act.put, List.setIfInBounds_toArray, List.set_cons_zero, List.set_cons_succ]
      refine held_take (i := 10) (v := ?_) rfl rfl (by kernel_rfl) (by kernel_rfl) (by kernel_rfl) (fun _ _ _ h => h) (by rfl) hHeld ?_ ?_
      rotate_left
      · rintro wh ⟨z0, z1, z2, z3, z4, z5, z6, z7, z8, z9, z10, z11, z12, z13, z14, z15, z16, z17⟩
        go_simp
        (try with_reducible rfl)
      simp only [Act.put, List.setIfInBounds_toArray, List.set_cons_zero, List.set_cons_succ]
      refine held_take (i := 11) (v := ?_) rfl rfl (by kernel_rfl) (by kernel_rfl) (by kernel_rfl) (fun _ _ _ h => h) (by rfl) hHeld ?_ ?_
      rotate_left
      · rintro wh ⟨z0, z1, z2, z3, z4, z5, z6, z7, z8, z9, z10, z11, z12, z13, z14, z15, z16, z17⟩
        go_simp
        (try with_reducible rfl)
      simp only [Act.put, List.setIfInBounds_toArray, List.set_cons_zero, List.set_cons_succ]
      refine held_call (i := 12) rfl (by kernel_rfl) (by rfl) (fun K hK => ?_)
      (go_simp; go_at_call 64; refine (KAK.out _ hB7).mono ?_; rintro e w8 ⟨rfl, hb8⟩; have hB8 := hB7.trans (hb8.mono hB7.size))
      refine hK.out _ _ ⟨keep_cell r0 hB8 ltr, keep_cell r1 hB8 ltr, keep_cell r2 hB8 ltr, keep_cell r3 hB8 ltr, keep_cell r4 hB8 ltr, keep_cell i0 hB8 lti, keep_cell x0 hB8 ltx, keep_cell x1 hB8 ltx, keep_cell x2 hB8 ltx, keep_cell x3 hB8 ltx, keep_cell x4 hB8 ltx, keep_cell x5 hB8 ltx, keep_cell y0 hB8 hBl, keep_cell y1 hB8 hBl, keep_cell y2 hB8 hBl, keep_cell y3 hB8 hBl, keep_cell y4 hB8 hBl, keep_cell y5 hB8 hBl⟩ (fun hHeld => ?_)
      clear hK K
      (try simp only [Act.put, List.setIfInBounds_toArray, List.set_cons_zero, List.set_cons_succ])
      refine held_take (i := 13) (v := ?_) rfl rfl (by kernel_rfl) (by kernel_rfl) (by kernel_rfl) (fun _ _ _ h => h) (by rfl) hHeld ?_ ?_
      rotate_left
      · rintro wh ⟨z0, z1, z2, z3, z4, z5, z6, z7, z8, z9, z10, z11, z12, z13, z14, z15, z16, z17⟩
        go_simp
        (try with_reducible rfl)
      simp only [Act.put, List.setIfInBounds_toArray, List.set_cons_zero, List.set_cons_succ]
      refine held_take (i := 14) (v := ?_) rfl rfl (by kernel_rfl) (by kernel_rfl) (by kernel_rfl) (fun _ _ _ h => h) (by rfl) hHeld ?_ ?_
      rotate_left
      · rintro wh ⟨z0, z1, z2, z3, z4, z5, z6, z7, z8, z9, z10, z11, z12, z13, z14, z15, z16, z17⟩
        go_simp
        (try with_reducible rfl)
      simp only [Act.put, List.setIfInBounds_toArray, List.set_cons_zero, List.set_cons_succ]
      refine held_take (i := 15) (v := ?_) rfl rfl (by kernel_rfl) (by kernel_rfl) (by kernel_rfl) (fun _ _ _ h => h) (by rfl) hHeld ?_ ?_
      rotate_left
      · rintro wh ⟨z0, z1, z2, z3, z4, z5, z6, z7, z8, z9, z10, z11, z12, z13, z14, z15, z16, z17⟩
        go_simp
        (try with_reducible rfl)
      simp only [Act.put, List.setIfInBounds_toArray, List.set_cons_zero, List.set_cons_succ]
      refine held_take (i := 17) (v := ?_) rfl rfl (by kernel_rfl) (by kernel_rfl) (by kernel_rfl) (fun _ _ _ h => h) (by rfl) hHeld ?_ ?_
      rotate_left
      · rintro wh ⟨z0, z1, z2, z3, z4, z5, z6, z7, z8, z9, z10, z11, z12, z13, z14, z15, z16, z17⟩
        go_simp
        (try with_reducible rfl)
      simp only [Act.put, List.setIfInBounds_toArray, List.set_cons_zero, List.set_cons_succ]
      refine held_call (i := 16) rfl (by kernel_rfl) (by rfl) (fun K hK => ?_)
      (go_simp; go_at_call 28; refine (KID.out _ hB8).mono ?_; rintro e w9 ⟨rfl, hb9⟩; have hB9 := hB8.trans (hb9.mono hB8.size))
      refine hK.out _ _ ⟨keep_cell r0 hB9 ltr, keep_cell r1 hB9 ltr, keep_cell r2 hB9 ltr, keep_cell r3 hB9 ltr, keep_cell r4 hB9 ltr, keep_cell i0 hB9 lti, keep_cell x0 hB9 ltx, keep_cell x1 hB9 ltx, keep_cell x2 hB9 ltx, keep_cell x3 hB9 ltx, keep_cell x4 hB9 ltx, keep_cell x5 hB9 ltx, keep_cell y0 hB9 hBl, keep_cell y1 hB9 hBl, keep_cell y2 hB9 hBl, keep_cell y3 hB9 hBl, keep_cell y4 hB9 hBl, keep_cell y5 hB9 hBl⟩ (fun hHeld => ?_)
      clear hK K
      (try simp only [Act.put, List.setIfInBounds_toArray, List.set_cons_zero, List.set_cons_succ])
      refine held_take (i := 18) (v := ?_) rfl rfl (by kernel_rfl) (by kernel_rfl) (by kernel_rfl) (fun _ _ _ h => h) (by rfl) hHeld ?_ ?_
      rotate_left
      · rintro wh ⟨z0, z1, z2, z3, z4, z5, z6, z7, z8, z9, z10, z11, z12, z13, z14, z15, z16, z17⟩
        go_simp
        (try with_reducible rfl)
      simp only [Act.put, List.setIfInBounds_toArray, List.set_cons_zero, List.set_cons_succ]
      refine held_take (i := 19) (v := ?_) rfl rfl (by kernel_rfl) (by kernel_rfl) (by kernel_rfl) (fun _ _ _ h => h) (by rfl) hHeld ?_ ?_
      rotate_left
      · rintro wh ⟨z0, z1, z2, z3, z4, z5, z6, z7, z8, z9, z10, z11, z12, z13, z14, z15, z16, z17⟩
        go_simp
        (try with_reducible rfl)
      simp only [Act.put, List.setIfInBounds_toArray, List.set_cons_zero, List.set_cons_succ]
      refine wpAnyH_done (by kernel_rfl) ?_ _
      have HB9 := Lib.hid hB9
      have G9 := GG7.out.kept (below_grown hB9 none) (by simp)
      clear hB9 c4 f4
      have c4 := G9.cell
      have f4 := G9.frozen
      generalize (sid != id) = q at *
      cases q
      · gi_wp2
        exact KEEP.out _ _ HB9.out HF.out rfl
      · gi_wp2
        obtain ⟨la1, _, la2⟩ := LEAVE.out _ HB9.out HF.out
        exact ⟨la1, rfl, la2⟩
    case done =>
      rintro D xs W hD hS ⟨hB, hno⟩ hK
      have G7 := G6.kept (below_grown hB none) (by simp)
      have c4 := G7.cell
      have f4 := G7.frozen
      have hBw := hB6.trans (hB.mono hB6.size)
      have HF : Hid (R = false) := Lib.hid (by
        rw [HBY.out, HWH.out, Bool.true_and, ← hS, List.any_map, List.any_eq_false]
        intro y hy
        rw [Function.comp, hno y hy]; decide)
      gi_wp2
      have hK' := (KeepsOthers.setCell W ⟨w.heap.size + 1 + 1 + 1, 0, none⟩ (.bool false)).same D _ hK rfl
      refine ⟨by simp, .inl ⟨_, _, rfl, run_takeDeferred hK', ?_⟩⟩
      have hc5 := cell_kept (G7.set (.bool false)).cell (grownBy_putObj' _ D (.deferred none)) (fun r e => by cases e; exact ⟨_, hK', rfl⟩)
      refine ⟨.bool false, ?_, by rw [HF.out], (hBw.setCell (p := ⟨w.heap.size + 1 + 1 + 1, 0, none⟩) (by show w.heap.size ≤ w.heap.size + 1 + 1 + 1; omega) _).trans (belowK_b (w := w) (Nat.le_refl _) _ D _ _ (by omega) hK' rfl rfl)⟩
      simp [results, Tryz.f30, go_sem, hc5]
    case stop =>
      rintro D c pre W hD hS ⟨rfl, ⟨y, hy, hyg⟩, hc, hB⟩ hK
      have HF : Hid (R = true) := Lib.hid (by
        rw [HBY.out, HWH.out, Bool.true_and, List.any_eq_true]
        exact ⟨y.1, hS.subset (List.mem_map_of_mem hy), hyg⟩)
      gi_wp2
      refine ⟨by simp, .inl ⟨_, _, rfl, run_takeDeferred hK, ?_⟩⟩
      have hc5 := cell_kept hc (grownBy_putObj' _ D (.deferred none)) (fun r e => by cases e; exact ⟨_, hK, rfl⟩)
      refine ⟨.bool true, ?_, by rw [HF.out], hB.trans (belowK_b (w := w) (Nat.le_refl _) W D _ _ (by omega) hK rfl rfl)⟩
      simp [results, Tryz.f30, go_sem, hc5]
end Go.Proofs.YtipnhpfpppblhaaGreat

/- A map of the strings that were seen: made by the call, written in a loop, looked up. No program in sight. -/
namespace Go.Proofs.YtipnhpfpppblhaaGreat
open Go.RowKit Go.Maps
def keyS (x : ByteArray) : Lit := .string x.data.toList
theorem keyS_isKey (x : ByteArray) : WideAt.IsKeyLit (keyS x) := by simp [WideAt.IsKeyLit, keyS]
def seenD (xs : List ByteArray) : DataW Unit := setOf (.lit (.bool true)) (xs.map keyS)
theorem seenD_snoc (xs : List ByteArray) (x : ByteArray) : seenD (xs ++ [x]) = (seenD xs).put (keyS x) (.lit (.bool true)) := by
  rw [seenD, List.map_append, List.map_singleton, setOf_snoc]; rfl
theorem keyS_inj {x y : ByteArray} (h : keyS x = keyS y) : x = y := by
  simp only [keyS, Lit.string.injEq] at h
  exact ByteArray.ext (Array.toList_inj.1 h)
theorem seenD_isMap (xs : List ByteArray) : IsMap (seenD xs) := (tidy_setOf _ _ (fun x hx => by obtain ⟨y, _, rfl⟩ := List.mem_map.1 hx; exact keyS_isKey y)).isMap
def seenB (xs : List ByteArray) (x : ByteArray) : Bool := xs.any fun y => decide (y = x)
theorem seenD_at (xs : List ByteArray) (x : ByteArray) : (seenD xs).atKey (keyS x) (.lit (.bool false)) = .lit (.bool (seenB xs x)) := by
  induction xs using snocInd with
  | h0 => rfl
  | h1 l y ih =>
    rw [seenD_snoc]
    by_cases h : x = y
    · subst h
      rw [atKey_put_same (seenD_isMap l) (keyS_isKey x)]
      simp [seenB]
    · rw [atKey_put_other (fun e => h (keyS_inj e)), ih]
      simp [seenB, Ne.symm h]
theorem plainElem_bool_inv {H : Type} {P : Program} {e : TypeId} (he : P.underlying e = some .bool) {v : Value} {z : DataW H × List MemPlace} (h : plainElem P e v = some z) : ∃ x, v = .bool x ∧ z = (.lit (.bool x), []) := by
  unfold plainElem at h
  rw [he] at h
  cases v <;> simp at h
  subst h
  exact ⟨_, rfl, rfl⟩
theorem seen_lookup {P : Program} {t k e : TypeId} {w : World} {b n : Nat} {xs : List ByteArray} (h : w.ownsMap P k (plainElem P e) b n (seenD xs)) (ht : P.underlying t = some (.map k e)) (hk : P.underlying k = some .string)
    (he : P.underlying e = some .bool) (hz : (zeroValue e).run P w = .ok (.bool false) w) (x : ByteArray) (hx : x.size ≤ maxLen) :
    (Instr.lookup t (.map (some b)) (.string x) false).run P w = .ok (.bool (seenB xs x)) w := by
  obtain ⟨v, ps, hrun, hv⟩ := h.lookup (string_keyed hk) ht hz (plainElem_bool he false) (kl := keyS x) (WideMaps.keyOf_string_mk hk hx)
  obtain ⟨c, rfl, hc⟩ := plainElem_bool_inv he hv
  rw [seenD_at] at hc
  simp only [Prod.mk.injEq, DataW.lit.injEq, Lit.bool.injEq] at hc
  rw [hrun, hc.1]
end Go.Proofs.YtipnhpfpppblhaaGreat

/- policy.named, by: contracts. -/
namespace Go.Proofs.YtipnhpfpppblhaaGreat
open Go.RowKit Go.Maps
theorem seen_take {α : Type} (nm : α → ByteArray) (l : List α) (k : Nat) (x : ByteArray) : seenB ((l.map nm).take k) x = true ↔ ∃ (j : Nat) (hj : j < l.length), j < k ∧ nm l[j] = x := by
  unfold seenB
  rw [List.any_eq_true]
  constructor
  · rintro ⟨y, hy, h⟩
    obtain ⟨j, hj, rfl⟩ := List.mem_iff_getElem.1 hy
    rw [List.length_take, List.length_map] at hj
    refine ⟨j, by omega, by omega, ?_⟩
    have := of_decide_eq_true h
    rwa [List.getElem_take, List.getElem_map] at this
  · rintro ⟨j, hj, hjk, rfl⟩
    refine ⟨nm l[j], ?_, decide_eq_true rfl⟩
    exact List.mem_iff_getElem.2 ⟨j, by rw [List.length_take, List.length_map]; omega, by rw [List.getElem_take, List.getElem_map]⟩
set_option maxHeartbeats 1600000 in
set_option maxRecDepth 100000 in
theorem pnamed_any (l : List Nmd) (v : Value) (w : World) (hv : NmdsAt w v l) (hw : NmdWide l) :
    Calls Tryz.prog 50 #[v] w fun e w' => e = .returned (.bool (namedP l)) ∧ Below w.heap.size w w' := by
  obtain ⟨hl, _, hsz⟩ := hw
  have HE : Hid (namedP l = okAll (fun x : Nmd => x.1) (fun x : Nmd => nameL (B x.1) && rightL x.2.1) l) := Lib.hid (namedP_eq l)
  obtain ⟨a, c, rfl, hc, hr⟩ := RdAt.shape hv
  have HR := Lib.hid hr
  have HSZ := Lib.hid hsz
  have hl47 : l.length ≤ maxLen := hl
  unfold maxLen at hl47
  have hmm := @run_makeMap Tryz.prog
  clear hr hv hl hsz
  go_enter Tryz.func50, Tryz.ntmps50
  go_wp2
  go_loopw [9] (fun i wr => ∃ k : Nat, i = .int .i64 k ∧ k ≤ l.length ∧ Hid (okUp (fun x : Nmd => x.1) (fun x : Nmd => nameL (B x.1) && rightL x.2.1) l k) ∧ Hid (wr.ownsMap Tryz.prog 9 (plainElem Tryz.prog 4) w.heap.size k (seenD ((l.map (fun x : Nmd => x.1)).take k))) ∧ Hid (Below w.heap.size w wr)) (fun i _ => l.length - (intOf i).toNat)
  case atStart => exact ⟨0, rfl, Nat.zero_le _, Lib.hid okUp_zero, Lib.hid (World.ownsMap_made _ _ _ _), Lib.hid (alloc_below _ _)⟩
  case round =>
    obtain ⟨k, rfl, hk, HT, HOWN, HBR⟩ := hrel
    by_cases hkl : k < l.length
    · obtain ⟨b, o, rfl, hb, hcell⟩ := HR.out (by omega)
      have hstep := okUp_succ HT.out hkl
      have hbad := okAll_bad (nm := (fun x : Nmd => x.1)) (p := (fun x : Nmd => nameL (B x.1) && rightL x.2.1)) hkl
      have htw := fun j hj hjk => okAll_twice (nm := (fun x : Nmd => x.1)) (p := (fun x : Nmd => nameL (B x.1) && rightL x.2.1)) (j := j) hj hkl hjk
      have hxs := HSZ.out _ (List.getElem_mem hkl)
      have htk : (l.map (fun x : Nmd => x.1)).take (k + 1) = (l.map (fun x : Nmd => x.1)).take k ++ [(fun x : Nmd => x.1) l[k]] := by rw [List.take_succ_eq_append_getElem (by simpa using hkl), List.getElem_map]
      have HC := nmdCells_at l k hkl
      obtain ⟨x, hx⟩ : ∃ x, l[k] = x := ⟨_, rfl⟩
      rw [hx] at HC hstep hbad hxs htk
      simp only [hx] at htw
      have q : ∀ i v, (nmdC x)[i]? = some v → wr.cell? ⟨b, o + k * 3 + i, none⟩ = some v := fun i v hi => keep_cell (by have := hcell _ _ (HC i v hi); rwa [← Nat.add_assoc] at this) HBR.out hb
      obtain ⟨nx, lx, cx⟩ := x
      dsimp only at *
      have q0 : wr.cell? ⟨b, o + k * 3, none⟩ = some (.string nx) := q 0 _ rfl
      have q1 : wr.cell? ⟨b, o + k * 3 + 1, none⟩ = some (.int .i64 lx) := q 1 _ rfl
      have q2 : wr.cell? ⟨b, o + k * 3 + 2, none⟩ = some (.int .u32 cx) := q 2 _ rfl
      clear q HC
      have HBAD : Hid ((nameL (B nx) && rightL lx) = false → namedP l = false) := Lib.hid (fun h => by rw [HE.out, hbad h])
      have HTW : Hid (seenB ((l.map (fun x : Nmd => x.1)).take k) nx = true → namedP l = false) := Lib.hid (fun h => by
        obtain ⟨j, hj, hjk, he⟩ := (seen_take (fun x : Nmd => x.1) l k nx).1 h
        rw [HE.out, htw j hj hjk he])
      have HNS : Hid (seenB ((l.map (fun x : Nmd => x.1)).take k) nx = false → ∀ j (hj : j < l.length), j < k → (fun x : Nmd => x.1) l[j] ≠ nx) := Lib.hid (fun h j hj hjk he => by
        have := (seen_take (fun x : Nmd => x.1) l k nx).2 ⟨j, hj, hjk, he⟩
        rw [h] at this; cases this)
      have HST := Lib.hid hstep
      have HSN : Hid (seenD ((l.map (fun x : Nmd => x.1)).take (k + 1)) = (seenD ((l.map (fun x : Nmd => x.1)).take k)).put (keyS nx) (.lit (.bool true))) := Lib.hid (by rw [htk, seenD_snoc])
      have HXS := Lib.hid hxs
      have hkey : keyOf Tryz.prog 9 (.string nx) = some (keyS nx) := WideMaps.keyOf_string_mk Tryz.underlying9 hxs
      have HKEY := Lib.hid hkey
      have HLK : Hid (∀ W, Below wr.heap.size wr W → (Instr.lookup 124 (.map (some w.heap.size)) (.string nx) false).run Tryz.prog W = .ok (.bool (seenB ((l.map (fun x : Nmd => x.1)).take k) nx)) W) := Lib.hid (fun W h =>
        seen_lookup (HOWN.out.kept (below_grown h none) (by simp)) Tryz.underlying124 Tryz.underlying9 Tryz.underlying4 (Tryz.zeroValue4 _) nx hxs)
      clear hcell hstep hbad htw hx hxs htk hkey
      go_upto_region 5 with fail
      change Code.wp _ _ _ _ (wr.alloc (.cells #[.string nx, .int .i64 lx, .int .u32 cx] 120))
      have hba := alloc_below wr (.cells #[.string nx, .int .i64 lx, .int .u32 cx] 120)
      have hca : ∀ (i : Nat), (wr.alloc (.cells #[.string nx, .int .i64 lx, .int .u32 cx] 120)).cell? ⟨wr.heap.size, i, none⟩ = _ := fun i => World.cell?_alloc_at _ _ _ _ rfl
      have r0 := hca 0
      have r1 := hca 1
      have r2 := hca 2
      have hsa := World.size_alloc wr (.cells #[.string nx, .int .i64 lx, .int .u32 cx] 120)
      clear hca
      generalize wr.alloc (.cells #[.string nx, .int .i64 lx, .int .u32 cx] 120) = wa at *
      have HBA := Lib.hid hba
      have hgx : wr.heap.size < wa.heap.size := by omega
      have HGX := Lib.hid hgx
      have r0' : wa.cell? ⟨wr.heap.size, 0, none⟩ = some (.string nx) := r0
      have r1' : wa.cell? ⟨wr.heap.size, 1, none⟩ = some (.int .i64 lx) := r1
      have r2' : wa.cell? ⟨wr.heap.size, 2, none⟩ = some (.int .u32 cx) := r2
      have lk := HLK.out _ hba
      clear hba hsa q0 q1 q2 r0 r1 r2 hgx
      have HR0 := Lib.hid (And.intro r0' (And.intro r1' r2'))
      cases hsn : seenB ((l.map (fun x : Nmd => x.1)).take k) nx
      · rw [hsn] at lk
        have HN1 := Lib.hid (HNS.out hsn)
        clear hsn HLK HTW HNS
        have kn := name_any nx wa HXS.out
        cases hnm : nameL (B nx)
        · rw [hnm] at kn
          have HF := Lib.hid (HBAD.out (by rw [hnm]; rfl))
          clear hnm
          go_wp2_with fail
          refine kn.mono ?_
          rintro e w2 ⟨rfl, hb2⟩
          have HB2 := Lib.hid (HBR.out.trans ((HBA.out.trans (hb2.mono HBA.out.size)).mono HBR.out.size))
          clear hb2 kn lk r0' r1' r2'
          go_wp2
          go_ret
          exact ⟨by rw [HF.out]; rfl, HB2.out⟩
        · rw [hnm] at kn
          go_wp2_with fail
          refine kn.mono ?_
          rintro e w2 ⟨rfl, hb2⟩
          have HA2 := Lib.hid (HBA.out.trans (hb2.mono HBA.out.size))
          have s0 := keep_cell r0' hb2 HGX.out
          have s1 := keep_cell r1' hb2 HGX.out
          have s2 := keep_cell r2' hb2 HGX.out
          have HG2 := Lib.hid (Nat.lt_of_lt_of_le HGX.out hb2.size)
          clear hb2 kn lk r0' r1' r2' HR0
          have kr := right_any lx cx w2
          cases hrl : rightL lx
          · rw [hrl] at kr
            have HF := Lib.hid (HBAD.out (by rw [hnm, hrl]; rfl))
            clear hnm hrl
            go_wp2_with fail
            refine kr.mono ?_
            rintro e w3 ⟨rfl, hb3⟩
            have HB3 := Lib.hid (HBR.out.trans ((HA2.out.trans (hb3.mono HA2.out.size)).mono HBR.out.size))
            clear hb3 kr s0 s1 s2
            go_wp2
            go_ret
            exact ⟨by rw [HF.out]; rfl, HB3.out⟩
          · rw [hrl] at kr
            have HOK := Lib.hid (HST.out (fun j hj h => HN1.out j hj h) (by rw [hnm, hrl]; rfl))
            clear hnm hrl
            go_wp2_with fail
            refine kr.mono ?_
            rintro e w3 ⟨rfl, hb3⟩
            have HA3 := Lib.hid (HA2.out.trans (hb3.mono HA2.out.size))
            have u0 := keep_cell s0 hb3 HG2.out
            have u1 := keep_cell s1 hb3 HG2.out
            have u2 := keep_cell s2 hb3 HG2.out
            clear hb3 kr s0 s1 s2
            have hown3 := HOWN.out.kept (below_grown HA3.out none) (by simp)
            have hkey := HKEY.out
            go_wp2_with (first
              | (at_mapUpdate; refine wpList_mapUpdate_own _ rfl _ _ _ 124 rfl 9 4 (string_keyed Tryz.underlying9) Tryz.underlying124 (plainElem Tryz.prog 4) w.heap.size k _ rfl hown3 (by unfold maxLen; omega) _ _ (keyS nx) rfl rfl hkey _ [] (plainElem_bool Tryz.underlying4 true) ?_; intro w4 hown4 hg4))
            have HO4 := Lib.hid (by have h := hown4; rw [← HSN.out] at h; exact h)
            have HB4 := Lib.hid ((HBR.out.trans (HA3.out.mono HBR.out.size)).grown hg4 (HBR.out.trans (HA3.out.mono HBR.out.size)).size (fun j e => by cases e; exact Nat.le_refl _))
            clear hown3 hown4 hg4 hkey u0 u1 u2
            go_wp2
            go_roundw
            case rel => exact ⟨k + 1, by go_num, by omega, HOK, HO4, HB4⟩
            case measure => (simp [intOf]; try omega)
      · rw [hsn] at lk
        have HF := Lib.hid (HTW.out hsn)
        clear hsn HLK HNS
        have HB2 := Lib.hid (HBR.out.trans (HBA.out.mono HBR.out.size))
        go_wp2
        go_ret
        exact ⟨by rw [HF.out]; rfl, HB2.out⟩
    · obtain rfl : k = l.length := by omega
      have HF : Hid (namedP l = true) := Lib.hid (by rw [HE.out]; exact okUp_all HT.out)
      clear HT
      go_wp2
      go_ret
      exact ⟨by rw [HF.out]; rfl, HBR.out⟩
set_option maxHeartbeats 1600000 in
set_option maxRecDepth 100000 in
theorem pby_any (l : List ByteArray) (v : Value) (w : World) (hv : StrsG w v l) (hw : StrsFit l) :
    Calls Tryz.prog 54 #[v] w fun e w' => e = .returned (.bool (byP l)) ∧ Below w.heap.size w w' := by
  obtain ⟨hl, hsz⟩ := hw
  have HE : Hid (byP l = (okAll (fun x : ByteArray => x) (fun x : ByteArray => nameL (B x)) l && decide (l.length ≤ 8))) := Lib.hid (byP_eq l)
  obtain ⟨a, c, rfl, hc, hr⟩ := RdAt.shape hv
  have HR := Lib.hid hr
  have HSZ := Lib.hid hsz
  have hl47 : l.length ≤ maxLen := hl
  unfold maxLen at hl47
  have hmm := @run_makeMap Tryz.prog
  clear hr hv hl hsz
  go_enter Tryz.func54, Tryz.ntmps54
  go_wp2
  go_loopw [9] (fun i wr => ∃ k : Nat, i = .int .i64 k ∧ k ≤ l.length ∧ Hid (okUp (fun x : ByteArray => x) (fun x : ByteArray => nameL (B x)) l k) ∧ Hid (wr.ownsMap Tryz.prog 9 (plainElem Tryz.prog 4) w.heap.size k (seenD ((l.map (fun x : ByteArray => x)).take k))) ∧ Hid (Below w.heap.size w wr)) (fun i _ => l.length - (intOf i).toNat)
  case atStart => exact ⟨0, rfl, Nat.zero_le _, Lib.hid okUp_zero, Lib.hid (World.ownsMap_made _ _ _ _), Lib.hid (alloc_below _ _)⟩
  case round =>
    obtain ⟨k, rfl, hk, HT, HOWN, HBR⟩ := hrel
    by_cases hkl : k < l.length
    · obtain ⟨b, o, rfl, hb, hcell⟩ := HR.out (by omega)
      have hstep := okUp_succ HT.out hkl
      have hbad := okAll_bad (nm := (fun x : ByteArray => x)) (p := (fun x : ByteArray => nameL (B x))) hkl
      have htw := fun j hj hjk => okAll_twice (nm := (fun x : ByteArray => x)) (p := (fun x : ByteArray => nameL (B x))) (j := j) hj hkl hjk
      have hxs := HSZ.out _ (List.getElem_mem hkl)
      have htk : (l.map (fun x : ByteArray => x)).take (k + 1) = (l.map (fun x : ByteArray => x)).take k ++ [(fun x : ByteArray => x) l[k]] := by rw [List.take_succ_eq_append_getElem (by simpa using hkl), List.getElem_map]
      obtain ⟨nx, hx⟩ : ∃ x, l[k] = x := ⟨_, rfl⟩
      have q0 : wr.cell? ⟨b, o + k, none⟩ = some (.string nx) := keep_cell (hcell _ _ (by rw [List.getElem?_map, List.getElem?_eq_getElem hkl, hx]; rfl)) HBR.out hb
      rw [hx] at hstep hbad hxs htk
      simp only [hx] at htw
      have HBAD : Hid (nameL (B nx) = false → byP l = false) := Lib.hid (fun h => by rw [HE.out, hbad h]; rfl)
      have HTW : Hid (seenB ((l.map (fun x : ByteArray => x)).take k) nx = true → byP l = false) := Lib.hid (fun h => by
        obtain ⟨j, hj, hjk, he⟩ := (seen_take (fun x : ByteArray => x) l k nx).1 h
        rw [HE.out, htw j hj hjk he]; rfl)
      have HNS : Hid (seenB ((l.map (fun x : ByteArray => x)).take k) nx = false → ∀ j (hj : j < l.length), j < k → (fun x : ByteArray => x) l[j] ≠ nx) := Lib.hid (fun h j hj hjk he => by
        have := (seen_take (fun x : ByteArray => x) l k nx).2 ⟨j, hj, hjk, he⟩
        rw [h] at this; cases this)
      have HST := Lib.hid hstep
      have HSN : Hid (seenD ((l.map (fun x : ByteArray => x)).take (k + 1)) = (seenD ((l.map (fun x : ByteArray => x)).take k)).put (keyS nx) (.lit (.bool true))) := Lib.hid (by rw [htk, seenD_snoc])
      have HXS := Lib.hid hxs
      have hkey : keyOf Tryz.prog 9 (.string nx) = some (keyS nx) := WideMaps.keyOf_string_mk Tryz.underlying9 hxs
      have HKEY := Lib.hid hkey
      have HLK : Hid (∀ W, Below wr.heap.size wr W → (Instr.lookup 124 (.map (some w.heap.size)) (.string nx) false).run Tryz.prog W = .ok (.bool (seenB ((l.map (fun x : ByteArray => x)).take k) nx)) W) := Lib.hid (fun W h =>
        seen_lookup (HOWN.out.kept (below_grown h none) (by simp)) Tryz.underlying124 Tryz.underlying9 Tryz.underlying4 (Tryz.zeroValue4 _) nx hxs)
      clear hcell hstep hbad htw hx hxs htk hkey
      have lk := HLK.out _ (Below.refl _ _)
      obtain ⟨wa, rfl⟩ : ∃ z, z = wr := ⟨_, rfl⟩
      have HBA : Hid (Below wa.heap.size wa wa) := Lib.hid (Below.refl _ _)
      cases hsn : seenB ((l.map (fun x : ByteArray => x)).take k) nx
      · rw [hsn] at lk
        have HN1 := Lib.hid (HNS.out hsn)
        clear hsn HLK HTW HNS
        have kn := name_any nx wa HXS.out
        cases hnm : nameL (B nx)
        · rw [hnm] at kn
          have HF := Lib.hid (HBAD.out (by exact hnm))
          clear hnm
          go_wp2_with fail
          refine kn.mono ?_
          rintro e w2 ⟨rfl, hb2⟩
          have HB2 := Lib.hid (HBR.out.trans ((HBA.out.trans (hb2.mono HBA.out.size)).mono HBR.out.size))
          clear hb2 kn lk 
          go_wp2
          go_ret
          exact ⟨by rw [HF.out]; rfl, HB2.out⟩
        · rw [hnm] at kn
          have HOK := Lib.hid (HST.out (fun j hj h => HN1.out j hj h) hnm)
          clear hnm
          go_wp2_with fail
          refine kn.mono ?_
          rintro e w3 ⟨rfl, hb3⟩
          have HA3 := Lib.hid hb3
          clear hb3 kn lk
          have hown3 := HOWN.out.kept (below_grown HA3.out none) (by simp)
          have hkey := HKEY.out
          go_wp2_with (first
            | (at_mapUpdate; refine wpList_mapUpdate_own _ rfl _ _ _ 124 rfl 9 4 (string_keyed Tryz.underlying9) Tryz.underlying124 (plainElem Tryz.prog 4) w.heap.size k _ rfl hown3 (by unfold maxLen; omega) _ _ (keyS nx) rfl rfl hkey _ [] (plainElem_bool Tryz.underlying4 true) ?_; intro w4 hown4 hg4))
          have HO4 := Lib.hid (by have h := hown4; rw [← HSN.out] at h; exact h)
          have HB4 := Lib.hid ((HBR.out.trans (HA3.out.mono HBR.out.size)).grown hg4 (HBR.out.trans (HA3.out.mono HBR.out.size)).size (fun j e => by cases e; exact Nat.le_refl _))
          clear hown3 hown4 hg4 hkey
          go_wp2
          go_roundw
          case rel => exact ⟨k + 1, by go_num, by omega, HOK, HO4, HB4⟩
          case measure => (simp [intOf]; try omega)
      · rw [hsn] at lk
        have HF := Lib.hid (HTW.out hsn)
        clear hsn HLK HNS
        have HB2 := Lib.hid (HBR.out.trans (HBA.out.mono HBR.out.size))
        go_wp2
        go_ret
        exact ⟨by rw [HF.out]; rfl, HB2.out⟩
    · obtain rfl : k = l.length := by omega
      have HF : Hid (byP l = decide (l.length ≤ 8)) := Lib.hid (by rw [HE.out, show okAll (fun x : ByteArray => x) (fun x : ByteArray => nameL (B x)) l = true from okUp_all HT.out]; rfl)
      clear HT
      by_cases h8 : l.length ≤ 8
      · have hi8 : (l.length : Int) ≤ 8 := by omega
        go_wp2
        go_ret
        exact ⟨by rw [HF.out, decide_eq_true h8]; rfl, HBR.out⟩
      · have hi8 : ¬ (l.length : Int) ≤ 8 := by omega
        go_wp2
        go_ret
        exact ⟨by rw [HF.out, decide_eq_false h8]; rfl, HBR.out⟩
end Go.Proofs.YtipnhpfpppblhaaGreat

/- policy.when, between, Check: contracts. -/
namespace Go.Proofs.YtipnhpfpppblhaaGreat
open Go.RowKit Go.Maps
def lowN (x : Nat) : Bool := decide ((x : Int) < 32)
theorem low_any (x : Nat) (w : World) :
    Calls Tryz.prog 83 #[.int .i32 x] w fun e w' => e = .returned (.bool (lowN x)) ∧ ∃ q, w' = w.drewN q := by
  have H : Hid (lowN x = decide ((x : Int) < 32)) := rfl
  by_cases h : (x : Int) < 32
  · go_enter Tryz.func83, Tryz.ntmps83
    go_wp2
    go_ret
    exact ⟨by rw [H.out, decide_eq_true h]; rfl, 0, rfl⟩
  · go_enter Tryz.func83, Tryz.ntmps83
    go_wp2
    go_ret
    exact ⟨by rw [H.out, decide_eq_false (show ¬ (x : Int) < 32 by omega)]; rfl, 0, rfl⟩
theorem low_plain (s : ByteArray) : ((B s).any fun c => lowN c.toNat) = !plainT s := by
  unfold plainT
  rw [List.not_all_eq_any_not]
  congr 1
  funext c
  unfold lowN
  by_cases h : c.toNat < 32
  · rw [decide_eq_true (by omega), decide_eq_false (by omega)]; rfl
  · rw [decide_eq_false (by omega), decide_eq_true (by omega)]; rfl
theorem has_low (s : ByteArray) (w : World) :
    Calls Tryz.prog 77 #[.string s, .func (.func 83) #[] #[]] w fun e w' => e = .returned (.bool (!plainT s)) ∧ Below w.heap.size w w' := by
  have h := Tryz.strings_ContainsFunc_runes 83 #[] (enters_of Tryz.func83 (by kernel_rfl) rfl) lowN s w (fun W x hx _ => low_any x W)
  rw [idxFunc_bytes lowN false (fun x hx => by unfold lowN; exact decide_eq_false (by omega)) s] at h
  rw [← low_plain]
  exact h
def oddM (m : Mt) : Bool := !(plainT m.val && fineM m)
set_option maxHeartbeats 800000 in
theorem whenc_any (m : Mt) (w : World) (hf : MtFit m) :
    Calls Tryz.prog 81 #[.agg #[.string m.nm, .int .i64 m.op, .string m.val]] w fun e w' => e = .returned (.bool (oddM m)) ∧ Below w.heap.size w w' := by
  have HE : Hid (oddM m = !(plainT m.val && fineM m)) := rfl
  have kf := fun W => mfine_any m W hf
  have ks := has_low m.val
  obtain ⟨nm, op, val⟩ := m
  dsimp only at kf ks HE
  have KF := Lib.hid kf
  have KS := Lib.hid ks
  obtain ⟨W0, hW0⟩ : ∃ z, w.alloc (.cells #[.string nm, .int .i64 op, .string val] 92) = z := ⟨_, rfl⟩
  have hd := (Below.refl W0.heap.size W0)
  rw [← hW0] at hd
  obtain ⟨⟨c0, c1, c2⟩, hlt, hB⟩ := box3m hd
  rw [hW0] at c0 c1 c2 hlt hB
  have HB := Lib.hid hB
  have HLT := Lib.hid hlt
  have HC := Lib.hid c2
  clear kf ks hd hlt hB
  go_enter Tryz.func81, Tryz.ntmps81
  go_upto_region 1 with fail
  clear hW0
  have kk := KF.out W0
  cases hfm : fineM ⟨nm, op, val⟩
  · have HF : Hid (oddM ⟨nm, op, val⟩ = true) := Lib.hid (by rw [HE.out, hfm, Bool.and_false]; rfl)
    rw [hfm] at kk
    clear hfm
    go_wp2_with fail
    refine kk.mono ?_
    rintro e w1 ⟨rfl, hb1⟩
    have HB1 := Lib.hid (HB.out.trans (hb1.mono HB.out.size))
    clear hb1 kk c0 c1 c2 HC
    go_wp2
    go_ret
    exact ⟨by rw [HF.out]; rfl, HB1.out⟩
  · have HF : Hid (oddM ⟨nm, op, val⟩ = !plainT val) := Lib.hid (by rw [HE.out, hfm, Bool.and_true])
    rw [hfm] at kk
    clear hfm
    go_wp2_with fail
    refine kk.mono ?_
    rintro e w1 ⟨rfl, hb1⟩
    have HB1 := Lib.hid (HB.out.trans (hb1.mono HB.out.size))
    have d2 := keep_cell HC.out hb1 HLT.out
    clear hb1 kk c0 c1 c2 HC
    generalize (!plainT val) = o at *
    go_wp2_with fail
    refine (KS.out w1).mono ?_
    rintro e w2 ⟨rfl, hb2⟩
    have HB2 := Lib.hid (HB1.out.trans (hb2.mono HB1.out.size))
    clear hb2 d2
    go_wp2
    go_ret
    exact ⟨by rw [HF.out]; rfl, HB2.out⟩
set_option maxHeartbeats 800000 in
theorem pwhen_any (l : List Mt) (v : Value) (w : World) (hv : MtsAt w v l) (hl : l.length ≤ maxLen) (hfit : MtsFit l) :
    Calls Tryz.prog 55 #[v] w fun e w' => e = .returned (.bool (whenP l)) ∧ Below w.heap.size w w' := by
  have hkey : whenP l = (decide (l.length ≤ 12) && !l.any oddM) := by
    unfold whenP
    rw [Bool.and_comm]
    congr 1
    rw [List.not_any_eq_all_not]
    congr 1
    funext m
    unfold oddM
    rw [Bool.not_not]
  have HE := Lib.hid hkey
  have kk := fun (h : l.length ≤ 12) => hasm_gen l hfit oddM 81 #[] (enters_of Tryz.func81 (by kernel_rfl) rfl) v w hv (by omega) (fun W m hm _ => whenc_any m W hm)
  obtain ⟨a, c, rfl, _, _⟩ := RdAt.shape hv
  have KK := Lib.hid kk
  unfold maxLen at hl
  clear hkey kk hv hfit
  by_cases h12 : l.length ≤ 12
  · have hi : (l.length : Int) ≤ 12 := by omega
    have kk := KK.out h12
    have HF : Hid (whenP l = !l.any oddM) := Lib.hid (by rw [HE.out, decide_eq_true h12]; rfl)
    generalize l.any oddM = o at *
    clear KK HE
    go_enter Tryz.func55, Tryz.ntmps55
    go_wp2_with fail
    refine kk.mono ?_
    rintro e w1 ⟨rfl, hb1⟩
    clear kk
    go_wp2
    go_ret
    exact ⟨by rw [HF.out]; rfl, hb1⟩
  · have hi : ¬ (l.length : Int) ≤ 12 := by omega
    have HF : Hid (whenP l = false) := Lib.hid (by rw [HE.out, decide_eq_false h12]; rfl)
    clear KK HE
    go_enter Tryz.func55, Tryz.ntmps55
    go_wp2
    go_ret
    exact ⟨by rw [HF.out]; rfl, Below.refl _ _⟩
theorem betw_any (n lo hi : Int) (b : Bool) (hb : (decide (lo ≤ n) && decide (n ≤ hi)) = b) (w : World) :
    Calls Tryz.prog 53 #[.int .i64 n, .int .i64 lo, .int .i64 hi] w fun e w' => e = .returned (.bool b) ∧ w = w' := by
  have H := Lib.hid hb
  clear hb
  rcases (show n < lo ∨ (lo ≤ n ∧ hi < n) ∨ (lo ≤ n ∧ n ≤ hi) by omega) with h | ⟨h, h'⟩ | ⟨h, h'⟩
  · go_enter Tryz.func53, Tryz.ntmps53
    go_wp2
    go_ret
    exact ⟨by rw [← H.out, decide_eq_false (show ¬ lo ≤ n by omega)]; rfl, rfl⟩
  · go_enter Tryz.func53, Tryz.ntmps53
    go_wp2
    go_ret
    exact ⟨by rw [← H.out, decide_eq_true (show lo ≤ n by omega), decide_eq_false (show ¬ n ≤ hi by omega)]; rfl, rfl⟩
  · go_enter Tryz.func53, Tryz.ntmps53
    go_wp2
    go_ret
    exact ⟨by rw [← H.out, decide_eq_true (show lo ≤ n by omega), decide_eq_true (show n ≤ hi by omega)]; rfl, rfl⟩
theorem check1_any (l : List Nmd) (v : Value) (w : World) (hv : NmdsAt w v l) (hw : NmdWide l) :
    Calls Tryz.prog 49 #[v] w fun e w' => e = .returned (.bool (!namedP l)) ∧ Below w.heap.size w w' := by
  have kk := pnamed_any l v w hv hw
  obtain ⟨a, c, rfl, _, _⟩ := RdAt.shape hv
  generalize namedP l = o at *
  clear hv hw
  go_enter Tryz.func49, Tryz.ntmps49
  go_wp2_with fail
  refine kk.mono ?_
  rintro e w1 ⟨rfl, hb1⟩
  clear kk
  go_wp2
  go_ret
  exact ⟨rfl, hb1⟩
end Go.Proofs.YtipnhpfpppblhaaGreat

/- policy.Check: a contract. -/
namespace Go.Proofs.YtipnhpfpppblhaaGreat
open Go.RowKit Go.Maps
/-! ### an inhibit -/
set_option maxHeartbeats 1600000 in
set_option maxRecDepth 100000 in
theorem check3_any (x : PIh) (w : World) (hin : IhIn w x) (hf : IhFit x) :
    Calls Tryz.prog 56 #[.agg #[x.bv, .int .i64 x.lv, .int .u32 x.c, x.fv, x.wv]] w fun e w' => e = .returned (.bool (badIh x)) ∧ Below w.heap.size w w' := by
  have KBY := Lib.hid (fun W (h : Below w.heap.size w W) => pby_any x.bys x.bv W (RdAt.later hin.b h) hf.bys)
  have KW1 := Lib.hid (fun W (h : Below w.heap.size w W) => pwhen_any x.frm x.fv W (hin.f.later h) hf.lf hf.frm)
  have KW2 := Lib.hid (fun W (h : Below w.heap.size w W) => pwhen_any x.whn x.wv W (hin.m.later h) hf.lw hf.whn)
  have KRL := Lib.hid (right_any x.lv x.c)
  have HE : Hid (badIh x = (!byP x.bys || !rightL x.lv || !whenP x.frm || !whenP x.whn)) := rfl
  obtain ⟨bys, lv, c, frm, whn, bv, fv, wv⟩ := x
  dsimp only at *
  obtain ⟨ba, bc, hba, _, _⟩ := RdAt.shape hin.b
  dsimp only at hba
  subst hba
  obtain ⟨fa, fc, hfa, _, _⟩ := RdAt.shape hin.f
  dsimp only at hfa
  subst hfa
  obtain ⟨wa, wc, hwa, _, _⟩ := RdAt.shape hin.m
  dsimp only at hwa
  subst hwa
  clear hin hf
  generalize badIh _ = R at *
  obtain ⟨W0, hW0⟩ : ∃ z, w.alloc (.cells #[.slice ba bys.length bc, .int .i64 lv, .int .u32 c, .slice fa frm.length fc, .slice wa whn.length wc] 51) = z := ⟨_, rfl⟩
  have hB0 : Below w.heap.size w W0 := by rw [← hW0]; exact alloc_below _ _
  have hC : C5 w.heap.size (.slice ba bys.length bc) (.int .i64 lv) (.int .u32 c) (.slice fa frm.length fc) (.slice wa whn.length wc) W0 := by rw [← hW0]; exact box5n w _ _ _ _ _ _
  have hlt : w.heap.size < W0.heap.size := by rw [← hW0, World.size_alloc]; omega
  have HB0 := Lib.hid hB0
  have HC0 := Lib.hid hC
  have HL0 := Lib.hid hlt
  clear hB0 hC hlt
  go_enter Tryz.func56, Tryz.ntmps56
  go_upto_region 1 with fail
  clear hW0
  obtain ⟨r0, r1, r2, r3, r4⟩ := HC0.out
  have kk := KBY.out _ HB0.out
  cases hq1 : byP bys
  · have HF : Hid (R = true) := Lib.hid (by rw [HE.out]; simp [hq1])
    rw [hq1] at kk
    clear hq1
    go_wp2_with fail
    refine kk.mono ?_
    rintro e w1 ⟨rfl, hb1⟩
    have HB := Lib.hid (HB0.out.trans (hb1.mono HB0.out.size))
    clear hb1 kk r0 r1 r2 r3 r4
    go_wp2
    go_ret
    exact ⟨by rw [HF.out]; rfl, HB.out⟩
  · rw [hq1] at kk
    have HQ1 := Lib.hid hq1
    clear hq1
    go_wp2_with fail
    refine kk.mono ?_
    rintro e w1 ⟨rfl, hb1⟩
    have HB1 := Lib.hid (HB0.out.trans (hb1.mono HB0.out.size))
    have HC1 := Lib.hid (C5.later HC0.out hb1 HL0.out)
    have HL1 := Lib.hid (Nat.lt_of_lt_of_le HL0.out hb1.size)
    clear hb1 kk r0 r1 r2 r3 r4 HC0 HL0
    obtain ⟨r0, r1, r2, r3, r4⟩ := HC1.out
    have kk := KRL.out w1
    cases hq2 : rightL lv
    · have HF : Hid (R = true) := Lib.hid (by rw [HE.out]; simp [hq2])
      rw [hq2] at kk
      clear hq2
      go_wp2_with fail
      refine kk.mono ?_
      rintro e w2 ⟨rfl, hb2⟩
      have HB := Lib.hid (HB1.out.trans (hb2.mono HB1.out.size))
      clear hb2 kk r0 r1 r2 r3 r4
      go_wp2
      go_ret
      exact ⟨by rw [HF.out]; rfl, HB.out⟩
    · rw [hq2] at kk
      have HQ2 := Lib.hid hq2
      clear hq2
      go_wp2_with fail
      refine kk.mono ?_
      rintro e w2 ⟨rfl, hb2⟩
      have HB2 := Lib.hid (HB1.out.trans (hb2.mono HB1.out.size))
      have HC2 := Lib.hid (C5.later HC1.out hb2 HL1.out)
      have HL2 := Lib.hid (Nat.lt_of_lt_of_le HL1.out hb2.size)
      clear hb2 kk r0 r1 r2 r3 r4 HC1 HL1
      obtain ⟨r0, r1, r2, r3, r4⟩ := HC2.out
      have kk := KW1.out _ HB2.out
      cases hq3 : whenP frm
      · have HF : Hid (R = true) := Lib.hid (by rw [HE.out]; simp [hq3])
        rw [hq3] at kk
        clear hq3
        go_wp2_with fail
        refine kk.mono ?_
        rintro e w3 ⟨rfl, hb3⟩
        have HB := Lib.hid (HB2.out.trans (hb3.mono HB2.out.size))
        clear hb3 kk r0 r1 r2 r3 r4
        go_wp2
        go_ret
        exact ⟨by rw [HF.out]; rfl, HB.out⟩
      · rw [hq3] at kk
        have HQ3 := Lib.hid hq3
        clear hq3
        go_wp2_with fail
        refine kk.mono ?_
        rintro e w3 ⟨rfl, hb3⟩
        have HB3 := Lib.hid (HB2.out.trans (hb3.mono HB2.out.size))
        have HC3 := Lib.hid (C5.later HC2.out hb3 HL2.out)
        have HL3 := Lib.hid (Nat.lt_of_lt_of_le HL2.out hb3.size)
        clear hb3 kk r0 r1 r2 r3 r4 HC2 HL2
        obtain ⟨r0, r1, r2, r3, r4⟩ := HC3.out
        have kk := KW2.out _ HB3.out
        cases hq4 : whenP whn
        · have HF : Hid (R = true) := Lib.hid (by rw [HE.out]; simp [hq4])
          rw [hq4] at kk
          clear hq4
          go_wp2_with fail
          refine kk.mono ?_
          rintro e w4 ⟨rfl, hb4⟩
          have HB := Lib.hid (HB3.out.trans (hb4.mono HB3.out.size))
          clear hb4 kk r0 r1 r2 r3 r4
          go_wp2
          go_ret
          exact ⟨by rw [HF.out]; rfl, HB.out⟩
        · rw [hq4] at kk
          have HQ4 := Lib.hid hq4
          clear hq4
          go_wp2_with fail
          refine kk.mono ?_
          rintro e w4 ⟨rfl, hb4⟩
          have HB4 := Lib.hid (HB3.out.trans (hb4.mono HB3.out.size))
          have HC4 := Lib.hid (C5.later HC3.out hb4 HL3.out)
          have HL4 := Lib.hid (Nat.lt_of_lt_of_le HL3.out hb4.size)
          clear hb4 kk r0 r1 r2 r3 r4 HC3 HL3
          have HF : Hid (R = false) := Lib.hid (by rw [HE.out, HQ1.out, HQ2.out, HQ3.out, HQ4.out]; rfl)
          go_wp2
          go_ret
          exact ⟨by rw [HF.out]; rfl, HB4.out⟩
/-! ### a route -/
set_option maxHeartbeats 1600000 in
set_option maxRecDepth 100000 in
theorem check2_any (re : List Nmd) (rv : Value) (bp : Nat) (x : PRt) (w : World) (hre : NmdsAt w rv re) (hrl : re.length ≤ maxLen) (hbx : w.cell? ⟨bp, 1, none⟩ = some rv) (hbl : bp < w.heap.size) (hin : RtIn w x) (hf : RtFit x) :
    Calls Tryz.prog 51 #[.agg #[.string x.rcv, x.bv, .int .i64 x.wait, .int .i64 x.every, .int .i64 x.again, x.wv], .pointer (some ⟨bp, 0, none⟩)] w fun e w' => e = .returned (.bool (badRt re x)) ∧ Below w.heap.size w w' := by
  have KBY := Lib.hid (fun W (h : Below w.heap.size w W) => pby_any x.bys x.bv W (RdAt.later hin.b h) hf.bys)
  have KWH := Lib.hid (fun W (h : Below w.heap.size w W) => pwhen_any x.whn x.wv W (hin.m.later h) hf.len hf.whn)
  have KFD := Lib.hid (fun W (h : Below w.heap.size w W) => find_any re x.rcv rv W (hre.later h) hrl)
  have HE : Hid (badRt re x = (!(findL re x.rcv).isSome || !byP x.bys || !timesP x || !whenP x.whn)) := rfl
  have HTI : Hid (timesP x = (decide (0 ≤ x.wait) && decide (x.wait ≤ 1000) && decide (1 ≤ x.every) && decide (x.every ≤ 1000) && decide (x.every ≤ x.again) && decide (x.again ≤ 100000))) := rfl
  obtain ⟨ra, rc, rfl, _, _⟩ := RdAt.shape hre
  generalize timesP x = T at *
  generalize badRt re x = R at *
  obtain ⟨rcv, bys, wait, every, again, whn, bv, wv⟩ := x
  dsimp only at *
  obtain ⟨ba, bc, hba, _, _⟩ := RdAt.shape hin.b
  dsimp only at hba
  subst hba
  obtain ⟨wa, wc, hwa, _, _⟩ := RdAt.shape hin.m
  dsimp only at hwa
  subst hwa
  clear hin hf hre hrl
  obtain ⟨W0, hW0⟩ : ∃ z, w.alloc (.cells #[.string rcv, .slice ba bys.length bc, .int .i64 wait, .int .i64 every, .int .i64 again, .slice wa whn.length wc] 84) = z := ⟨_, rfl⟩
  have hB0 : Below w.heap.size w W0 := by rw [← hW0]; exact alloc_below _ _
  have hC : C6 w.heap.size (.string rcv) (.slice ba bys.length bc) (.int .i64 wait) (.int .i64 every) (.int .i64 again) (.slice wa whn.length wc) W0 := by rw [← hW0]; exact box6n w _ _ _ _ _ _ _
  have hlt : w.heap.size < W0.heap.size := by rw [← hW0, World.size_alloc]; omega
  have p1 := keep_cell hbx hB0 hbl
  have HB0 := Lib.hid hB0
  have HC0 := Lib.hid hC
  have HL0 := Lib.hid hlt
  clear hB0 hC hlt hbx hbl
  go_enter Tryz.func51, Tryz.ntmps51
  go_upto_region 1 with fail
  clear hW0
  obtain ⟨r0, r1, r2, r3, r4, r5⟩ := HC0.out
  have kk := KFD.out _ HB0.out
  obtain ⟨fl, fc', fs, hfs, hfv⟩ : ∃ (fl : Int) (fc' : Nat) (fs : Bool), (findL re rcv).isSome = fs ∧ findV (findL re rcv) = .agg #[.int .i64 fl, .int .u32 fc'] := by
    cases findL re rcv with
    | none => exact ⟨0, 0, false, rfl, rfl⟩
    | some y => exact ⟨y.2.1, y.2.2, true, rfl, rfl⟩
  rw [hfs] at HE
  rw [hfs, hfv] at kk
  clear hfs hfv
  go_wp2_with fail
  refine kk.mono ?_
  rintro e w1 ⟨rfl, hb1⟩
  have HB1 := Lib.hid (HB0.out.trans (hb1.mono HB0.out.size))
  have HC1 := Lib.hid (C6.later HC0.out hb1 HL0.out)
  have HL1 := Lib.hid (Nat.lt_of_lt_of_le HL0.out hb1.size)
  clear hb1 kk r0 r1 r2 r3 r4 r5 p1 HC0 HL0 HB0
  go_upto_region 2 with fail
  change Code.wp _ _ _ _ (w1.alloc (.cells #[.int .i64 fl, .int .u32 fc'] 36))
  have hb2 := alloc_below w1 (.cells #[.int .i64 fl, .int .u32 fc'] 36)
  generalize w1.alloc (.cells #[.int .i64 fl, .int .u32 fc'] 36) = w2 at *
  have HB2 := Lib.hid (HB1.out.trans (hb2.mono HB1.out.size))
  have HC2 := Lib.hid (C6.later HC1.out hb2 HL1.out)
  have HL2 := Lib.hid (Nat.lt_of_lt_of_le HL1.out hb2.size)
  clear hb2 HB1 HC1 HL1
  obtain ⟨r0, r1, r2, r3, r4, r5⟩ := HC2.out
  go_cut [6] (fun s6 wx => s6 = .bool T ∧ wx = w2)
  case first =>
    have kb1 := fun b h W => betw_any wait 0 1000 b h W
    have kb2 := fun b h W => betw_any every 1 1000 b h W
    have kb3 := fun b h W => betw_any again every 100000 b h W
    clear HE KBY KWH KFD
    cases h1 : (decide (0 ≤ wait) && decide (wait ≤ 1000))
    · obtain rfl : T = false := by rw [HTI.out, h1]; rfl
      have k1 := kb1 _ h1
      clear h1 HTI kb1 kb2 kb3
      go_wp2_with fail
      refine (k1 _).mono ?_
      rintro e w3 ⟨rfl, rfl⟩
      go_wp2
      go_meet
      exact ⟨rfl, rfl⟩
    · have k1 := kb1 _ h1
      cases h2 : (decide (1 ≤ every) && decide (every ≤ 1000))
      · obtain rfl : T = false := by rw [HTI.out, h1, Bool.true_and, h2]; rfl
        have k2 := kb2 _ h2
        clear h1 h2 HTI kb1 kb2 kb3
        go_wp2_with fail
        refine (k1 _).mono ?_
        rintro e w3 ⟨rfl, rfl⟩
        go_wp2_with fail
        refine (k2 _).mono ?_
        rintro e w3 ⟨rfl, rfl⟩
        go_wp2
        go_meet
        exact ⟨rfl, rfl⟩
      · have k2 := kb2 _ h2
        obtain ⟨b3, h3⟩ : ∃ b, (decide (every ≤ again) && decide (again ≤ 100000)) = b := ⟨_, rfl⟩
        have k3 := kb3 _ h3
        obtain rfl : T = b3 := by rw [HTI.out, h1, Bool.true_and, h2, Bool.true_and, h3]
        clear h1 h2 h3 HTI kb1 kb2 kb3
        go_wp2_with fail
        refine (k1 _).mono ?_
        rintro e w3 ⟨rfl, rfl⟩
        go_wp2_with fail
        refine (k2 _).mono ?_
        rintro e w3 ⟨rfl, rfl⟩
        go_wp2_with fail
        refine (k3 _).mono ?_
        rintro e w3 ⟨rfl, rfl⟩
        go_wp2
        go_meet
        exact ⟨rfl, rfl⟩
  case rest =>
    obtain ⟨rfl, rfl⟩ := hcut
    clear HTI KFD
    cases fs
    · have HF : Hid (R = true) := Lib.hid (by rw [HE.out]; rfl)
      clear HE
      go_wp2
      go_ret
      exact ⟨by rw [HF.out]; rfl, HB2.out⟩
    · have kk := KBY.out _ HB2.out
      cases hby : byP bys
      · have HF : Hid (R = true) := Lib.hid (by rw [HE.out]; simp [hby])
        rw [hby] at kk
        clear HE hby
        go_wp2_with fail
        refine kk.mono ?_
        rintro e w4 ⟨rfl, hb4⟩
        have HB4 := Lib.hid (HB2.out.trans (hb4.mono HB2.out.size))
        clear hb4 kk r0 r1 r2 r3 r4 r5
        go_wp2
        go_ret
        exact ⟨by rw [HF.out]; rfl, HB4.out⟩
      · rw [hby] at kk HE
        clear hby
        go_wp2_with fail
        refine kk.mono ?_
        rintro e w4 ⟨rfl, hb4⟩
        have HB4 := Lib.hid (HB2.out.trans (hb4.mono HB2.out.size))
        have q5 := keep_cell r5 hb4 HL2.out
        clear hb4 kk r0 r1 r2 r3 r4 r5
        cases T
        · have HF : Hid (R = true) := Lib.hid (by rw [HE.out]; rfl)
          clear HE
          go_wp2
          go_ret
          exact ⟨by rw [HF.out]; rfl, HB4.out⟩
        · have kk := KWH.out _ HB4.out
          have HF : Hid (R = !whenP whn) := Lib.hid (by rw [HE.out]; rfl)
          generalize whenP whn = o at *
          clear HE
          go_wp2_with fail
          refine kk.mono ?_
          rintro e w5 ⟨rfl, hb5⟩
          have HB5 := Lib.hid (HB4.out.trans (hb5.mono HB4.out.size))
          clear hb5 kk q5
          go_wp2
          go_ret
          exact ⟨by rw [HF.out]; rfl, HB5.out⟩
end Go.Proofs.YtipnhpfpppblhaaGreat

/- policy.Check: the contract. -/
namespace Go.Proofs.YtipnhpfpppblhaaGreat
open Go.RowKit Go.Maps
def l4 (p : PD) (v : PV) : List (List Nmd × Value) := [(p.so, v.v0), (p.re, v.v1), (p.pe, v.v2), (p.ra, v.v3)]
def lgR (p : PD) : Bool := decide (12 < max p.ro.length p.ih.length)
theorem long_l4 (p : PD) (v : PV) : longP p = (lgR p || (l4 p v).any fun x => decide (12 < x.1.length)) := by
  have h : decide (12 < max p.ro.length p.ih.length) = (decide (12 < p.ro.length) || decide (12 < p.ih.length)) := by
    rw [Bool.eq_iff_iff]; simp only [decide_eq_true_eq, Bool.or_eq_true]; omega
  unfold longP lgR l4
  rw [h]
  simp only [List.any_cons, List.any_nil, Bool.or_false]
  cases decide (12 < p.so.length) <;> cases decide (12 < p.re.length) <;> cases decide (12 < p.pe.length) <;> cases decide (12 < p.ra.length) <;> cases decide (12 < p.ro.length) <;> cases decide (12 < p.ih.length) <;> rfl
theorem names_l4 (p : PD) (v : PV) : ((l4 p v).any fun x => !namedP x.1) = !namesP p := by
  unfold namesP l4
  simp only [List.any_cons, List.any_nil, Bool.or_false]
  cases namedP p.so <;> cases namedP p.re <;> cases namedP p.pe <;> cases namedP p.ra <;> rfl
theorem longs_no {p : PD} (h : longP p = false) : p.ro.length ≤ 12 ∧ p.ih.length ≤ 12 := by
  unfold longP at h
  simp only [Bool.or_eq_false_iff, decide_eq_false_iff_not] at h
  omega
set_option maxHeartbeats 1600000 in
set_option maxRecDepth 100000 in
theorem pcheck_any (v : PV) (p : PD) (w : World) (hv : PolAt w v p) (hf : PolFitD p) :
    Calls Tryz.prog 27 #[v.v] w fun e w' => e = .returned (.int .i64 (checkP p)) ∧ Below w.heap.size w w' := by
  have HLG := Lib.hid (long_l4 p v)
  have HNM := Lib.hid (names_l4 p v)
  have hmem : ∀ x ∈ l4 p v, NmdsAt w x.2 x.1 ∧ NmdWide x.1 := by
    intro x hx
    simp only [l4, List.mem_cons, List.not_mem_nil, or_false] at hx
    rcases hx with rfl | rfl | rfl | rfl
    · exact ⟨hv.h0, hf.h0⟩
    · exact ⟨hv.h1, hf.h1⟩
    · exact ⟨hv.h2, hf.h2⟩
    · exact ⟨hv.h3, hf.h3⟩
  have HM := Lib.hid hmem
  have HV := Lib.hid hv
  have HFT := Lib.hid hf
  have hl4 : (l4 p v).map (·.2) = [v.v0, v.v1, v.v2, v.v3] := rfl
  have hlen4 : (l4 p v).length = 4 := rfl
  generalize l4 p v = L at *
  obtain ⟨v0, v1, v2, v3, v4, v5⟩ := v
  obtain ⟨a0, c0, h0, _, _⟩ := RdAt.shape hv.h0
  obtain ⟨a1, c1, h1, _, _⟩ := RdAt.shape hv.h1
  obtain ⟨a2, c2, h2, _, _⟩ := RdAt.shape hv.h2
  obtain ⟨a3, c3, h3, _, _⟩ := RdAt.shape hv.h3
  obtain ⟨a4, c4, h4, _, _⟩ := RdAt.shape hv.h4.1
  obtain ⟨a5, c5, h5, _, _⟩ := RdAt.shape hv.h5.1
  dsimp only at h0 h1 h2 h3 h4 h5 hl4
  subst h0 h1 h2 h3 h4 h5
  have hro := hf.l4
  have hih := hf.l5
  unfold maxLen at hro hih
  obtain ⟨W0, hW0⟩ : ∃ z, w.alloc (.cells #[.slice a0 p.so.length c0, .slice a1 p.re.length c1, .slice a2 p.pe.length c2, .slice a3 p.ra.length c3, .slice a4 p.ro.length c4, .slice a5 p.ih.length c5] 26) = z := ⟨_, rfl⟩
  have hB0 : Below w.heap.size w W0 := by rw [← hW0]; exact alloc_below _ _
  have hC0 : C6 w.heap.size (.slice a0 p.so.length c0) (.slice a1 p.re.length c1) (.slice a2 p.pe.length c2) (.slice a3 p.ra.length c3) (.slice a4 p.ro.length c4) (.slice a5 p.ih.length c5) W0 := by rw [← hW0]; exact box6n w _ _ _ _ _ _ _
  have hlt0 : w.heap.size < W0.heap.size := by rw [← hW0, World.size_alloc]; omega
  have hT : NlsAt (W0.alloc (.cells #[.slice a0 p.so.length c0, .slice a1 p.re.length c1, .slice a2 p.pe.length c2, .slice a3 p.ra.length c3] 22)) (.slice (some ⟨W0.heap.size, 0, none⟩) 4 4) L := by
    unfold NlsAt
    rw [hlen4, hl4]
    exact RdAt.mk rfl (Nat.le_refl _) (by rw [World.size_alloc]; omega) (fun j x hj => by
      have hc : (W0.alloc (.cells #[.slice a0 p.so.length c0, .slice a1 p.re.length c1, .slice a2 p.pe.length c2, .slice a3 p.ra.length c3] 22)).cell? ⟨W0.heap.size, j, none⟩ = _ := World.cell?_alloc_at _ _ _ _ rfl
      rw [Nat.zero_add, hc, ← Array.getElem?_toList]
      exact hj)
  have hb1 := alloc_below W0 (.cells #[.slice a0 p.so.length c0, .slice a1 p.re.length c1, .slice a2 p.pe.length c2, .slice a3 p.ra.length c3] 22)
  obtain ⟨q0, q1, q2, q3, q4, q5⟩ := hC0
  have HW0 := Lib.hid hW0
  have HT := Lib.hid hT
  have HB1 := Lib.hid (hB0.trans (hb1.mono hB0.size))
  have HC1 := Lib.hid (C6.later ⟨q0, q1, q2, q3, q4, q5⟩ hb1 hlt0)
  have HL1 := Lib.hid (Nat.lt_of_lt_of_le hlt0 hb1.size)
  have HLEN := Lib.hid hlen4
  clear hv hf hmem hl4 hlen4 hW0 hB0 hlt0 hT hb1
  go_enter Tryz.func27, Tryz.ntmps27
  go_upto_region 1 with fail
  rw [HW0.out]
  go_upto_region 2 with fail
  change Code.wp _ _ _ _ (W0.alloc (.cells #[.slice a0 p.so.length c0, .slice a1 p.re.length c1, .slice a2 p.pe.length c2, .slice a3 p.ra.length c3] 22))
  clear q0 q1 q2 q3 q4 q5 HW0
  generalize W0.alloc (.cells #[.slice a0 p.so.length c0, .slice a1 p.re.length c1, .slice a2 p.pe.length c2, .slice a3 p.ra.length c3] 22) = w1 at *
  generalize W0.heap.size = g at *
  obtain ⟨q0, q1, q2, q3, q4, q5⟩ := HC1.out
  obtain ⟨lg, hlg⟩ : ∃ z, lgR p = z := ⟨_, rfl⟩
  have HLR := Lib.hid hlg
  rw [hlg] at HLG
  unfold lgR at hlg
  have hmx : max (p.ro.length : Int) (p.ih.length : Int) = ((max p.ro.length p.ih.length : Nat) : Int) := by omega
  go_cut [4] (fun s4 wx => s4 = .bool lg ∧ wx = w1)
  case first =>
    by_cases h12 : 12 < max p.ro.length p.ih.length
    · obtain rfl : lg = true := by rw [← hlg, decide_eq_true h12]
      have hi : (12 : Int) < ((max p.ro.length p.ih.length : Nat) : Int) := by omega
      generalize max p.ro.length p.ih.length = mx at *
      clear hlg
      go_wp2
      go_meet
      exact ⟨rfl, rfl⟩
    · obtain rfl : lg = false := by rw [← hlg, decide_eq_false h12]
      have hi : ¬ (12 : Int) < ((max p.ro.length p.ih.length : Nat) : Int) := by omega
      generalize max p.ro.length p.ih.length = mx at *
      clear hlg
      go_wp2
      go_meet
      exact ⟨rfl, rfl⟩
  case rest =>
    obtain ⟨rfl, rfl⟩ := hcut
    clear hlg hmx q0 q1 q2 q3 q4 q5
    obtain ⟨ta, tc, hsl, _, htr⟩ := RdAt.shape HT.out
    simp only [Value.slice.injEq] at hsl
    obtain ⟨hs1, hs2, hs3⟩ := hsl
    subst hs1
    clear hs2 hs3
    have HTR := Lib.hid htr
    clear htr
    go_wp2
    go_loopw [4, 29] (fun s4 i wr => ∃ (k : Nat) (b : Bool), i = .int .i64 k ∧ k ≤ 4 ∧ s4 = .bool b ∧ Hid (b = (lg || (L.take k).any fun x => decide (12 < x.1.length))) ∧ wr = wc) (fun _ i _ => 4 - (intOf i).toNat)
    case atStart => exact ⟨0, lg, rfl, Nat.zero_le _, rfl, Lib.hid (by simp), rfl⟩
    case round =>
      obtain ⟨k, b, rfl, hk, rfl, HBV, hwr⟩ := hrel
      subst hwr
      by_cases hkl : k < 4
      · have hkL : k < L.length := by rw [HLEN.out]; exact hkl
        obtain ⟨b', o', hbo, hbl, hcell⟩ := HTR.out (by omega)
        simp only [Option.some.injEq, Addr.mk.injEq, and_true] at hbo
        obtain ⟨rfl, rfl⟩ := hbo
        have c0 := hcell k _ (by rw [List.getElem?_map, List.getElem?_eq_getElem hkL]; rfl)
        rw [Nat.zero_add] at c0
        obtain ⟨na, nc, hsh, _, _⟩ := RdAt.shape (HM.out L[k] (List.getElem_mem hkL)).1
        have d0 : wr.cell? ⟨g, k, none⟩ = some L[k].2 := c0
        rw [hsh] at d0
        clear c0
        have hstep : (L.take (k + 1)).any (fun x => decide (12 < x.1.length)) = ((L.take k).any (fun x => decide (12 < x.1.length)) || decide (12 < L[k].1.length)) := by
          rw [List.take_succ_eq_append_getElem hkL, List.any_append]; simp
        generalize L[k].1.length = nn at *
        have HST := Lib.hid hstep
        clear hcell hsh hstep hbl
        cases b
        · by_cases hn : 12 < nn
          · have HN : Hid (true = (lg || (L.take (k + 1)).any fun x => decide (12 < x.1.length))) := Lib.hid (by rw [HST.out, decide_eq_true hn]; simp)
            have hi : (12 : Int) < (nn : Int) := by omega
            go_wp2
            go_roundw
            case rel => exact ⟨k + 1, true, by go_num, by omega, rfl, HN, trivial⟩
            case measure => (simp [intOf]; try omega)
          · have HN : Hid (false = (lg || (L.take (k + 1)).any fun x => decide (12 < x.1.length))) := Lib.hid (by rw [HST.out, decide_eq_false hn, Bool.or_false]; exact HBV.out)
            have hi : ¬ (12 : Int) < (nn : Int) := by omega
            go_wp2
            go_roundw
            case rel => exact ⟨k + 1, false, by go_num, by omega, rfl, HN, trivial⟩
            case measure => (simp [intOf]; try omega)
        · have HN : Hid (true = (lg || (L.take (k + 1)).any fun x => decide (12 < x.1.length))) := Lib.hid (by rw [HST.out, ← Bool.or_assoc, ← HBV.out]; rfl)
          go_wp2
          go_roundw
          case rel => exact ⟨k + 1, true, by go_num, by omega, rfl, HN, trivial⟩
          case measure => (simp [intOf]; try omega)
      · obtain rfl : k = 4 := by omega
        have HLP : Hid (longP p = b) := Lib.hid (by rw [HLG.out, HBV.out, List.take_of_length_le (by rw [HLEN.out]; exact Nat.le_refl _)])
        clear HBV HTR hk hkl
        cases b
        · obtain ⟨hr12, hi12⟩ := longs_no HLP.out
          obtain ⟨q0, q1, q2, q3, q4, q5⟩ := HC1.out
          have kk := hasL_gen L (fun x => !namedP x.1) 49 #[] (enters_of Tryz.func49 (by kernel_rfl) rfl) _ wr HT.out (by rw [HLEN.out]; decide) (fun W x hx hW => check1_any x.1 x.2 W ((HM.out x hx).1.later (HB1.out.trans (hW.mono HB1.out.size))) (HM.out x hx).2)
          rw [HNM.out] at kk
          cases hnp : namesP p
          · have HF : Hid (checkP p = 1) := Lib.hid (check_names HLP.out hnp)
            rw [hnp] at kk
            clear hnp
            go_wp2_with fail
            refine kk.mono ?_
            rintro e w2 ⟨rfl, hb2⟩
            have HB2 := Lib.hid (HB1.out.trans (hb2.mono HB1.out.size))
            clear hb2 kk q0 q1 q2 q3 q4 q5
            go_wp2
            go_ret
            exact ⟨by rw [HF.out]; rfl, HB2.out⟩
          · rw [hnp] at kk
            have HNP := Lib.hid hnp
            clear hnp
            go_wp2_with fail
            refine kk.mono ?_
            rintro e w2 ⟨rfl, hb2⟩
            have HB2 := Lib.hid (HB1.out.trans (hb2.mono HB1.out.size))
            have HC2 := Lib.hid (C6.later HC1.out hb2 HL1.out)
            have HL2 := Lib.hid (Nat.lt_of_lt_of_le HL1.out hb2.size)
            clear hb2 kk q0 q1 q2 q3 q4 q5 HC1 HL1 HB1
            obtain ⟨q0, q1, q2, q3, q4, q5⟩ := HC2.out
            have kk := hasR_gen p.ro (badRt p.re) 51 #[.pointer (some ⟨w.heap.size, 0, none⟩)] (enters_of Tryz.func51 (by kernel_rfl) rfl) _ w2 (HV.out.later HB2.out).h4.1 (by omega) (fun W x hx hW => check2_any p.re _ w.heap.size x W (HV.out.later (HB2.out.trans (hW.mono HB2.out.size))).h1 HFT.out.h1.1 (keep_cell HC2.out.2.1 hW HL2.out) (Nat.lt_of_lt_of_le HL2.out hW.size) ((HV.out.later (HB2.out.trans (hW.mono HB2.out.size))).h4.2 x hx) (HFT.out.h4 x hx))
            dsimp only at kk
            cases hrt : p.ro.any (badRt p.re)
            · rw [hrt] at kk
              have HRT := Lib.hid hrt
              clear hrt
              go_wp2_with fail
              refine kk.mono ?_
              rintro e w3 ⟨rfl, hb3⟩
              have HB3 := Lib.hid (HB2.out.trans (hb3.mono HB2.out.size))
              have HC3 := Lib.hid (C6.later HC2.out hb3 HL2.out)
              clear hb3 kk q0 q1 q2 q3 q4 q5 HC2 HL2 HB2
              obtain ⟨q0, q1, q2, q3, q4, q5⟩ := HC3.out
              have kk := hasI_gen p.ih badIh 56 #[] (enters_of Tryz.func56 (by kernel_rfl) rfl) _ w3 (HV.out.later HB3.out).h5.1 (by omega) (fun W x hx hW => check3_any x W ((HV.out.later (HB3.out.trans (hW.mono HB3.out.size))).h5.2 x hx) (HFT.out.h5 x hx))
              dsimp only at kk
              have HF : Hid (checkP p = if p.ih.any badIh then 1 else 0) := Lib.hid (by unfold checkP; rw [HLP.out, HNP.out, HRT.out]; rfl)
              generalize p.ih.any badIh = o at *
              go_wp2_with fail
              refine kk.mono ?_
              rintro e w4 ⟨rfl, hb4⟩
              have HB4 := Lib.hid (HB3.out.trans (hb4.mono HB3.out.size))
              clear hb4 kk q0 q1 q2 q3 q4 q5
              cases o
              · go_wp2
                go_ret
                exact ⟨by rw [HF.out]; rfl, HB4.out⟩
              · go_wp2
                go_ret
                exact ⟨by rw [HF.out]; rfl, HB4.out⟩
            · have HF : Hid (checkP p = 1) := Lib.hid (by unfold checkP; rw [HLP.out, HNP.out, hrt]; rfl)
              rw [hrt] at kk
              clear hrt
              go_wp2_with fail
              refine kk.mono ?_
              rintro e w3 ⟨rfl, hb3⟩
              have HB3 := Lib.hid (HB2.out.trans (hb3.mono HB2.out.size))
              clear hb3 kk q0 q1 q2 q3 q4 q5
              go_wp2
              go_ret
              exact ⟨by rw [HF.out]; rfl, HB3.out⟩
        · have HF : Hid (checkP p = 4) := Lib.hid (check_long HLP.out)
          go_wp2
          go_ret
          exact ⟨by rw [HF.out]; rfl, HB1.out⟩
end Go.Proofs.YtipnhpfpppblhaaGreat

/- The arguments of chapter 09's laws: alerts, labels, numbers, policies. -/
namespace Go.Proofs.YtipnhpfpppblhaaGreat
open Go.RowKit Go.WideShapes Go.ChangeShapes Go.Deep
theorem cell_ltA {w : World} {a : Addr} {v : Value} (h : w.cell? a = some v) : a.block < w.heap.size := by
  rcases Nat.lt_or_ge a.block w.heap.size with h' | h'
  · exact h'
  · simp [World.cell?, Array.getElem?_eq_none h'] at h
section
variable {H : Type} {enc : TypeId × Value → H} {P : Program} {w : World} {base : Nat} {spare : Nat → Bool} {held : Bool}
theorem open_slice_structs {t e : TypeId} {fs : Array Field} {fuel : Nat} {cs : List Value} {x : DataW H × List MemPlace} (ht : P.underlying t = some (.slice e)) (he : P.underlying e = some (.struct fs))
    (h : DataW.trod enc P w base spare held fuel t cs = some x) :
    cs = [.slice none 0 0] ∨
    ∃ (a : Addr) (len cap : Nat), cs = [.slice (some a) len cap] ∧ len ≤ cap ∧ cap ≤ maxLen ∧
      ∀ i, i < len → ∃ (es : List Value) (n : Nat), es.length = P.cellsOf e ∧ (∀ j, j < P.cellsOf e → w.cell? (a.add (i * P.cellsOf e + j)) = es[j]?) ∧
        ∀ (j : Nat) (f : Field), fs[j]? = some f → ∃ y, DataW.trod enc P w base spare held n f.type ((es.drop f.offset).take (P.cellsOf f.type)) = some y := by
  rcases open_slice ht h with ⟨h0, _⟩ | ⟨a, len, cap, m, n, D, Pl, hcs, hb, hl, hm, hmm, hx, hi⟩
  · exact .inl h0
  · refine .inr ⟨a, len, cap, hcs, hl, hm, fun i hil => ?_⟩
    obtain ⟨cs', hc, ht'⟩ := hi i (by rw [hmm]; split <;> omega)
    obtain ⟨ys, n', hn', hy, hlen, hyl, hf⟩ := DataW.trod_struct he ht'
    obtain ⟨_, hcl, hat⟩ := World.cells?_some hc
    refine ⟨cs', n', by omega, fun j hj => ?_, fun j f hj => ?_⟩
    · rw [← Go.Deep.add_add]; exact hat j hj
    · have hjl : j < fs.size := (Array.getElem?_eq_some_iff.1 hj).1
      have h1 := hf j f hj
      exact ⟨_, h1.trans (List.getElem?_eq_getElem (by omega))⟩
end
def ArgFlds (w : World) (v : Value) (fl : List Fld) : Prop := FldsAt w v fl ∧ fl.length ≤ maxLen ∧ FldsFit fl
theorem add_off {b o j : Nat} : (⟨b, o, none⟩ : Addr).add j = ⟨b, o + j, none⟩ := Go.WideShapes.add_plain ..
set_option maxRecDepth 100000 in
theorem flds_of_trod {H : Type} {enc : TypeId × Value → H} {W : World} {n : Nat} {v : Value} {x : DataW H × List MemPlace} (h : DataW.trod enc Tryz.prog W 0 (fun _ => true) true n 52 [v] = some x) : ∃ fl, ArgFlds W v fl := by
  have hC : Tryz.prog.cellsOf 90 = 2 := by kernel_rfl
  have hcs1 : Tryz.prog.cellsOf 9 = 1 := by kernel_rfl
  rcases open_slice_structs Tryz.underlying52 Tryz.underlying90 h with hcs | ⟨a, len, cap, hcs, hl, hm, hf⟩
  · cases hcs
    exact ⟨[], RdAt.nil W 2, Nat.zero_le _, fun _ h => by cases h⟩
  · cases hcs
    rw [hC] at hf
    have hone : ∀ i, i < len → ∃ s : Fld, W.cell? (a.add (i * 2)) = some (.string s.1) ∧ W.cell? (a.add (i * 2 + 1)) = some (.string s.2) ∧ s.1.size ≤ maxLen ∧ s.2.size ≤ maxLen := by
      intro i hi
      obtain ⟨es, n, hlen, hat, hfs⟩ := hf i hi
      match es, hlen with
      | [e0, e1], _ =>
        obtain ⟨y0, t0⟩ := hfs 0 _ rfl
        obtain ⟨y1, t1⟩ := hfs 1 _ rfl
        obtain ⟨s0, q0, _, z0⟩ := DataW.trod_string Tryz.underlying9 t0
        obtain ⟨s1, q1, _, z1⟩ := DataW.trod_string Tryz.underlying9 t1
        simp [hcs1] at q0 q1
        subst q0 q1
        exact ⟨(s0, s1), hat 0 (by omega), hat 1 (by omega), z0, z1⟩
    have hg : ∃ g : Nat → Fld, ∀ i, i < len → W.cell? (a.add (i * 2)) = some (.string (g i).1) ∧ W.cell? (a.add (i * 2 + 1)) = some (.string (g i).2) ∧ (g i).1.size ≤ maxLen ∧ (g i).2.size ≤ maxLen :=
      ⟨fun i => if h : i < len then Classical.choose (hone i h) else default, fun i h => by have := Classical.choose_spec (hone i h); simpa only [dif_pos h] using this⟩
    obtain ⟨g, hg⟩ := hg
    have hgl : ((List.range len).map g).length = len := by simp
    refine ⟨(List.range len).map g, ⟨fldCells_len _, .inr ⟨a, cap, by rw [hgl], by omega, fun hn => ?_⟩⟩, by rw [hgl]; omega, fun s hs => ?_⟩
    · rw [hgl] at hn
      obtain ⟨b, off, spot⟩ := a
      have h0 := (hg 0 hn).1
      have hspot : spot = none := by simpa [Addr.add] using World.cell?_spot h0
      subst hspot
      refine ⟨b, off, rfl, by have := cell_ltA h0; simpa [Addr.add] using this, fun j x hj => ?_⟩
      have hjl := (List.getElem?_eq_some_iff.1 hj).1
      rw [fldCells_len, hgl] at hjl
      obtain ⟨m, r, hr2, rfl⟩ : ∃ m r, r < 2 ∧ j = m * 2 + r := ⟨j / 2, j % 2, Nat.mod_lt _ (by decide), by omega⟩
      obtain ⟨q0, q1⟩ := fldCells_at ((List.range len).map g) m (by rw [hgl]; omega)
      obtain ⟨h1, h2, _⟩ := hg m (by omega)
      simp only [List.getElem_map, List.getElem_range] at q0 q1
      rw [add_off] at h1 h2
      match r, hr2 with
      | 0, _ => rw [Nat.add_zero] at hj ⊢; rw [q0] at hj; rw [← Option.some.inj hj]; exact h1
      | 1, _ => rw [q1] at hj; rw [← Option.some.inj hj]; exact h2
    · obtain ⟨i, hi, rfl⟩ := List.mem_map.1 hs
      exact (hg i (List.mem_range.1 hi)).2.2
theorem lit_u32 {c : Int} (h : (Lit.int .u32 c).wf = true) : ∃ n : Nat, c = n ∧ n < 4294967296 := by
  have : 0 ≤ c ∧ c ≤ 4294967295 := by
    simp [Lit.wf, IntKind.min, IntKind.max, IntKind.signed, IntKind.bits] at h; omega
  exact ⟨c.toNat, by omega, by omega⟩
theorem lab_of_trod {H : Type} {enc : TypeId × Value → H} {W : World} {n : Nat} {c0 c1 : Value} {x : DataW H × List MemPlace} (h : DataW.trod enc Tryz.prog W 0 (fun _ => true) true n 36 [c0, c1] = some x) : ∃ (l : Int) (c : Nat), c0 = .int .i64 l ∧ c1 = .int .u32 c ∧ c < 4294967296 := by
  have hci : Tryz.prog.cellsOf 3 = 1 := by kernel_rfl
  have hcu : Tryz.prog.cellsOf 34 = 1 := by kernel_rfl
  obtain ⟨ys, n', hn', hy, hlen, hyl, hf⟩ := DataW.trod_struct Tryz.underlying36 h
  have t0 := hf 0 _ rfl
  have t1 := hf 1 _ rfl
  match ys, hyl with
  | [y0, y1], _ =>
    obtain ⟨k0, q0, _, _⟩ := DataW.trod_int Tryz.underlying3 t0
    obtain ⟨k1, q1, _, w1⟩ := DataW.trod_int Tryz.underlying34 t1
    simp [hci] at q0
    simp [hcu] at q1
    subst q0 q1
    obtain ⟨m, rfl, hm⟩ := lit_u32 w1
    exact ⟨k0, m, rfl, rfl, hm⟩
end Go.Proofs.YtipnhpfpppblhaaGreat

