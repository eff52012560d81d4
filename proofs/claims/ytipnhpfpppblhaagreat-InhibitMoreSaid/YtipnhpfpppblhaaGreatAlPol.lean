/- policy.Find, label.Join, policy.Raised: contracts. -/
import Derived.Test.YtipnhpfpppblhaaGreatShelf
import Derived.Test.YtipnhpfpppblhaaGreatLabelB
import Derived.Test.YtipnhpfpppblhaaGreatFields
import Derived.Test.YtipnhpfpppblhaaGreatBox3
namespace Go.Proofs.YtipnhpfpppblhaaGreat
open Go.RowKit

/-! plain -/
theorem idx_find {α : Type} (p : α → Bool) (x : α) : ∀ (l : List α) (i : Nat),
    (∃ k, ∃ h : k < l.length, Lib.idxByFrom (fun _ y => p y) x l i = ((i + k : Nat) : Int) ∧ l.find? p = some l[k] ∧ p l[k] = true ∧ ∀ j (hj : j < l.length), j < k → p l[j] = false) ∨
    (Lib.idxByFrom (fun _ y => p y) x l i = -1 ∧ l.find? p = none ∧ ∀ j (hj : j < l.length), p l[j] = false)
  | [], i => .inr ⟨rfl, rfl, fun j hj => absurd hj (Nat.not_lt_zero _)⟩
  | y :: r, i => by
    by_cases h : p y = true
    · exact .inl ⟨0, Nat.succ_pos _, by simp [Lib.idxByFrom, h], by simp [h], by simpa using h, fun j _ hj => absurd hj (Nat.not_lt_zero _)⟩
    · have h' : p y = false := by simpa using h
      rcases idx_find p x r (i + 1) with ⟨k, hk, h1, h2, h3, h4⟩ | ⟨h1, h2, h3⟩
      · refine .inl ⟨k + 1, by simpa using hk, ?_, by simp [h', h2], by simpa using h3, fun j hj hjk => ?_⟩
        · simp only [Lib.idxByFrom, h']
          rw [show (if false = true then (i : Int) else Lib.idxByFrom (fun _ y => p y) x r (i + 1)) = Lib.idxByFrom (fun _ y => p y) x r (i + 1) from rfl, h1]
          congr 1; omega
        · cases j with
          | zero => simpa using h'
          | succ j => simpa using h4 j (by simpa using hj) (by omega)
      · refine .inr ⟨?_, by simp [h', h2], fun j hj => ?_⟩
        · simp only [Lib.idxByFrom, h']
          rw [show (if false = true then (i : Int) else Lib.idxByFrom (fun _ y => p y) x r (i + 1)) = Lib.idxByFrom (fun _ y => p y) x r (i + 1) from rfl, h1]
        · cases j with
          | zero => simpa using h'
          | succ j => simpa using h3 j (by simpa using hj)
/-- a name and its label -/
abbrev Nmd := ByteArray × Int × Nat
def nmdC (x : Nmd) : List Value := [.string x.1, .int .i64 x.2.1, .int .u32 x.2.2]
def nmdCells : List Nmd → List Value
  | [] => []
  | x :: l => nmdC x ++ nmdCells l
theorem nmdCells_len (l : List Nmd) : (nmdCells l).length = l.length * 3 := by
  induction l with
  | nil => rfl
  | cons x l ih => simp only [nmdCells, List.length_append, ih, List.length_cons]; simp [nmdC]; omega
theorem nmdCells_at : ∀ (l : List Nmd) (j : Nat) (h : j < l.length) (i : Nat) (v : Value), (nmdC l[j])[i]? = some v → (nmdCells l)[j * 3 + i]? = some v
  | x :: l, 0, _, i, v, hi => by
    have hlt := (List.getElem?_eq_some_iff.1 hi).1
    simp only [nmdCells]
    rw [List.getElem?_append_left (by simpa using hlt)]
    simpa using hi
  | x :: l, j + 1, h, i, v, hi => by
    simp only [nmdCells]
    rw [List.getElem?_append_right (by simp [nmdC]; omega)]
    have := nmdCells_at l j (by simpa using h) i v (by simpa using hi)
    rw [show (j + 1) * 3 + i - (nmdC x).length = j * 3 + i by simp [nmdC]; omega]
    exact this
def NmdsAt (w : World) (v : Value) (l : List Nmd) : Prop := RdAt w v l.length 3 (nmdCells l)
theorem NmdsAt.later {w w' : World} {v : Value} {l : List Nmd} (h : NmdsAt w v l) (hb : Below w.heap.size w w') : NmdsAt w' v l := RdAt.later h hb
def findL (l : List Nmd) (n : ByteArray) : Option Nmd := l.find? fun x => decide (x.1 = n)
def findV (o : Option Nmd) : Value := match o with
  | some x => Lab x.2.1 x.2.2
  | none => Lab 0 0
def orN (c d : Nat) : Nat := (BitVec.ofNat 32 c ||| BitVec.ofNat 32 d).toNat
def joinL (a b : Int × Nat) : Int × Nat := if rightL a.1 && rightL b.1 then (max a.1 b.1, orN a.2 b.2) else (7, 4294967295)
abbrev LabP (p : Int × Nat) : Value := Lab p.1 p.2
def raisedL (rs : List Nmd) (nm : ByteArray) (l : Int × Nat) : Int × Nat := match findL rs nm with
  | some r => joinL l r.2
  | none => l
/-- a slice as three numbers -/
abbrev SV (s : Option Addr × Nat × Nat) : Value := .slice s.1 s.2.1 s.2.2
theorem cell_lt {w : World} {b o : Nat} {v : Value} (h : w.cell? ⟨b, o, none⟩ = some v) : b < w.heap.size := by
  by_cases hb : b < w.heap.size
  · exact hb
  · have : w.heap[b]? = none := Array.getElem?_eq_none_iff.2 (by omega)
    simp [World.cell?, this] at h

/-! the walks -/
theorem find1_any (s : ByteArray) (l : Int) (c b : Nat) (n : ByteArray) (w : World) (hn : w.cell? ⟨b, 0, none⟩ = some (.string n)) :
    Calls Tryz.prog 80 #[.agg #[.string s, .int .i64 l, .int .u32 c], .pointer (some ⟨b, 0, none⟩)] w fun e w' => e = .returned (.bool (decide (s = n))) ∧ Below w.heap.size w w' := by
  have hlt := cell_lt hn
  have h1 := keep_cell hn (alloc_below w (.cells #[.string s, .int .i64 l, .int .u32 c] 120)) hlt
  go_enter Tryz.func80, Tryz.ntmps80
  go_wp2
  go_ret
  exact ⟨by simp [bytes_beq], alloc_below _ _⟩
theorem idxn_nil (a : Option Addr) (c : Nat) (f : Value) (w : World) :
    Calls Tryz.prog 79 #[.slice a 0 c, f] w fun e w' => e = .returned (.int .i64 (-1)) ∧ w' = w := by
  go_enter Tryz.func79, Tryz.ntmps79
  go_wp2
  refine wp_loop_rounds 1 ?_
  rw [rounds_succ]
  go_wp2
  go_ret
  exact ⟨rfl, rfl⟩
theorem idxn_any (l : List Nmd) (n : ByteArray) (v : Value) (b : Nat) (w : World) (hv : NmdsAt w v l) (hl : l.length ≤ maxLen) (hn : w.cell? ⟨b, 0, none⟩ = some (.string n)) :
    Calls Tryz.prog 79 #[v, .func (.func 80) #[] #[.pointer (some ⟨b, 0, none⟩)]] w fun e w' =>
      e = .returned (.int .i64 (Lib.idxByFrom (fun _ (y : Nmd) => decide (y.1 = n)) default l 0)) ∧ Below w.heap.size w w' := by
  obtain ⟨a, c, rfl, hc, hr⟩ := RdAt.shape hv
  rcases Nat.eq_zero_or_pos l.length with h0 | h0
  · have hnil : l = [] := List.length_eq_zero_iff.1 h0
    subst hnil
    refine (idxn_nil _ _ _ _).mono ?_
    rintro e w' ⟨rfl, rfl⟩
    exact ⟨rfl, Below.refl _ _⟩
  · obtain ⟨g, o, rfl, hg, hcell⟩ := hr h0
    have hlt := cell_lt hn
    have hp : PredBelow Tryz.prog 80 #[.pointer (some ⟨b, 0, none⟩)] (fun x : Nmd => .agg (nmdC x).toArray) (fun y => decide (y.1 = n)) w := fun W x hW => by
      refine Calls.mono (find1_any x.1 x.2.1 x.2.2 b n W (keep_cell hn hW hlt)) ?_
      rintro e w' ⟨rfl, hb⟩
      exact ⟨rfl, hW.trans (hb.mono hW.size)⟩
    have h := AnyQ.slices_IndexFunc (α := Nmd) Tryz.laysIdxN 3 Tryz.isAgg120 Tryz.sizeOf120 nmdC (fun _ => rfl) (fun y => decide (y.1 = n)) 80 #[.pointer (some ⟨b, 0, none⟩)]
      (enters_of Tryz.func80 (by kernel_rfl) rfl) g o l.length c l w hp (Nat.le_refl _) (by unfold maxLen at hl; omega) hg (fun j hj i x hx => by
        have := hcell (j * 3 + i) x (nmdCells_at l j hj i x (by rw [List.getElem!_eq_getElem?_getD, List.getElem?_eq_getElem hj] at hx; exact hx))
        rw [show o + j * 3 + i = o + (j * 3 + i) by omega]
        exact this)
    rw [List.take_length] at h
    exact h
set_option maxHeartbeats 800000 in
set_option maxRecDepth 100000 in
theorem find_any (l : List Nmd) (nm : ByteArray) (v : Value) (w : World) (hv : NmdsAt w v l) (hl : l.length ≤ maxLen) :
    Calls Tryz.prog 52 #[v, .string nm] w fun e w' => e = .returned (.tuple #[findV (findL l nm), .bool (findL l nm).isSome]) ∧ Below w.heap.size w w' := by
  have k1 := fun W (hb : Below w.heap.size w W) => idxn_any l nm v w.heap.size W (hv.later hb) hl
  obtain ⟨a, c, rfl, hc, hr⟩ := RdAt.shape hv
  have HR := Lib.hid hr
  have K1 := Lib.hid k1
  clear hr k1 hv
  rcases idx_find (fun x : Nmd => decide (x.1 = nm)) default l 0 with ⟨k, hk, h1, h2, _, _⟩ | ⟨h1, h2, _⟩
  · rw [Nat.zero_add] at h1
    rw [h1] at K1
    have hF : findL l nm = some l[k] := h2
    obtain ⟨b, o, rfl, hb, hcell⟩ := HR.out (by omega)
    have HC := Lib.hid (nmdCells_at l k hk)
    have HCC := Lib.hid hcell
    have hk63 : k < 9223372036854775807 := by unfold maxLen at hl; omega
    rw [hF]
    have q : ((k : Int) < 0) = False := by simp
    obtain ⟨x, hx⟩ : ∃ x, l[k] = x := ⟨_, rfl⟩
    rw [hx] at HC ⊢
    clear hF h2 h1 HR hx hcell
    have hB0 : Below w.heap.size w ((w.alloc (.cells #[.string nm] 9)).alloc (.cells #[.int .i64 0, .int .u32 0] 36)) := (alloc_below _ _).trans ((alloc_below _ _).mono (by simp))
    have hn0 : ((w.alloc (.cells #[.string nm] 9)).alloc (.cells #[.int .i64 0, .int .u32 0] 36)).cell? ⟨w.heap.size, 0, none⟩ = some (.string nm) :=
      keep_cell (World.cell?_alloc_at _ _ _ _ rfl) (alloc_below _ _) (by simp)
    have k1 := K1.out _ hB0 hn0
    clear hn0 K1
    go_enter Tryz.func52, Tryz.ntmps52
    go_wp2_with fail
    refine k1.mono ?_
    rintro e w1 ⟨rfl, hb1⟩
    obtain ⟨x0, x1, hlt1, hB1⟩ := box_two hb1
    have hc1 : w1.cell? ⟨b, o + k * 3 + 1, none⟩ = some (.int .i64 x.2.1) := keep_cell (by have := HCC.out _ _ (HC.out 1 _ rfl); rwa [← Nat.add_assoc] at this) hB1 hb
    have hc2 : w1.cell? ⟨b, o + k * 3 + 2, none⟩ = some (.int .u32 x.2.2) := keep_cell (by have := HCC.out _ _ (HC.out 2 _ rfl); rwa [← Nat.add_assoc] at this) hB1 hb
    have y0 : w1.cell? ⟨w.heap.size + 1, 0, none⟩ = some (.int .i64 0) := x1 0 _ rfl
    have y1 : w1.cell? ⟨w.heap.size + 1, 1, none⟩ = some (.int .u32 0) := x1 1 _ rfl
    have hT := box_there hb1
    rw [World.size_alloc] at hT
    have f0 := there_free hT 0 (by decide)
    have f1 := there_free hT 1 (by decide)
    have HT := Lib.hid hT
    clear x0 x1 k1 hB0 HC HCC hb1 hT
    go_wp2
    refine bodyPost_ret (results_agg2 rfl _ _ (w.heap.size + 1) [.int .i64 x.2.1, .int .u32 x.2.2] (.struct _) rfl (World.rangeAt_setCells_same w1 (w.heap.size + 1) 0 [.int .i64 x.2.1, .int .u32 x.2.2] HT.out) Tryz.underlying36 rfl (by kernel_rfl)) rfl ?_
    exact ⟨rfl, below_put (below_put hB1 (by omega)) (by omega)⟩
  · rw [h1] at K1
    have hF : findL l nm = none := h2
    rw [hF]
    have hB0 : Below w.heap.size w ((w.alloc (.cells #[.string nm] 9)).alloc (.cells #[.int .i64 0, .int .u32 0] 36)) := (alloc_below _ _).trans ((alloc_below _ _).mono (by simp))
    have hn0 : ((w.alloc (.cells #[.string nm] 9)).alloc (.cells #[.int .i64 0, .int .u32 0] 36)).cell? ⟨w.heap.size, 0, none⟩ = some (.string nm) :=
      keep_cell (World.cell?_alloc_at _ _ _ _ rfl) (alloc_below _ _) (by simp)
    have k1 := K1.out _ hB0 hn0
    clear hn0 K1 h1 h2 hF HR
    go_enter Tryz.func52, Tryz.ntmps52
    go_wp2_with fail
    refine k1.mono ?_
    rintro e w1 ⟨rfl, hb1⟩
    obtain ⟨x0, x1, hlt1, hB1⟩ := box_two hb1
    have y0 : w1.cell? ⟨w.heap.size + 1, 0, none⟩ = some (.int .i64 0) := x1 0 _ rfl
    have y1 : w1.cell? ⟨w.heap.size + 1, 1, none⟩ = some (.int .u32 0) := x1 1 _ rfl
    have hT := box_there hb1
    rw [World.size_alloc] at hT
    have f0 := there_free hT 0 (by decide)
    have f1 := there_free hT 1 (by decide)
    have HT := Lib.hid hT
    clear x0 x1 k1 hB0 hb1 hT
    go_wp2
    refine bodyPost_ret (results_agg2 rfl _ _ (w.heap.size + 1) [.int .i64 0, .int .u32 0] (.struct _) rfl (World.rangeAt_setCells_same w1 (w.heap.size + 1) 0 [.int .i64 0, .int .u32 0] HT.out) Tryz.underlying36 rfl (by kernel_rfl)) rfl ?_
    exact ⟨rfl, below_put (below_put hB1 (by omega)) (by omega)⟩
end Go.Proofs.YtipnhpfpppblhaaGreat
