/- strings.SplitSeq's iterator: what it does at each round's yield. -/
import Derived.RangeFuncNested
import Derived.RangeFuncBound
import Derived.RangeFuncCalls
import Derived.RangeFuncLeaves
import Derived.Shelf.Abstract
import Derived.Shelf.RegionOpen
import Derived.WalkKit
import Derived.OwnWalkIn
import Derived.TacticsInMore
import Derived.LoopNIn
import Derived.LoopIn
import Derived.Test.YtpoaoicehoihdaaDoorNames
import Derived.Test.YtpoaoicehoihdaaDoorLinesLaw
namespace Go.Proofs.YtpoaoicehoihdaaDoor
open Go.RowKit Go.Shelf
attribute [local go_sem] Oper.semAt_some

/-! plain -/
theorem cut_miss {d : UInt8} {l : List UInt8} (h : Lib.index l [d] = -1) : cutB d l = [l] := by
  rcases Lib.index_spec l [d] with ⟨_, hno⟩ | ⟨i, hi, _⟩
  · apply cutB_none
    intro hm
    obtain ⟨j, hj, e⟩ := List.getElem_of_mem hm
    have := hno j (by omega)
    rw [(occ_byte l d j).2 (by rw [List.getElem?_eq_getElem hj, e])] at this
    cases this
  · omega
theorem cut_hit {d : UInt8} {l : List UInt8} (h : ¬ Lib.index l [d] = -1) : ∃ i : Nat, Lib.index l [d] = i ∧ i < l.length ∧ cutB d l = l.take i :: cutB d (l.drop (i + 1)) := by
  rcases Lib.index_spec l [d] with ⟨hi, _⟩ | ⟨i, hi, hle, ho, hno⟩
  · exact absurd hi h
  · have hd := (occ_byte l d i).1 ho
    have hlt : i < l.length := (List.getElem?_eq_some_iff.1 hd).1
    refine ⟨i, hi, hlt, ?_⟩
    have hs : l = l.take i ++ d :: l.drop (i + 1) := by
      have : l.drop i = d :: l.drop (i + 1) := by
        rw [List.drop_eq_getElem_cons hlt]
        congr 1
        exact (List.getElem?_eq_some_iff.1 hd).2
      rw [← this, List.take_append_drop]
    have hnp : d ∉ l.take i := by
      intro hm
      obtain ⟨j, hj, e⟩ := List.getElem_of_mem hm
      rw [List.length_take] at hj
      have := hno j (by omega)
      rw [List.getElem_take] at e
      rw [(occ_byte l d j).2 (by rw [List.getElem?_eq_getElem (by omega), e])] at this
      cases this
    have hc := cutB_at (l.drop (i + 1)) hnp
    rw [← hs] at hc
    exact hc

/-! the boxes of the iterator -/
/-- s at bs, the separator behind it, the nought behind that -/
structure Boxes (W : World) (bs : Nat) (d : UInt8) (t : ByteArray) : Prop where
  s : W.cell? ⟨bs, 0, none⟩ = some (.string t)
  f : W.frozen? ⟨bs, 0, none⟩ = false
  sep : W.cell? ⟨bs + 1, 0, none⟩ = some (.string ⟨#[d]⟩)
  nul : W.cell? ⟨bs + 2, 0, none⟩ = some (.int .i64 0)
  max : MaxAt W
/-- what a round that goes on keeps -/
def Kp (bs : Nat) (W W' : World) : Prop := ∀ b, b = 2 ∨ (bs ≤ b ∧ b < bs + 3) → W'.heap[b]? = W.heap[b]?
theorem Kp.t {bs : Nat} {A C D : World} (h : Kp bs A C) (k : Kp bs C D) : Kp bs A D := fun b hb => (k b hb).trans (h b hb)
theorem heap_lt {W W' : World} {b : Nat} (h : W'.heap[b]? = W.heap[b]?) (hl : b < W.heap.size) : b < W'.heap.size := by
  rw [Array.getElem?_eq_getElem hl] at h
  exact (Array.getElem?_eq_some_iff.1 h).1
theorem Boxes.kept {W W' : World} {bs : Nat} {d : UInt8} {t : ByteArray} (h : Boxes W bs d t) (hk : Kp bs W W') : Boxes W' bs d t := by
  obtain ⟨h1, m, h2⟩ := h.max
  exact ⟨(World.cell?_of_block (hk bs (.inr ⟨by omega, by omega⟩))).trans h.s, (World.frozen?_of_block (hk bs (.inr ⟨by omega, by omega⟩))).trans h.f,
    (World.cell?_of_block (hk (bs + 1) (.inr ⟨by omega, by omega⟩))).trans h.sep, (World.cell?_of_block (hk (bs + 2) (.inr ⟨by omega, by omega⟩))).trans h.nul,
    heap_lt (hk _ (.inl rfl)) h1, m, (World.cell?_of_block (hk _ (.inl rfl))).trans h2⟩
theorem Boxes.store {W : World} {bs : Nat} {d : UInt8} {t : ByteArray} (h : Boxes W bs d t) (hg : 2 < bs) (u : ByteArray) : Boxes (W.setCell ⟨bs, 0, none⟩ (.string u)) bs d u := by
  obtain ⟨h1, m, h2⟩ := h.max
  have hb := (Below.refl bs W).setCell (p := ⟨bs, 0, none⟩) (Nat.le_refl _) (.string u)
  refine ⟨World.cell?_setCell_same' _ _ _ (by rw [h.s]; rfl), by rw [World.frozen?_setCell]; exact h.f, ?_, ?_, ⟨Nat.lt_of_lt_of_le h1 (KeepsOthers.setCell W ⟨bs, 0, none⟩ (.string u)).size, m, (World.cell?_of_block (Below.heap_setCell W _ _ _ (by simp; omega))).trans h2⟩⟩
  · exact (World.cell?_of_block (Below.heap_setCell W _ _ _ (by simp))).trans h.sep
  · exact (World.cell?_of_block (Below.heap_setCell W _ _ _ (by simp))).trans h.nul
/-- how much is left -/
def leftAt (bs : Nat) (W : World) : Nat := match W.cell? ⟨bs, 0, none⟩ with
  | some (.string t) => t.size
  | _ => 0
theorem Boxes.left {W : World} {bs : Nat} {d : UInt8} {t : ByteArray} (h : Boxes W bs d t) : leftAt bs W = t.size := by rw [leftAt, h.s]

set_option maxHeartbeats 1600000 in
set_option maxRecDepth 100000 in
theorem iter_in (n : Nat) (hn : 1 ≤ n) (l bs : Nat) (hg : 2 < bs) (d : UInt8) (s : ByteArray) (hs : s.size ≤ 1048576) (J Jx : List ByteArray → World → Prop)
    (hJ : ∀ pre W u, J pre W → Boxes W bs d u → ∀ v, J pre (W.setCell ⟨bs, 0, none⟩ (.string v)))
    (hY : ∀ pre x W1, J pre W1 → pre.length ≤ s.size → x.size ≤ s.size → YieldAt Fence.wide (n - 1) Tryd.prog l #[.string x] W1 fun e W' =>
      (e = .returned (.bool true) ∧ J (pre ++ [x]) W' ∧ Kp bs W1 W') ∨ (e = .returned (.bool false) ∧ Jx (pre ++ [x]) W'))
    (W : World) (hW : Boxes W bs d s) (h0 : J [] W) :
    CallsIn Fence.wide n Tryd.prog 56 #[.func (.yield l) #[] #[], .pointer (some ⟨bs + 1, 0, none⟩), .pointer (some ⟨bs, 0, none⟩), .pointer (some ⟨bs + 2, 0, none⟩)] W fun e W' =>
      (∃ v, e = .returned v) ∧ ((∃ xs, xs.map B = cutB d (B s) ∧ J xs W') ∨ (∃ pre x r, (pre ++ [x]).map B ++ r = cutB d (B s) ∧ Jx (pre ++ [x]) W')) := by
  refine callsIn_of_wp Tryd.func56 rfl trivial ?_ rfl
  simp only [Tryd.ntmps56, List.size_toArray, List.length_cons, List.length_nil, Nat.reduceAdd, Nat.reduceSub, Array.replicate_succ, Array.replicate_zero, List.push_toArray, List.append_toArray, List.nil_append, List.cons_append]
  have c1 := hW.s
  have c2 := hW.sep
  have c3 := hW.nul
  gi_wp2
  gi_loopw [7] (fun _ wr => ∃ (pre : List ByteArray) (t : ByteArray), Hid (cutB d (B s) = pre.map B ++ cutB d (B t)) ∧ pre.length + t.size ≤ s.size ∧ Boxes wr bs d t ∧ J pre wr) (fun _ wr => leftAt bs wr)
  case atStart => exact ⟨[], s, rfl, by simp, hW, h0⟩
  case round =>
    obtain ⟨pre, t, HC, hsz, hB, hJr⟩ := hrel
    clear c1 c2 c3
    have c1 := hB.s
    have f1 := hB.f
    have c2 := hB.sep
    have c3 := hB.nul
    obtain ⟨_, m, hm⟩ := hB.max
    have hix := callsIn_wide (n := n - 1) |>.2 (Tryd.strings_Index t ⟨#[d]⟩ m wr (by omega) hm)
    by_cases hi : Lib.index (B t) [d] = -1
    · have hi' : Lib.index t.data.toList [d] = -1 := hi
      have HC2 : Hid (cutB d (B s) = pre.map B ++ [B t]) := by show _ = _; rw [HC.out, cut_miss hi]
      rw [show (⟨#[d]⟩ : ByteArray).data.toList = [d] from rfl, hi'] at hix
      have hy0 := hY pre t wr hJr (by omega) (by omega)
      obtain ⟨fn, tmps, assign, body, hy, hR⟩ := hy0
      clear hi hi'
      gi_wp2_with (refine ⟨trivial, ?_⟩; gi_at_call 57; refine hix.mono ?_; rintro e w3 ⟨rfl, rfl⟩)
      refine hR.mono ?_
      rintro e W3 (⟨rfl, hJ3, hk3⟩ | ⟨rfl, hJx3⟩)
      · gi_wp2
        go_end0
        exact ⟨⟨_, rfl⟩, .inl ⟨pre ++ [t], by rw [HC2.out, List.map_append]; rfl, hJ3⟩⟩
      · gi_wp2
        go_end0
        exact ⟨⟨_, rfl⟩, .inr ⟨pre, t, [], by rw [HC2.out, List.map_append]; simp, hJx3⟩⟩
    · obtain ⟨i, hii, hil, hcut⟩ := cut_hit hi
      have hi' : Lib.index t.data.toList [d] = (i : Int) := hii
      rw [len_B] at hil
      have hx : B (t.extract 0 i) = (B t).take i := by rw [B_piece]; simp
      have hr : B (t.extract (i + 1) t.size) = (B t).drop (i + 1) := by
        rw [B_piece, List.take_of_length_le]
        rw [List.length_drop, len_B]
        omega
      have hxz : (t.extract 0 i).size ≤ t.size := by rw [ByteArray.size_extract]; omega
      have hrz : (t.extract (i + 1) t.size).size = t.size - (i + 1) := by rw [ByteArray.size_extract]; omega
      have HC2 : Hid (cutB d (B s) = (pre ++ [t.extract 0 i]).map B ++ cutB d (B (t.extract (i + 1) t.size))) := by
        show _ = _
        rw [HC.out, hcut, List.map_append, List.map_singleton, hx, hr, List.append_assoc]; rfl
      rw [show (⟨#[d]⟩ : ByteArray).data.toList = [d] from rfl, hi'] at hix
      have hy0 := hY pre (t.extract 0 i) wr hJr (by omega) (by omega)
      obtain ⟨fn, tmps, assign, body, hy, hR⟩ := hy0
      have HRZ := Lib.hid hrz
      clear hi hi' hii hcut hx hr hxz hrz
      gi_wp2_with (refine ⟨trivial, ?_⟩; gi_at_call 57; refine hix.mono ?_; rintro e w3 ⟨rfl, rfl⟩)
      refine hR.mono ?_
      rintro e W3 (⟨rfl, hJ3, hk3⟩ | ⟨rfl, hJx3⟩)
      · have hB3 := hB.kept hk3
        have c1 := hB3.s
        have f1 := hB3.f
        have c2 := hB3.sep
        gi_wp2
        go_roundw
        case rel =>
          refine ⟨pre ++ [t.extract 0 i], t.extract (i + 1) t.size, HC2, ?_, hB3.store hg _, hJ _ _ _ hJ3 hB3 _⟩
          rw [HRZ.out, List.length_append, List.length_singleton]; omega
        case measure => rw [hB.left, (hB3.store hg _).left, HRZ.out]; omega
      · gi_wp2
        refine bodyPost_ret (results_none rfl _ _ _) rfl ?_
        exact ⟨⟨_, rfl⟩, .inr ⟨pre, t.extract 0 i, _, by rw [HC2.out], hJx3⟩⟩
end Go.Proofs.YtpoaoicehoihdaaDoor
