/- slices.Sort at []uint64, whatever the length. -/
import Derived.Test.YtkhcckfnaahbeaaSoG
import Derived.Sort.WalkA14
import Derived.Sort.AssemblyPlain
import Derived.Sort.OwnSorted
import Derived.Below
namespace Go.Proofs.Ytkhcckfnaahbeaa
open Go.RowKit Go.Sort

theorem calleesU : CalleesU where
  ins := ins_u
  brk := breakPatterns_u
  piv := choosePivot_u
  par := partialInsertionSort_u
  peq := partitionEqualOrdered_u
  prt := partitionOrdered_u
theorem plainU : Plain13 where
  swo := swo_ltInt
  ins := insertionSort_holds
  par := partialInsertionSort_holds
  prt := partition_holds _
  peq := partitionEqual_holds _
  pdq := pdq_sorts _

set_option maxRecDepth 100000 in
theorem sort_all (blk off cap : Nat) (zs : List Int) (w : World) (hH : Holds U w blk off zs.toArray) (hblk : blk < w.heap.size) (hsz : zs.length < 4611686018427387904) :
    Calls Try.prog 27 #[.slice (some ⟨blk, off, none⟩) zs.length cap] w fun e w' =>
      e = .returned (.tuple #[]) ∧ ∃ n os, w' = grow (putRow U (Sort.ahead w n) blk off (zs.mergeSort fun x y => decide (x ≤ y)).toArray) os := by
  have hsz' : zs.toArray.size < 4611686018427387904 := by simpa using hsz
  have hlen : zs.toArray.size = zs.length := by simp
  have hk : bitsLen zs.toArray.size ≤ 62 := (bitsLen_le_iff zs.toArray.size 62).2 (by omega)
  have e1 : Sort.pdq ltInt zs.toArray 0 zs.toArray.size (bitsLen zs.toArray.size) true true = (zs.mergeSort fun x y => decide (x ≤ y)).toArray := by
    have : Sort.sort ltInt zs.toArray = (zs.mergeSort fun x y => decide (x ≤ y)).toArray := by rw [← sortInt zs]
    exact this
  have hpdq : Calls Try.prog 30 #[.slice (some ⟨blk, off, none⟩) zs.length cap, .int .i64 0, .int .i64 zs.length, .int .i64 (bitsLen zs.length : Nat)] w fun e w' =>
      e = .returned (.tuple #[]) ∧ ∃ n os, w' = grow (putRow U (Sort.ahead w n) blk off (zs.mergeSort fun x y => decide (x ≤ y)).toArray) os := by
    have h := pdqsort_u calleesU plainU (zs.toArray.size - 0 + 1) blk off cap 0 zs.toArray.size (bitsLen zs.toArray.size) zs.toArray w (by omega) hH hblk (Nat.zero_le _) (Nat.le_refl _) hsz' (by omega) (Or.inl rfl)
    rw [e1] at h
    simp only [List.size_toArray] at h
    exact h
  have hLen : ∀ w, Calls Try.prog 31 #[.int .u64 (zs.length : Int)] w fun e w' => e = .returned (.int .i64 (bitsLen zs.length : Nat)) ∧ w' = w := fun w => by
    have h := Try.bits_Len (zs.length : Int) w (by omega) (by omega)
    rwa [Int.toNat_natCast, bitLen_eq _ (by omega)] at h
  clear hH e1 hsz' hlen hk
  go_enter Try.func27, Try.ntmps27
  go_wp2_with (first
    | (go_at_call 31; refine (hLen _).mono ?_; rintro e w' ⟨rfl, rfl⟩)
    | (go_at_call 30; refine hpdq.mono ?_; rintro e w' ⟨rfl, hw⟩))
  go_end0
  exact ⟨rfl, hw⟩
/-- the row of a block of the call's own ends holding the sorted list; nothing below it has turned -/
theorem sort_own (g cap : Nat) (zs : List Int) (w : World) {cur : Array Value} {e0 : TypeId} (hg : w.heap[g]? = some (.cells cur e0 (0, 0))) (hH : Holds U w g 0 zs.toArray) (hsz : zs.length ≤ 1000) :
    Calls Try.prog 27 #[.slice (some ⟨g, 0, none⟩) zs.length cap] w fun e w' =>
      e = .returned (.tuple #[]) ∧ w'.heap[g]? = some (.cells (putCells U 0 (zs.mergeSort fun x y => decide (x ≤ y)).toArray cur) e0 (0, 0)) ∧ Below g w w' := by
  have hlt : g < w.heap.size := (Array.getElem?_eq_some_iff.1 hg).1
  refine (sort_all g 0 cap zs w hH hlt (by omega)).mono ?_
  rintro e w' ⟨rfl, n, os, rfl⟩
  refine ⟨rfl, ?_, rfl, rfl, rfl, by simp, fun k hk => ?_⟩
  · rw [heap_grow_old _ _ (by simpa using hlt)]
    simp [putRow, mapBlock, Sort.ahead, Array.getElem?_modify, hg, onCells]
  · rw [heap_grow_old _ _ (by simp; omega)]
    have : g ≠ k := by omega
    simp [putRow, mapBlock, Sort.ahead, Array.getElem?_modify, this]
end Go.Proofs.Ytkhcckfnaahbeaa
