/- BucketOf: the walk. -/
import Derived.Test.YtebgcicpokpelaaBkRow
import Derived.Test.YtebgcicpokpelaaRefMerge
namespace Go.Proofs.Ytebgcicpokpelaa.lawOf
open Go.RowKit Go.Proofs.Ytebgcicpokpelaa

theorem rangeV_tuple (l : List Int) (k : Int) : ∃ (x y : Int) (z : Bool), rangeV l k = .tuple #[.int .i64 x, .int .i64 y, .bool z] := by
  unfold rangeV
  split
  · exact ⟨_, _, _, rfl⟩
  · exact ⟨_, _, _, rfl⟩
set_option maxHeartbeats 3200000 in
set_option maxRecDepth 100000 in
theorem walk (v0 : Value) (l : List Int) (v1 : Value) (l1 : List Int) (n : Int) (w : World) (hA : ArgInts w v0 l) (hB : ArgInts w v1 l1) :
    Calls Try.prog 5 #[v0, v1, .int .i64 n] w fun e w' => e = .returned (.bool true) ∧ Below w.heap.size w w' := by
  obtain ⟨a, c, rfl, hc, _⟩ := RdAt.shape hA.1
  obtain ⟨a1, c1, rfl, hc1, _⟩ := RdAt.shape hB.1
  obtain ⟨L, hL, hm, hL22, hLl⟩ := early_len l 22
  obtain ⟨M, hM, hm1, hM22, hMl⟩ := early_len l1 22
  have hi0 := ints_take hA.1 hL
  have hj0 := ints_take hB.1 hM
  have hLc : (L.length : Int) ≤ (c : Int) := by omega
  have hMc : (M.length : Int) ≤ (c1 : Int) := by omega
  have hl63 : l.length ≤ 9223372036854775807 := by have := hA.2; unfold maxLen at this; omega
  have hl631 : l1.length ≤ 9223372036854775807 := by have := hB.2; unfold maxLen at this; omega
  change min (l.length : Int) 22 = _ at hm
  change min (l1.length : Int) 22 = _ at hm1
  have HI0 := Lib.hid hi0
  have HJ0 := Lib.hid hj0
  clear hA hL hi0 hB hM hj0
  go_enter Try.func5, Try.ntmps5
  go_wp2_with fail
  refine (lives_any _).mono ?_
  rintro e w1 ⟨rfl, hb1⟩
  go_wp2
  go_quiet (fail)
  have hb2 : Below w.heap.size w (w1.drewN nq) := bl_drewN hb1 nq
  generalize w1.drewN nq = w2 at *
  have HI2 := Lib.hid (HI0.out.later hb2)
  have HJ2 := Lib.hid (HJ0.out.later hb2)
  have k1 := of_any L n w2 _ HI2.out (by omega)
  clear hb1 HI0 HJ0
  obtain ⟨x, hx⟩ : ∃ x, ofL L n = x := ⟨_, rfl⟩
  rw [hx] at k1
  go_wp2_with fail
  refine k1.mono ?_
  rintro e w3 ⟨rfl, hb⟩
  have hb3 := hb2.trans (hb.mono hb2.size)
  have HI3 := Lib.hid (HI2.out.later hb)
  have HJ3 := Lib.hid (HJ2.out.later hb)
  have k2 := refof_any L n w3 _ HI3.out (by omega)
  rw [hx] at k2
  clear hb hb2 HI2 HJ2 k1 hx
  go_wp2_with fail
  refine k2.mono ?_
  rintro e w4 ⟨rfl, hb⟩
  have hb4 := hb3.trans (hb.mono hb3.size)
  have HI4 := Lib.hid (HI3.out.later hb)
  have HJ4 := Lib.hid (HJ3.out.later hb)
  have k3 := merge_any L M w4 _ _ HI4.out HJ4.out (by omega) (by omega)
  clear hb hb3 HI3 HJ3 k2
  go_wp2_with fail
  refine k3.mono ?_
  rintro e w5 ⟨vm, rfl, him, hb⟩
  have hb5 := hb4.trans (hb.mono hb4.size)
  have HI5 := Lib.hid (HI4.out.later hb)
  have HJ5 := Lib.hid (HJ4.out.later hb)
  have k4 := refmerge_any L M w5 _ _ HI5.out HJ5.out (by omega) (by omega)
  have HM5 := Lib.hid him
  clear hb hb4 HI4 HJ4 k3 him
  go_wp2_with fail
  refine k4.mono ?_
  rintro e w6 ⟨vr, rfl, hir, hb⟩
  have hb6 := hb5.trans (hb.mono hb5.size)
  have HI6 := Lib.hid (HI5.out.later hb)
  have hml := mergeL_len L M
  have k5 := same_ints (mergeL L M) (mergeL L M) w6 vm vr (HM5.out.later hb) hir (by omega) (by omega)
  rw [decide_eq_true rfl] at k5
  clear hb hb5 HI5 HJ5 k4 HM5 hir hml
  go_wp2_with fail
  refine k5.mono ?_
  rintro e w7 ⟨rfl, hb⟩
  have hb7 := hb6.trans (hb.mono hb6.size)
  have HI7 := Lib.hid (HI6.out.later hb)
  clear hb hb6 HI6 k5
  go_wp2
  go_loopw [7] (fun i wr => ∃ k : Nat, k ≤ L.length + 3 ∧ i = .int .i64 ((k : Int) - 1) ∧ Hid (IntsAt wr (.slice a L.length c) L) ∧ Below w.heap.size w wr) (fun i _ => L.length + 4 - (intOf i + 1).toNat)
  case atStart => exact ⟨0, Nat.zero_le _, by first | rfl | (simp; done), HI7, hb7⟩
  case round =>
    obtain ⟨k, hk, rfl, HIR, hbr⟩ := hrel
    by_cases hkl : k < L.length + 3
    · have hk1 : (k : Int) - 1 ≤ (L.length : Int) + 1 := by omega
      have k1 := range_any L ((k : Int) - 1) wr _ HIR.out (by omega)
      obtain ⟨X, Y, Z, hxyz⟩ := rangeV_tuple L ((k : Int) - 1)
      rw [hxyz] at k1
      have hz : (Z != Z) = false := by simp
      go_wp2_with fail
      refine k1.mono ?_
      rintro e w8 ⟨rfl, hb⟩
      have hb8 := hbr.trans (hb.mono hbr.size)
      have HI8 := Lib.hid (HIR.out.later hb)
      have k2 := refrange_any L ((k : Int) - 1) w8 _ HI8.out (by omega)
      rw [hxyz] at k2
      clear hb hbr HIR k1 hxyz
      go_wp2_with fail
      refine k2.mono ?_
      rintro e w9 ⟨rfl, hb⟩
      have hb9 := hb8.trans (hb.mono hb8.size)
      have HI9 := Lib.hid (HI8.out.later hb)
      clear hb hb8 HI8 k2
      go_wp2
      go_roundw
      case rel => exact ⟨k + 1, by omega, by go_num, HI9, hb9⟩
      case measure => (simp [intOf]; try omega)
    · have hk1 : ¬ ((k : Int) - 1 ≤ (L.length : Int) + 1) := by omega
      go_wp2
      go_ret
      exact ⟨rfl, hbr⟩
end Go.Proofs.Ytebgcicpokpelaa.lawOf
