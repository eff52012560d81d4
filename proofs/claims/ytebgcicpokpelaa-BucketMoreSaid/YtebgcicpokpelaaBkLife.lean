/- lychgatelaw22.lives is true. -/
import Derived.Test.YtebgcicpokpelaaBkLives
namespace Go.Proofs.Ytebgcicpokpelaa
open Go.RowKit

theorem ints_two (w : World) (x y : Int) (t : TypeId) : IntsAt (w.alloc (.cells #[I x, I y] t)) (.slice (some ⟨w.heap.size, 0, none⟩) 2 2) [x, y] := by
  have hc : ∀ (i : Nat), (w.alloc (.cells #[I x, I y] t)).cell? ⟨w.heap.size, i, none⟩ = _ := fun i => World.cell?_alloc_at _ _ _ _ rfl
  refine RdAt.mk rfl (Nat.le_refl _) (by rw [World.size_alloc]; omega) (fun j z hj => ?_)
  rw [Nat.zero_add]
  match j, hj with
  | 0, hj => exact (hc 0).trans hj
  | 1, hj => exact (hc 1).trans hj
  | j + 2, hj => simp at hj
theorem flds_one (w : World) (x y : ByteArray) (t : TypeId) : FldsAt (w.alloc (.cells #[.string x, .string y] t)) (.slice (some ⟨w.heap.size, 0, none⟩) 1 1) [(x, y)] := by
  have hc : ∀ (i : Nat), (w.alloc (.cells #[.string x, .string y] t)).cell? ⟨w.heap.size, i, none⟩ = _ := fun i => World.cell?_alloc_at _ _ _ _ rfl
  refine RdAt.mk rfl (Nat.le_refl _) (by rw [World.size_alloc]; omega) (fun j z hj => ?_)
  rw [Nat.zero_add]
  match j, hj with
  | 0, hj => exact (hc 0).trans hj
  | 1, hj => exact (hc 1).trans hj
  | j + 2, hj => simp [fldCells] at hj
abbrev exB : List Int := [1, 10]
theorem exRange : rangeV exB 1 = .tuple #[.int .i64 1, .int .i64 9, .bool true] := by
  rw [show (1 : Int) = ((1 : Nat) : Int) from rfl, rangeV_good (by decide) (by decide)]; rfl
theorem exOf0 : ofL exB 0 = 0 := by decide
theorem exOf1 : ofL exB 1 = 1 := by decide
theorem exOf9 : ofL exB 9 = 1 := by decide
theorem exOf10 : ofL exB 10 = 2 := by decide
theorem exFine : fineL exB = true := by decide

set_option maxHeartbeats 1600000 in
set_option maxRecDepth 100000 in
theorem lives_any (w : World) : Calls Try.prog 9 #[] w fun e w' => e = .returned (.bool true) ∧ Below w.heap.size w w' := by
  have k1 := range_any exB 1 _ _ (ints_two w 1 10 3) (by decide)
  rw [exRange] at k1
  have hb0 := alloc_below w (.cells #[I 1, I 10] 3)
  have hi0 := ints_two w 1 10 3
  go_enter Try.func9, Try.ntmps9
  go_wp2_with fail
  refine k1.mono ?_
  rintro e w1 ⟨rfl, hb1⟩
  have hi1 := hi0.later hb1
  have hB1 : Below w.heap.size w w1 := hb0.trans (hb1.mono hb0.size)
  clear k1 hb0 hi0 hb1
  have HI1 := Lib.hid hi1
  clear hi1
  have k2 : ∀ W2 W3 W4, W2 = w1.alloc (.cells #[.string ⟨#[109, 97, 110, 121]⟩, .int .i64 5, .int .u32 0, .int .i64 0, .int .u32 0, .slice none 0 0, .slice (some ⟨w.heap.size, 0, none⟩) 2 2] 34) →
      W3 = W2.alloc (.cells #[.string ⟨#[97]⟩, .string ⟨#[]⟩] 58) →
      W4 = W3.alloc (.cells #[.string ⟨#[112, 114, 111, 109]⟩, .slice (some ⟨w1.heap.size + 1, 0, none⟩) 1 1, .int .i64 4, .int .u32 0, .int .i64 0, .int .i64 0] 41) →
      Calls Try.prog 12 #[.agg #[.string ⟨#[109, 97, 110, 121]⟩, .int .i64 5, .int .u32 0, .int .i64 0, .int .u32 0, .slice none 0 0, .slice (some ⟨w.heap.size, 0, none⟩) 2 2], .slice (some ⟨w1.heap.size + 1 + 1, 0, none⟩) 1 1, .agg #[.int .i64 0, .int .u32 0], .int .i64 0] W4
        fun e w' => e = .returned (.tuple #[.int .i64 1, .bool true]) ∧ Below w.heap.size w w' ∧ IntsAt w' (.slice (some ⟨w.heap.size, 0, none⟩) 2 2) exB := by
    intro W2 W3 W4 h2 h3 h4
    have b2 : Below w1.heap.size w1 W2 := by rw [h2]; exact alloc_below _ _
    have b3 : Below W2.heap.size W2 W3 := by rw [h3]; exact alloc_below _ _
    have b4 : Below W3.heap.size W3 W4 := by rw [h4]; exact alloc_below _ _
    have s2 : W2.heap.size = w1.heap.size + 1 := by rw [h2, World.size_alloc]
    have s3 : W3.heap.size = w1.heap.size + 1 + 1 := by rw [h3, World.size_alloc, s2]
    have hfl : FldsAt W3 (.slice (some ⟨w1.heap.size + 1, 0, none⟩) 1 1) [(⟨#[97]⟩, ⟨#[]⟩)] := by
      have := flds_one W2 ⟨#[97]⟩ ⟨#[]⟩ 58
      rw [s2, ← h3] at this
      exact this
    have hi4 := ((HI1.out.later b2).later b3).later b4
    have bw4 : Below w.heap.size w W4 := ((hB1.trans (b2.mono hB1.size)).trans (b3.mono (by have := hB1.size; omega))).trans (b4.mono (by have := hB1.size; omega))
    have hc : ∀ (i : Nat), W4.cell? ⟨w1.heap.size + 1 + 1, i, none⟩ = (#[.string ⟨#[112, 114, 111, 109]⟩, .slice (some ⟨w1.heap.size + 1, 0, none⟩) 1 1, .int .i64 4, .int .u32 0, .int .i64 0, .int .i64 0] : Array Value)[i]? := fun i => by rw [h4]; exact World.cell?_alloc_at _ _ _ _ s3.symm
    have h := tell_one ⟨#[109, 97, 110, 121]⟩ 5 0 0 0 (.slice (some ⟨w.heap.size, 0, none⟩) 2 2) exB (w1.heap.size + 1 + 1) ⟨#[112, 114, 111, 109]⟩ [(⟨#[97]⟩, ⟨#[]⟩)] (.slice (some ⟨w1.heap.size + 1, 0, none⟩) 1 1) 4 0 W4
      (by decide) (by decide +kernel) (by decide) (by decide) hi4 (by decide) exFine (by decide +kernel) (by decide) (by decide +kernel) (hfl.later b4) (fun f hf => by rw [List.mem_singleton] at hf; subst hf; decide) (by decide) (by decide) (by decide +kernel) (by decide) (by decide +kernel)
      ⟨hc 0, hc 1, hc 2, hc 3, hc 4, hc 5⟩ (by rw [h4, World.size_alloc]; omega)
    rw [exOf1] at h
    refine h.mono ?_
    rintro e w' ⟨rfl, hb⟩
    exact ⟨rfl, bw4.trans (hb.mono bw4.size), hi4.later hb⟩
  have k2 := k2 _ _ _ rfl rfl rfl
  clear hB1 HI1
  go_wp2_with fail
  refine k2.mono ?_
  rintro e w2 ⟨rfl, hb2, hi2⟩
  clear k2
  have k3 := of_any exB 0 w2 _ hi2 (by decide)
  rw [exOf0] at k3
  have HI2 := Lib.hid hi2
  clear hi2
  go_wp2_with fail
  refine k3.mono ?_
  rintro e w3 ⟨rfl, hb3⟩
  have hb3' := hb2.trans (hb3.mono hb2.size)
  have HI3 := Lib.hid (HI2.out.later hb3)
  have k4 := of_any exB 9 w3 _ HI3.out (by decide)
  rw [exOf9] at k4
  clear k3 hb3 hb2 HI2
  go_wp2_with fail
  refine k4.mono ?_
  rintro e w4 ⟨rfl, hb4⟩
  have hb4' := hb3'.trans (hb4.mono hb3'.size)
  have HI4 := Lib.hid (HI3.out.later hb4)
  have k5 := of_any exB 10 w4 _ HI4.out (by decide)
  rw [exOf10] at k5
  clear k4 hb4 hb3' HI3
  go_wp2_with fail
  refine k5.mono ?_
  rintro e w5 ⟨rfl, hb5⟩
  have hb5' := hb4'.trans (hb5.mono hb4'.size)
  clear k5 hb5 hb4' HI4
  go_wp2
  go_ret
  exact ⟨rfl, hb5'⟩
end Go.Proofs.Ytebgcicpokpelaa
