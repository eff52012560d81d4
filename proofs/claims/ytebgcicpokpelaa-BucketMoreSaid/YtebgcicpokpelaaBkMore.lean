/- BucketMore: the walk. -/
import Derived.Test.YtebgcicpokpelaaBkRow
namespace Go.Proofs.Ytebgcicpokpelaa.lawMore
open Go.RowKit Go.Proofs.Ytebgcicpokpelaa
theorem more_fine {A B : List Int} (ha : fineL A = true) (hb : fineL B = true) (hl : A.length + B.length ≤ 20) (n m : Int) :
    ((ofL A n != ofL A m) || (ofL B n != ofL B m)) = (ofL (mergeL A B) n != ofL (mergeL A B) m) := by
  have h := ofL_more ha hb hl n m
  rw [Bool.eq_iff_iff, Bool.or_eq_true, bne_iff_ne, bne_iff_ne, bne_iff_ne]
  exact h
theorem bne_cast (x y : Nat) : ((x : Int) != (y : Int)) = (x != y) := by
  rw [Bool.eq_iff_iff, bne_iff_ne, bne_iff_ne]; omega
set_option maxHeartbeats 3200000 in
set_option maxRecDepth 100000 in
theorem walk (v0 : Value) (l : List Int) (v1 : Value) (l1 : List Int) (x y : Int) (w : World) (hA : ArgInts w v0 l) (hB : ArgInts w v1 l1) :
    Calls Try.prog 7 #[v0, v1, .agg #[.int .i64 x, .int .i64 y]] w fun e w' => e = .returned (.bool true) ∧ Below w.heap.size w w' := by
  obtain ⟨a, c, rfl, hc, _⟩ := RdAt.shape hA.1
  obtain ⟨a1, c1, rfl, hc1, _⟩ := RdAt.shape hB.1
  obtain ⟨L, hL, hm, hL22, hLl⟩ := early_len l 10
  obtain ⟨M, hM, hm1, hM22, hMl⟩ := early_len l1 10
  have hi0 := ints_take hA.1 hL
  have hj0 := ints_take hB.1 hM
  have hLc : (L.length : Int) ≤ (c : Int) := by omega
  have hMc : (M.length : Int) ≤ (c1 : Int) := by omega
  have hl63 : l.length ≤ 9223372036854775807 := by have := hA.2; unfold maxLen at this; omega
  have hl631 : l1.length ≤ 9223372036854775807 := by have := hB.2; unfold maxLen at this; omega
  change min (l.length : Int) 10 = _ at hm
  change min (l1.length : Int) 10 = _ at hm1
  have HI0 := Lib.hid hi0
  have HJ0 := Lib.hid hj0
  clear hA hL hi0 hB hM hj0
  go_enter Try.func7, Try.ntmps7
  go_wp2_with fail
  refine (lives_any _).mono ?_
  rintro e w1 ⟨rfl, hb⟩
  obtain ⟨g0, g1, hglt, hb1⟩ := box2 hb
  clear hb
  go_wp2
  go_quiet (fail)
  have hb2 : Below w.heap.size w (w1.drewN nq) := bl_drewN hb1 nq
  have g0' := keep_cell g0 (bl_drewN (Below.refl w1.heap.size w1) nq) hglt
  have g1' := keep_cell g1 (bl_drewN (Below.refl w1.heap.size w1) nq) hglt
  have hglt2 : w.heap.size < (w1.drewN nq).heap.size := hglt
  clear g0 g1 hglt hb1
  generalize w1.drewN nq = w2 at *
  have HI2 := Lib.hid (HI0.out.later hb2)
  have HJ2 := Lib.hid (HJ0.out.later hb2)
  have k1 := merge_any L M w2 _ _ HI2.out HJ2.out (by omega) (by omega)
  clear HI0 HJ0
  go_wp2_with fail
  refine k1.mono ?_
  rintro e w3 ⟨vm, rfl, him, hb⟩
  have g0 := keep_cell g0' hb hglt2
  have g1 := keep_cell g1' hb hglt2
  have hb3 := hb2.trans (hb.mono hb2.size)
  have HI3 := Lib.hid (HI2.out.later hb)
  have HJ3 := Lib.hid (HJ2.out.later hb)
  obtain ⟨am, cm, rfl, _, _⟩ := RdAt.shape him
  have HC3 := Lib.hid him
  have hml := mergeL_len L M
  clear g0' g1' hglt2 hb hb2 HI2 HJ2 k1 him
  go_wp2
  go_quiet (fail)
  have hb4 : Below w.heap.size w (w3.drewN nq) := bl_drewN hb3 nq
  have HI4 := Lib.hid (HI3.out.later (bl_drewN (Below.refl w3.heap.size w3) nq))
  have HJ4 := Lib.hid (HJ3.out.later (bl_drewN (Below.refl w3.heap.size w3) nq))
  have HC4 := Lib.hid (HC3.out.later (bl_drewN (Below.refl w3.heap.size w3) nq))
  clear g0 g1 hb3 HI3 HJ3 HC3
  generalize w3.drewN nq = w4 at *
  generalize wrap64 ((IntKind.u64.wrap x).tmod 2199023255552) = N
  generalize wrap64 ((IntKind.u64.wrap y).tmod 2199023255552) = K
  generalize (IntKind.u64.wrap x).tmod 2199023255552 = n1
  generalize (IntKind.u64.wrap y).tmod 2199023255552 = k1
  by_cases h0 : (mergeL L M).length = 0
  · have h0' : ((mergeL L M).length : Int) = 0 := by omega
    obtain ⟨p, hp⟩ : ∃ p, ofL L N = p := ⟨_, rfl⟩
    obtain ⟨q, hq⟩ : ∃ q, ofL M N = q := ⟨_, rfl⟩
    have hpq : p = 0 ∨ q = 0 := by
      rcases mergeL_empty h0 with h | h
      · left; rw [← hp]; exact ofL_bad h N
      · right; rw [← hq]; exact ofL_bad h N
    have HP := Lib.hid hp
    have HQ := Lib.hid hq
    clear hp hq h0
    by_cases hp0 : p = 0
    · subst hp0
      clear hpq
      have kk := of_any L N w4 _ HI4.out (by omega)
      rw [HP.out] at kk
      go_wp2_with fail
      refine kk.mono ?_
      rintro e w5 ⟨rfl, hb⟩
      have hb5 := hb4.trans (hb.mono hb4.size)
      have HI5 := Lib.hid (HI4.out.later hb)
      have HJ5 := Lib.hid (HJ4.out.later hb)
      have HC5 := Lib.hid (HC4.out.later hb)
      clear kk hb hb4 HI4 HJ4 HC4
      go_wp2
      go_ret
      exact ⟨rfl, hb5⟩
    · obtain rfl : q = 0 := by rcases hpq with h | h; exact absurd h hp0; exact h
      have hp1 : ((p : Int) == 0) = false := by rw [beq_eq_false_iff_ne]; omega
      clear hpq hp0
      have kk := of_any L N w4 _ HI4.out (by omega)
      rw [HP.out] at kk
      go_wp2_with fail
      refine kk.mono ?_
      rintro e w5 ⟨rfl, hb⟩
      have hb5 := hb4.trans (hb.mono hb4.size)
      have HI5 := Lib.hid (HI4.out.later hb)
      have HJ5 := Lib.hid (HJ4.out.later hb)
      have HC5 := Lib.hid (HC4.out.later hb)
      clear kk hb hb4 HI4 HJ4 HC4
      have kk := of_any M N w5 _ HJ5.out (by omega)
      rw [HQ.out] at kk
      go_wp2_with fail
      refine kk.mono ?_
      rintro e w6 ⟨rfl, hb⟩
      have hb6 := hb5.trans (hb.mono hb5.size)
      have HI6 := Lib.hid (HI5.out.later hb)
      have HJ6 := Lib.hid (HJ5.out.later hb)
      have HC6 := Lib.hid (HC5.out.later hb)
      clear kk hb hb5 HI5 HJ5 HC5
      go_wp2
      go_ret
      exact ⟨rfl, hb6⟩
  · have h0' : (((mergeL L M).length : Int) == 0) = false := by rw [beq_eq_false_iff_ne]; omega
    obtain ⟨fL, fM⟩ := mergeL_some h0
    have hmore := more_fine fL fM (by omega) N K
    obtain ⟨p1, hp1⟩ : ∃ p, ofL L N = p := ⟨_, rfl⟩
    obtain ⟨p2, hp2⟩ : ∃ p, ofL L K = p := ⟨_, rfl⟩
    obtain ⟨q1, hq1⟩ : ∃ q, ofL M N = q := ⟨_, rfl⟩
    obtain ⟨q2, hq2⟩ : ∃ q, ofL M K = q := ⟨_, rfl⟩
    obtain ⟨r1, hr1⟩ : ∃ q, ofL (mergeL L M) N = q := ⟨_, rfl⟩
    obtain ⟨r2, hr2⟩ : ∃ q, ofL (mergeL L M) K = q := ⟨_, rfl⟩
    rw [hp1, hp2, hq1, hq2, hr1, hr2, ← bne_cast, ← bne_cast, ← bne_cast] at hmore
    have HP1 := Lib.hid hp1
    have HP2 := Lib.hid hp2
    have HQ1 := Lib.hid hq1
    have HQ2 := Lib.hid hq2
    have HR1 := Lib.hid hr1
    have HR2 := Lib.hid hr2
    clear fL fM hp1 hp2 hq1 hq2 hr1 hr2 h0
    generalize mergeL L M = C at *
    cases hpp : ((p1 : Int) != (p2 : Int))
    · rw [hpp, Bool.false_or] at hmore
      have hrr := hmore.symm
      clear hmore
      cases hqq : ((q1 : Int) != (q2 : Int))
      · rw [hqq] at hrr
        have kk := of_any L N w4 _ HI4.out (by omega)
        rw [HP1.out] at kk
        go_wp2_with fail
        refine kk.mono ?_
        rintro e w5 ⟨rfl, hb⟩
        have hb5 := hb4.trans (hb.mono hb4.size)
        have HI5 := Lib.hid (HI4.out.later hb)
        have HJ5 := Lib.hid (HJ4.out.later hb)
        have HC5 := Lib.hid (HC4.out.later hb)
        clear kk hb hb4 HI4 HJ4 HC4
        have kk := of_any L K w5 _ HI5.out (by omega)
        rw [HP2.out] at kk
        go_wp2_with fail
        refine kk.mono ?_
        rintro e w6 ⟨rfl, hb⟩
        have hb6 := hb5.trans (hb.mono hb5.size)
        have HI6 := Lib.hid (HI5.out.later hb)
        have HJ6 := Lib.hid (HJ5.out.later hb)
        have HC6 := Lib.hid (HC5.out.later hb)
        clear kk hb hb5 HI5 HJ5 HC5
        have kk := of_any M N w6 _ HJ6.out (by omega)
        rw [HQ1.out] at kk
        go_wp2_with fail
        refine kk.mono ?_
        rintro e w7 ⟨rfl, hb⟩
        have hb7 := hb6.trans (hb.mono hb6.size)
        have HI7 := Lib.hid (HI6.out.later hb)
        have HJ7 := Lib.hid (HJ6.out.later hb)
        have HC7 := Lib.hid (HC6.out.later hb)
        clear kk hb hb6 HI6 HJ6 HC6
        have kk := of_any M K w7 _ HJ7.out (by omega)
        rw [HQ2.out] at kk
        go_wp2_with fail
        refine kk.mono ?_
        rintro e w8 ⟨rfl, hb⟩
        have hb8 := hb7.trans (hb.mono hb7.size)
        have HI8 := Lib.hid (HI7.out.later hb)
        have HJ8 := Lib.hid (HJ7.out.later hb)
        have HC8 := Lib.hid (HC7.out.later hb)
        clear kk hb hb7 HI7 HJ7 HC7
        have kk := of_any C N w8 _ HC8.out (by omega)
        rw [HR1.out] at kk
        go_wp2_with fail
        refine kk.mono ?_
        rintro e w9 ⟨rfl, hb⟩
        have hb9 := hb8.trans (hb.mono hb8.size)
        have HI9 := Lib.hid (HI8.out.later hb)
        have HJ9 := Lib.hid (HJ8.out.later hb)
        have HC9 := Lib.hid (HC8.out.later hb)
        clear kk hb hb8 HI8 HJ8 HC8
        have kk := of_any C K w9 _ HC9.out (by omega)
        rw [HR2.out] at kk
        go_wp2_with fail
        refine kk.mono ?_
        rintro e w10 ⟨rfl, hb⟩
        have hb10 := hb9.trans (hb.mono hb9.size)
        have HI10 := Lib.hid (HI9.out.later hb)
        have HJ10 := Lib.hid (HJ9.out.later hb)
        have HC10 := Lib.hid (HC9.out.later hb)
        clear kk hb hb9 HI9 HJ9 HC9
        go_wp2
        go_ret
        exact ⟨rfl, hb10⟩
      · rw [hqq] at hrr
        have kk := of_any L N w4 _ HI4.out (by omega)
        rw [HP1.out] at kk
        go_wp2_with fail
        refine kk.mono ?_
        rintro e w5 ⟨rfl, hb⟩
        have hb5 := hb4.trans (hb.mono hb4.size)
        have HI5 := Lib.hid (HI4.out.later hb)
        have HJ5 := Lib.hid (HJ4.out.later hb)
        have HC5 := Lib.hid (HC4.out.later hb)
        clear kk hb hb4 HI4 HJ4 HC4
        have kk := of_any L K w5 _ HI5.out (by omega)
        rw [HP2.out] at kk
        go_wp2_with fail
        refine kk.mono ?_
        rintro e w6 ⟨rfl, hb⟩
        have hb6 := hb5.trans (hb.mono hb5.size)
        have HI6 := Lib.hid (HI5.out.later hb)
        have HJ6 := Lib.hid (HJ5.out.later hb)
        have HC6 := Lib.hid (HC5.out.later hb)
        clear kk hb hb5 HI5 HJ5 HC5
        have kk := of_any M N w6 _ HJ6.out (by omega)
        rw [HQ1.out] at kk
        go_wp2_with fail
        refine kk.mono ?_
        rintro e w7 ⟨rfl, hb⟩
        have hb7 := hb6.trans (hb.mono hb6.size)
        have HI7 := Lib.hid (HI6.out.later hb)
        have HJ7 := Lib.hid (HJ6.out.later hb)
        have HC7 := Lib.hid (HC6.out.later hb)
        clear kk hb hb6 HI6 HJ6 HC6
        have kk := of_any M K w7 _ HJ7.out (by omega)
        rw [HQ2.out] at kk
        go_wp2_with fail
        refine kk.mono ?_
        rintro e w8 ⟨rfl, hb⟩
        have hb8 := hb7.trans (hb.mono hb7.size)
        have HI8 := Lib.hid (HI7.out.later hb)
        have HJ8 := Lib.hid (HJ7.out.later hb)
        have HC8 := Lib.hid (HC7.out.later hb)
        clear kk hb hb7 HI7 HJ7 HC7
        have kk := of_any C N w8 _ HC8.out (by omega)
        rw [HR1.out] at kk
        go_wp2_with fail
        refine kk.mono ?_
        rintro e w9 ⟨rfl, hb⟩
        have hb9 := hb8.trans (hb.mono hb8.size)
        have HI9 := Lib.hid (HI8.out.later hb)
        have HJ9 := Lib.hid (HJ8.out.later hb)
        have HC9 := Lib.hid (HC8.out.later hb)
        clear kk hb hb8 HI8 HJ8 HC8
        have kk := of_any C K w9 _ HC9.out (by omega)
        rw [HR2.out] at kk
        go_wp2_with fail
        refine kk.mono ?_
        rintro e w10 ⟨rfl, hb⟩
        have hb10 := hb9.trans (hb.mono hb9.size)
        have HI10 := Lib.hid (HI9.out.later hb)
        have HJ10 := Lib.hid (HJ9.out.later hb)
        have HC10 := Lib.hid (HC9.out.later hb)
        clear kk hb hb9 HI9 HJ9 HC9
        go_wp2
        go_ret
        exact ⟨rfl, hb10⟩
    · rw [hpp, Bool.true_or] at hmore
      have hrr := hmore.symm
      clear hmore
      have kk := of_any L N w4 _ HI4.out (by omega)
      rw [HP1.out] at kk
      go_wp2_with fail
      refine kk.mono ?_
      rintro e w5 ⟨rfl, hb⟩
      have hb5 := hb4.trans (hb.mono hb4.size)
      have HI5 := Lib.hid (HI4.out.later hb)
      have HJ5 := Lib.hid (HJ4.out.later hb)
      have HC5 := Lib.hid (HC4.out.later hb)
      clear kk hb hb4 HI4 HJ4 HC4
      have kk := of_any L K w5 _ HI5.out (by omega)
      rw [HP2.out] at kk
      go_wp2_with fail
      refine kk.mono ?_
      rintro e w6 ⟨rfl, hb⟩
      have hb6 := hb5.trans (hb.mono hb5.size)
      have HI6 := Lib.hid (HI5.out.later hb)
      have HJ6 := Lib.hid (HJ5.out.later hb)
      have HC6 := Lib.hid (HC5.out.later hb)
      clear kk hb hb5 HI5 HJ5 HC5
      have kk := of_any C N w6 _ HC6.out (by omega)
      rw [HR1.out] at kk
      go_wp2_with fail
      refine kk.mono ?_
      rintro e w7 ⟨rfl, hb⟩
      have hb7 := hb6.trans (hb.mono hb6.size)
      have HI7 := Lib.hid (HI6.out.later hb)
      have HJ7 := Lib.hid (HJ6.out.later hb)
      have HC7 := Lib.hid (HC6.out.later hb)
      clear kk hb hb6 HI6 HJ6 HC6
      have kk := of_any C K w7 _ HC7.out (by omega)
      rw [HR2.out] at kk
      go_wp2_with fail
      refine kk.mono ?_
      rintro e w8 ⟨rfl, hb⟩
      have hb8 := hb7.trans (hb.mono hb7.size)
      have HI8 := Lib.hid (HI7.out.later hb)
      have HJ8 := Lib.hid (HJ7.out.later hb)
      have HC8 := Lib.hid (HC7.out.later hb)
      clear kk hb hb7 HI7 HJ7 HC7
      go_wp2
      go_ret
      exact ⟨rfl, hb8⟩
end Go.Proofs.Ytebgcicpokpelaa.lawMore
