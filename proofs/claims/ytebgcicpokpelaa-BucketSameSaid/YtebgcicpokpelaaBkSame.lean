/- BucketSame: the walk. -/
import Derived.Test.YtebgcicpokpelaaBkRow
namespace Go.Proofs.Ytebgcicpokpelaa
open Go.RowKit
theorem uint_nonneg (n m : Int) (h : 0 < m) (hm : m ≤ 9223372036854775807) : 0 ≤ wrap64 ((IntKind.u64.wrap n).tmod m) := by
  rw [IntKind.wrap_u64]
  have h1 : 0 ≤ n % 18446744073709551616 := Int.emod_nonneg _ (by omega)
  rw [Int.tmod_eq_emod_of_nonneg h1]
  have h2 := Int.emod_nonneg (n % 18446744073709551616) (Int.ne_of_gt h)
  have h3 := Int.emod_lt_of_pos (n % 18446744073709551616) h
  rw [IntWalk.wrap64_in _ ⟨by omega, by omega⟩]
  exact h2
theorem ints_one (w : World) (x : Int) (t : TypeId) : IntsAt (w.alloc (.cells #[I x] t)) (.slice (some ⟨w.heap.size, 0, none⟩) 1 1) [x] := rd_one w (I x) t
end Go.Proofs.Ytebgcicpokpelaa
namespace Go.Proofs.Ytebgcicpokpelaa.lawSame
open Go.RowKit Go.Proofs.Ytebgcicpokpelaa
set_option maxHeartbeats 3200000 in
set_option maxRecDepth 100000 in
theorem walk (v0 : Value) (l : List Int) (n m : Int) (w : World) (hA : ArgInts w v0 l) :
    Calls Try.prog 6 #[v0, .int .i64 n, .int .i64 m] w fun e w' => e = .returned (.bool true) ∧ Below w.heap.size w w' := by
  obtain ⟨a, c, rfl, hc, _⟩ := RdAt.shape hA.1
  obtain ⟨L, hL, hm, hL22, hLl⟩ := early_len l 22
  have hi0 := ints_take hA.1 hL
  have hLc : (L.length : Int) ≤ (c : Int) := by omega
  have hl63 : l.length ≤ 9223372036854775807 := by have := hA.2; unfold maxLen at this; omega
  change min (l.length : Int) 22 = _ at hm
  have HM0 := Lib.hid (uint_nonneg m 2199023255552 (by decide) (by decide))
  have HI0 := Lib.hid hi0
  clear hA hL hi0
  go_enter Try.func6, Try.ntmps6
  go_wp2_with fail
  refine (lives_any _).mono ?_
  rintro e w1 ⟨rfl, hb1⟩
  have HI1 := Lib.hid (HI0.out.later hb1)
  clear HI0
  go_upto_region 5 with fail
  generalize wrap64 ((IntKind.u64.wrap n).tmod 2199023255552) = N
  generalize wrap64 ((IntKind.u64.wrap m).tmod 2199023255552) = M at HM0 ⊢
  generalize (IntKind.u64.wrap n).tmod 2199023255552 = n1
  generalize (IntKind.u64.wrap m).tmod 2199023255552 = m1
  have k1 := of_any L N w1 _ HI1.out (by omega)
  obtain ⟨x, hx⟩ : ∃ x, ofL L N = x := ⟨_, rfl⟩
  rw [hx] at k1
  have hxl : x ≤ L.length := by rw [← hx]; exact ofL_le L N
  have HX := Lib.hid hx
  clear hx
  go_wp2_with fail
  refine k1.mono ?_
  rintro e w2 ⟨rfl, hb⟩
  have hb2 := hb1.trans (hb.mono hb1.size)
  have HI2 := Lib.hid (HI1.out.later hb)
  have k2 := range_any L (x : Int) w2 _ HI2.out (by omega)
  clear hb hb1 HI1 k1
  cases hf : fineL L
  · rw [rangeV_bad (rangeOk_unfine hf)] at k2
    obtain rfl : x = 0 := by have := HX.out; rw [ofL_bad hf] at this; omega
    have HZ : Hid (mergeL L [1] = []) := mergeL_bad (.inl hf)
    clear hf HX
    go_wp2_with fail
    refine k2.mono ?_
    rintro e w3 ⟨rfl, hb⟩
    have hb3 := hb2.trans (hb.mono hb2.size)
    have HI3 := Lib.hid (HI2.out.later hb)
    have hba := alloc_below w3 (.cells #[I 1] 3)
    have k3 := merge_any L [1] _ _ _ (HI3.out.later hba) (ints_one w3 1 3) (by omega) (by decide)
    rw [HZ.out] at k3
    clear hb hb2 HI2 k2
    go_wp2_with fail
    refine k3.mono ?_
    rintro e w4 ⟨v4, rfl, hi4, hb⟩
    have hb4 := (hb3.trans (hba.mono hb3.size)).trans (hb.mono (by have := hb3.size; have := hba.size; omega))
    obtain ⟨a4, c4, rfl, _, _⟩ := RdAt.shape hi4
    clear hi4 hb k3 hb3 hba
    go_wp2
    go_ret
    exact ⟨rfl, hb4⟩
  · rw [rangeV_good hf hxl] at k2
    obtain ⟨y, hy⟩ : ∃ y, ofL L M = y := ⟨_, rfl⟩
    have hr := ofL_range hf x hxl HM0.out
    have h1 := ofL_lo hf hxl
    have h2 := ofL_hi hf hxl
    have hmono : N ≤ M → x ≤ y := fun h => by rw [← HX.out, ← hy]; exact ofL_mono L h
    obtain ⟨LO, hlo⟩ : ∃ z, loL L x = z := ⟨_, rfl⟩
    obtain ⟨HH, hhi⟩ : ∃ z, hiL L x = z := ⟨_, rfl⟩
    rw [hy, hlo, hhi] at hr
    rw [hlo] at h1
    rw [hhi] at h2
    rw [hlo, hhi] at k2
    have HY := Lib.hid hy
    have H1 := Lib.hid h1
    have H2 := Lib.hid h2
    clear hf HX hlo hhi hy h1 h2
    go_wp2_with fail
    refine k2.mono ?_
    rintro e w3 ⟨rfl, hb⟩
    have hb3 := hb2.trans (hb.mono hb2.size)
    have HI3 := Lib.hid (HI2.out.later hb)
    have k3 := of_any L M w3 _ HI3.out (by omega)
    rw [HY.out] at k3
    clear hb hb2 HI2 k2 HM0
    by_cases c1 : LO ≤ M
    · by_cases c2 : M ≤ HH
      · have hyx : ((y : Int) == (x : Int)) = true := by rw [beq_iff_eq]; have := hr.2 ⟨c1, .inl c2⟩; omega
        clear hr
        go_wp2_with fail
        refine k3.mono ?_
        rintro e w4 ⟨rfl, hb⟩
        have hb4 := hb3.trans (hb.mono hb3.size)
        have HI4 := Lib.hid (HI3.out.later hb)
        clear hb hb3 HI3
        rcases Int.lt_or_le M N with hnm | hnm
        · have k5 := of_any L LO w4 _ HI4.out (by omega)
          rw [H1.out] at k5
          go_wp2_with fail
          refine k5.mono ?_
          rintro e w5 ⟨rfl, hb⟩
          have hb5 := hb4.trans (hb.mono hb4.size)
          have HI5 := Lib.hid (HI4.out.later hb)
          clear hb hb4 HI4 k5
          have k6 := of_any L HH w5 _ HI5.out (by omega)
          rw [H2.out] at k6
          go_wp2_with fail
          refine k6.mono ?_
          rintro e w6 ⟨rfl, hb⟩
          have hb6 := hb5.trans (hb.mono hb5.size)
          have HI6 := Lib.hid (HI5.out.later hb)
          clear hb hb5 HI5 k6
          go_wp2
          go_ret
          exact ⟨rfl, hb6⟩
        · have hxy := hmono hnm
          have hxy' : (x : Int) ≤ (y : Int) := by omega
          have k7 := of_any L M w4 _ HI4.out (by omega)
          rw [HY.out] at k7
          go_wp2_with fail
          refine k7.mono ?_
          rintro e w7 ⟨rfl, hb⟩
          have hb7 := hb4.trans (hb.mono hb4.size)
          have HI7 := Lib.hid (HI4.out.later hb)
          clear hb hb4 HI4 k7
          have k5 := of_any L LO w7 _ HI7.out (by omega)
          rw [H1.out] at k5
          go_wp2_with fail
          refine k5.mono ?_
          rintro e w5 ⟨rfl, hb⟩
          have hb5 := hb7.trans (hb.mono hb7.size)
          have HI5 := Lib.hid (HI7.out.later hb)
          clear hb hb7 HI7 k5
          have k6 := of_any L HH w5 _ HI5.out (by omega)
          rw [H2.out] at k6
          go_wp2_with fail
          refine k6.mono ?_
          rintro e w6 ⟨rfl, hb⟩
          have hb6 := hb5.trans (hb.mono hb5.size)
          have HI6 := Lib.hid (HI5.out.later hb)
          clear hb hb5 HI5 k6
          go_wp2
          go_ret
          exact ⟨rfl, hb6⟩
      · have c2' : HH < M := by omega
        have c2'' : decide (M ≤ HH) = false := decide_eq_false c2
        by_cases c3 : x = L.length
        · have hyx : ((y : Int) == (x : Int)) = true := by rw [beq_iff_eq]; have := hr.2 ⟨c1, .inr c3⟩; omega
          have c3' : ((x : Int) == (L.length : Int)) = true := by rw [beq_iff_eq]; omega
          clear hr c2 c3
          go_wp2_with fail
          refine k3.mono ?_
          rintro e w4 ⟨rfl, hb⟩
          have hb4 := hb3.trans (hb.mono hb3.size)
          have HI4 := Lib.hid (HI3.out.later hb)
          clear hb hb3 HI3
          rcases Int.lt_or_le M N with hnm | hnm
          · have k5 := of_any L LO w4 _ HI4.out (by omega)
            rw [H1.out] at k5
            go_wp2_with fail
            refine k5.mono ?_
            rintro e w5 ⟨rfl, hb⟩
            have hb5 := hb4.trans (hb.mono hb4.size)
            have HI5 := Lib.hid (HI4.out.later hb)
            clear hb hb4 HI4 k5
            have k6 := of_any L HH w5 _ HI5.out (by omega)
            rw [H2.out] at k6
            go_wp2_with fail
            refine k6.mono ?_
            rintro e w6 ⟨rfl, hb⟩
            have hb6 := hb5.trans (hb.mono hb5.size)
            have HI6 := Lib.hid (HI5.out.later hb)
            clear hb hb5 HI5 k6
            go_wp2
            go_ret
            exact ⟨rfl, hb6⟩
          · have hxy := hmono hnm
            have hxy' : (x : Int) ≤ (y : Int) := by omega
            have k7 := of_any L M w4 _ HI4.out (by omega)
            rw [HY.out] at k7
            go_wp2_with fail
            refine k7.mono ?_
            rintro e w7 ⟨rfl, hb⟩
            have hb7 := hb4.trans (hb.mono hb4.size)
            have HI7 := Lib.hid (HI4.out.later hb)
            clear hb hb4 HI4 k7
            have k5 := of_any L LO w7 _ HI7.out (by omega)
            rw [H1.out] at k5
            go_wp2_with fail
            refine k5.mono ?_
            rintro e w5 ⟨rfl, hb⟩
            have hb5 := hb7.trans (hb.mono hb7.size)
            have HI5 := Lib.hid (HI7.out.later hb)
            clear hb hb7 HI7 k5
            have k6 := of_any L HH w5 _ HI5.out (by omega)
            rw [H2.out] at k6
            go_wp2_with fail
            refine k6.mono ?_
            rintro e w6 ⟨rfl, hb⟩
            have hb6 := hb5.trans (hb.mono hb5.size)
            have HI6 := Lib.hid (HI5.out.later hb)
            clear hb hb5 HI5 k6
            go_wp2
            go_ret
            exact ⟨rfl, hb6⟩
        · have hyx : ((y : Int) == (x : Int)) = false := by
            rw [beq_eq_false_iff_ne]; intro h
            rcases (hr.1 (by omega)).2 with h' | h'
            · exact c2 h'
            · exact c3 h'
          have c3' : ((x : Int) == (L.length : Int)) = false := by rw [beq_eq_false_iff_ne]; omega
          clear hr c2 c3
          go_wp2_with fail
          refine k3.mono ?_
          rintro e w4 ⟨rfl, hb⟩
          have hb4 := hb3.trans (hb.mono hb3.size)
          have HI4 := Lib.hid (HI3.out.later hb)
          clear hb hb3 HI3
          rcases Int.lt_or_le M N with hnm | hnm
          · have k5 := of_any L LO w4 _ HI4.out (by omega)
            rw [H1.out] at k5
            go_wp2_with fail
            refine k5.mono ?_
            rintro e w5 ⟨rfl, hb⟩
            have hb5 := hb4.trans (hb.mono hb4.size)
            have HI5 := Lib.hid (HI4.out.later hb)
            clear hb hb4 HI4 k5
            have k6 := of_any L HH w5 _ HI5.out (by omega)
            rw [H2.out] at k6
            go_wp2_with fail
            refine k6.mono ?_
            rintro e w6 ⟨rfl, hb⟩
            have hb6 := hb5.trans (hb.mono hb5.size)
            have HI6 := Lib.hid (HI5.out.later hb)
            clear hb hb5 HI5 k6
            go_wp2
            go_ret
            exact ⟨rfl, hb6⟩
          · have hxy := hmono hnm
            have hxy' : (x : Int) ≤ (y : Int) := by omega
            have k7 := of_any L M w4 _ HI4.out (by omega)
            rw [HY.out] at k7
            go_wp2_with fail
            refine k7.mono ?_
            rintro e w7 ⟨rfl, hb⟩
            have hb7 := hb4.trans (hb.mono hb4.size)
            have HI7 := Lib.hid (HI4.out.later hb)
            clear hb hb4 HI4 k7
            have k5 := of_any L LO w7 _ HI7.out (by omega)
            rw [H1.out] at k5
            go_wp2_with fail
            refine k5.mono ?_
            rintro e w5 ⟨rfl, hb⟩
            have hb5 := hb7.trans (hb.mono hb7.size)
            have HI5 := Lib.hid (HI7.out.later hb)
            clear hb hb7 HI7 k5
            have k6 := of_any L HH w5 _ HI5.out (by omega)
            rw [H2.out] at k6
            go_wp2_with fail
            refine k6.mono ?_
            rintro e w6 ⟨rfl, hb⟩
            have hb6 := hb5.trans (hb.mono hb5.size)
            have HI6 := Lib.hid (HI5.out.later hb)
            clear hb hb5 HI5 k6
            go_wp2
            go_ret
            exact ⟨rfl, hb6⟩
    · have hyx : ((y : Int) == (x : Int)) = false := by
        rw [beq_eq_false_iff_ne]; intro h
        exact c1 (hr.1 (by omega)).1
      have c1' : M < LO := by omega
      clear hr c1
      go_wp2_with fail
      refine k3.mono ?_
      rintro e w4 ⟨rfl, hb⟩
      have hb4 := hb3.trans (hb.mono hb3.size)
      have HI4 := Lib.hid (HI3.out.later hb)
      clear hb hb3 HI3
      rcases Int.lt_or_le M N with hnm | hnm
      · have k5 := of_any L LO w4 _ HI4.out (by omega)
        rw [H1.out] at k5
        go_wp2_with fail
        refine k5.mono ?_
        rintro e w5 ⟨rfl, hb⟩
        have hb5 := hb4.trans (hb.mono hb4.size)
        have HI5 := Lib.hid (HI4.out.later hb)
        clear hb hb4 HI4 k5
        have k6 := of_any L HH w5 _ HI5.out (by omega)
        rw [H2.out] at k6
        go_wp2_with fail
        refine k6.mono ?_
        rintro e w6 ⟨rfl, hb⟩
        have hb6 := hb5.trans (hb.mono hb5.size)
        have HI6 := Lib.hid (HI5.out.later hb)
        clear hb hb5 HI5 k6
        go_wp2
        go_ret
        exact ⟨rfl, hb6⟩
      · have hxy := hmono hnm
        have hxy' : (x : Int) ≤ (y : Int) := by omega
        have k7 := of_any L M w4 _ HI4.out (by omega)
        rw [HY.out] at k7
        go_wp2_with fail
        refine k7.mono ?_
        rintro e w7 ⟨rfl, hb⟩
        have hb7 := hb4.trans (hb.mono hb4.size)
        have HI7 := Lib.hid (HI4.out.later hb)
        clear hb hb4 HI4 k7
        have k5 := of_any L LO w7 _ HI7.out (by omega)
        rw [H1.out] at k5
        go_wp2_with fail
        refine k5.mono ?_
        rintro e w5 ⟨rfl, hb⟩
        have hb5 := hb7.trans (hb.mono hb7.size)
        have HI5 := Lib.hid (HI7.out.later hb)
        clear hb hb7 HI7 k5
        have k6 := of_any L HH w5 _ HI5.out (by omega)
        rw [H2.out] at k6
        go_wp2_with fail
        refine k6.mono ?_
        rintro e w6 ⟨rfl, hb⟩
        have hb6 := hb5.trans (hb.mono hb5.size)
        have HI6 := Lib.hid (HI5.out.later hb)
        clear hb hb5 HI5 k6
        go_wp2
        go_ret
        exact ⟨rfl, hb6⟩
end Go.Proofs.Ytebgcicpokpelaa.lawSame
