/- PatternJoins: the walk. -/
import Derived.Test.YtlepnnbgecneeaaPatJoins
import Derived.Test.YtlepnnbgecneeaaHeld
namespace Go.Proofs.Ytlepnnbgecneeaa
open Go.RowKit

theorem fits_v {p t : ByteArray} {v : Bool} (h : fitB p t = v) (ht : t.size ≤ maxLen) (W : World) : Calls Try.prog 15 #[.string p, .string t] W fun e w' => e = .returned (.bool v) ∧ Below W.heap.size W w' := by
  rw [← h]; exact fits_b p t W ht
theorem right_v {p : ByteArray} {v : Int} (h : errM p = v) (W : World) : Calls Try.prog 14 #[.string p] W fun e w' => e = .returned (.int .i64 v) ∧ Below W.heap.size W w' := by
  rw [← h]; exact right_is p W
namespace lawJoins
set_option maxHeartbeats 6400000 in
set_option maxRecDepth 100000 in
theorem walk (p q x y : ByteArray) (w : World) (hp : p.size ≤ maxLen) (hq : q.size ≤ maxLen) (hx : x.size ≤ maxLen) (hy : y.size ≤ maxLen) :
    Calls Try.prog 4 #[.string p, .string q, .agg #[.string x, .string y]] w fun e w' => e = .returned (.bool true) ∧ Below w.heap.size w w' := by
  have hba := alloc_below w (.cells #[.string x, .string y] 33)
  have x0 := heap_alloc_new w (.cells #[.string x, .string y] 33)
  have c0 : (w.alloc (.cells #[.string x, .string y] 33)).cell? ⟨w.heap.size, 0, none⟩ = some (.string x) := by rw [cell_of_row _ _ _ _ _ _ x0]; rfl
  have c1 : (w.alloc (.cells #[.string x, .string y] 33)).cell? ⟨w.heap.size, 1, none⟩ = some (.string y) := by rw [cell_of_row _ _ _ _ _ _ x0]; rfl
  have hz : w.heap.size < (w.alloc (.cells #[.string x, .string y] 33)).heap.size := by rw [World.size_alloc]; omega
  have kl := lives_is (w.alloc (.cells #[.string x, .string y] 33))
  have kE := fun W (s : ByteArray) (h : s.size ≤ maxLen) => early5_is s W h
  have kR := fun W (s : ByteArray) => right_is s W
  have kF := fun W (s t : ByteArray) (h : t.size ≤ maxLen) => fits_b s t W h
  have HE := Lib.hid kE
  have HR := Lib.hid kR
  have HF := Lib.hid kF
  have HX := Lib.hid hx
  have HY := Lib.hid hy
  clear x0 kE kR kF hx hy
  unfold maxLen at hp hq
  go_enter Try.func4, Try.ntmps4
  go_wp2_with fail
  refine kl.mono ?_
  rintro e w1 ⟨rfl, hb1⟩
  have B1 := Lib.hid (hba.trans (hb1.mono (Nat.le_of_lt hz)))
  have C0 := Lib.hid ((hb1.cell (p := ⟨w.heap.size, 0, none⟩) hz).trans c0)
  have C1 := Lib.hid ((hb1.cell (p := ⟨w.heap.size, 1, none⟩) hz).trans c1)
  have hz1 : w.heap.size < w1.heap.size := Nat.lt_of_lt_of_le hz hb1.size
  clear kl hba hb1 c0 c1 hz
  have hm0 : (0 : Int) ≤ min (p.size : Int) 25 := by omega
  have hm1 : min (p.size : Int) 25 ≤ (p.size : Int) := by omega
  have hn0 : (0 : Int) ≤ min (q.size : Int) 25 := by omega
  have hn1 : min (q.size : Int) 25 ≤ (q.size : Int) := by omega
  go_upto_region 3 with fail
  refine wp_region_held_drew (S := (fun _ => True)) (by kernel_rfl) trivial (fun hHeld => ?_)
  refine held_take (i := 0) (v := ?_) rfl rfl (by kernel_rfl) (by kernel_rfl) (by kernel_rfl) (fun _ _ _ h => h) (by rfl) hHeld ?_ ?_
  rotate_left
  · rintro wh _
    go_simp
    (try with_reducible rfl)
  simp only [Act.put, List.setIfInBounds_toArray, List.set_cons_zero, List.set_cons_succ]
  refine held_take (i := 1) (v := ?_) rfl rfl (by kernel_rfl) (by kernel_rfl) (by kernel_rfl) (fun _ _ _ h => h) (by rfl) hHeld ?_ ?_
  rotate_left
  · rintro wh _
    go_simp
    (try with_reducible rfl)
  simp only [Act.put, List.setIfInBounds_toArray, List.set_cons_zero, List.set_cons_succ]
  refine held_take (i := 2) (v := ?_) rfl rfl (by kernel_rfl) (by kernel_rfl) (by kernel_rfl) (fun _ _ _ h => h) (by rfl) hHeld ?_ ?_
  rotate_left
  · rintro wh _
    go_simp
    (try with_reducible rfl)
  simp only [Act.put, List.setIfInBounds_toArray, List.set_cons_zero, List.set_cons_succ]
  refine held_take (i := 3) (v := ?_) rfl rfl (by kernel_rfl) (by kernel_rfl) (by kernel_rfl) (fun _ _ _ h => h) (by rfl) hHeld ?_ ?_
  rotate_left
  · rintro wh _
    go_simp
    (try with_reducible rfl)
  simp only [Act.put, List.setIfInBounds_toArray, List.set_cons_zero, List.set_cons_succ]
  refine held_take (i := 4) (v := ?_) rfl rfl (by kernel_rfl) (by kernel_rfl) (by kernel_rfl) (fun _ _ _ h => h) (by rfl) hHeld ?_ ?_
  rotate_left
  · rintro wh _
    go_simp
    (try with_reducible rfl)
  simp only [Act.put, List.setIfInBounds_toArray, List.set_cons_zero, List.set_cons_succ]
  refine held_take (i := 5) (v := ?_) rfl rfl (by kernel_rfl) (by kernel_rfl) (by kernel_rfl) (fun _ _ _ h => h) (by rfl) hHeld ?_ ?_
  rotate_left
  · rintro wh _
    go_simp
    (try with_reducible rfl)
  simp only [Act.put, List.setIfInBounds_toArray, List.set_cons_zero, List.set_cons_succ]
  refine held_take (i := 6) (v := ?_) rfl rfl (by kernel_rfl) (by kernel_rfl) (by kernel_rfl) (fun _ _ _ h => h) (by rfl) hHeld ?_ ?_
  rotate_left
  · rintro wh _
    go_simp
    (try with_reducible rfl)
  simp only [Act.put, List.setIfInBounds_toArray, List.set_cons_zero, List.set_cons_succ]
  refine held_take (i := 7) (v := ?_) rfl rfl (by kernel_rfl) (by kernel_rfl) (by kernel_rfl) (fun _ _ _ h => h) (by rfl) hHeld ?_ ?_
  rotate_left
  · rintro wh _
    go_simp
    (try with_reducible rfl)
  simp only [Act.put, List.setIfInBounds_toArray, List.set_cons_zero, List.set_cons_succ]
  refine held_take (i := 8) (v := ?_) rfl rfl (by kernel_rfl) (by kernel_rfl) (by kernel_rfl) (fun _ _ _ h => h) (by rfl) hHeld ?_ ?_
  rotate_left
  · rintro wh _
    go_simp
    (try with_reducible rfl)
  simp only [Act.put, List.setIfInBounds_toArray, List.set_cons_zero, List.set_cons_succ]
  refine held_take (i := 9) (v := ?_) rfl rfl (by kernel_rfl) (by kernel_rfl) (by kernel_rfl) (fun _ _ _ h => h) (by rfl) hHeld ?_ ?_
  rotate_left
  · rintro wh _
    go_simp
    (try with_reducible rfl)
  simp only [Act.put, List.setIfInBounds_toArray, List.set_cons_zero, List.set_cons_succ]
  refine held_take (i := 10) (v := ?_) rfl rfl (by kernel_rfl) (by kernel_rfl) (by kernel_rfl) (fun _ _ _ h => h) (by rfl) hHeld ?_ ?_
  rotate_left
  · rintro wh _
    go_simp
    (try with_reducible rfl)
  simp only [Act.put, List.setIfInBounds_toArray, List.set_cons_zero]
  refine held_take (i := 11) (v := ?_) rfl rfl (by kernel_rfl) (by kernel_rfl) (by kernel_rfl) (fun _ _ _ h => h) (by rfl) hHeld ?_ ?_
  rotate_left
  · rintro wh _
    go_simp
    (try with_reducible rfl)
  simp only [Act.put, List.setIfInBounds_toArray, List.set_cons_zero, List.set_cons_succ]
  refine wpAnyH_done (by kernel_rfl) ?_ _
  have B1' : Hid (Below w.heap.size w w1.drew) := Lib.hid B1.out.drew
  have C0' : Hid (w1.drew.cell? ⟨w.heap.size, 0, none⟩ = some (.string x)) := C0
  have C1' : Hid (w1.drew.cell? ⟨w.heap.size, 1, none⟩ = some (.string y)) := C1
  have hz1' : w.heap.size < w1.drew.heap.size := hz1
  clear hHeld hm0 hm1 hn0 hn1 B1 C0 C1 hz1
  obtain ⟨P, hP⟩ : ∃ P, p.extract 0 (min (p.size : Int) 25).toNat = P := ⟨_, rfl⟩
  obtain ⟨Q, hQ⟩ : ∃ Q, q.extract 0 (min (q.size : Int) 25).toNat = Q := ⟨_, rfl⟩
  have zP : P.size ≤ 25 := by rw [← hP]; exact cutB_size p 25
  have zQ : Q.size ≤ 25 := by rw [← hQ]; exact cutB_size q 25
  rw [hP, hQ]
  clear hP hQ hp hq
  go_upto_region 4 with fail
  generalize w1.drew = w2 at *
  have kr := HR.out w2 P
  by_cases hp0 : errM P = 0
  case neg =>
    obtain ⟨E, hE⟩ : ∃ E, errM P = E := ⟨_, rfl⟩
    rw [hE] at hp0 kr
    have hbe : (E != 0) = true := by simpa using hp0
    have hbe2 : (E == 0) = false := by simpa using hp0
    clear hE hp0
    go_wp2_with fail
    refine kr.mono ?_
    rintro e w3 ⟨rfl, hb⟩
    clear kr
    go_wp2
    go_ret
    exact ⟨rfl, B1'.out.trans (hb.mono B1'.out.size)⟩
  case pos =>
  rw [hp0] at kr
  have HP0 := Lib.hid hp0
  clear hp0
  go_wp2_with fail
  refine kr.mono ?_
  rintro e w3 ⟨rfl, hb⟩
  have B3 := Lib.hid (B1'.out.trans (hb.mono B1'.out.size))
  have C03 := Lib.hid ((hb.cell (p := ⟨w.heap.size, 0, none⟩) hz1').trans C0'.out)
  have C13 := Lib.hid ((hb.cell (p := ⟨w.heap.size, 1, none⟩) hz1').trans C1'.out)
  have hz3 : w.heap.size < w3.heap.size := Nat.lt_of_lt_of_le hz1' hb.size
  clear kr hb B1' C0' C1' hz1'
  have kr := HR.out w3 Q
  by_cases hq0 : errM Q = 0
  case neg =>
    obtain ⟨E, hE⟩ : ∃ E, errM Q = E := ⟨_, rfl⟩
    rw [hE] at hq0 kr
    have hbe : (E != 0) = true := by simpa using hq0
    have hbe2 : (E == 0) = false := by simpa using hq0
    clear hE hq0
    go_wp2_with fail
    refine kr.mono ?_
    rintro e w4 ⟨rfl, hb⟩
    clear kr
    go_wp2
    go_ret
    exact ⟨rfl, B3.out.trans (hb.mono B3.out.size)⟩
  case pos =>
  rw [hq0] at kr
  have HQ0 := Lib.hid hq0
  clear hq0
  go_wp2_with fail
  refine kr.mono ?_
  rintro e w4 ⟨rfl, hb⟩
  have B4 := Lib.hid (B3.out.trans (hb.mono B3.out.size))
  have C04 := Lib.hid ((hb.cell (p := ⟨w.heap.size, 0, none⟩) hz3).trans C03.out)
  have C14 := Lib.hid ((hb.cell (p := ⟨w.heap.size, 1, none⟩) hz3).trans C13.out)
  have hz4 : w.heap.size < w4.heap.size := Nat.lt_of_lt_of_le hz3 hb.size
  clear kr hb B3 C03 C13 hz3
  go_upto_region 7 with fail
  have HJ := Lib.hid (joins HP0.out HQ0.out zP zQ)
  obtain ⟨O, hO⟩ : ∃ O, oneJ P Q = O := ⟨_, rfl⟩
  obtain ⟨T, hT⟩ : ∃ T, twoJ P Q = T := ⟨_, rfl⟩
  obtain ⟨R, hR⟩ : ∃ R, rowJ P = R := ⟨_, rfl⟩
  have eO : (⟨#[40]⟩ ++ P ++ ⟨#[41, 124, 40]⟩ ++ Q ++ ⟨#[41]⟩ : ByteArray) = O := hO
  have eT : (⟨#[40]⟩ ++ P ++ ⟨#[41, 40]⟩ ++ Q ++ ⟨#[41]⟩ : ByteArray) = T := hT
  have eR : (⟨#[40]⟩ ++ P ++ ⟨#[41, 42]⟩ : ByteArray) = R := hR
  rw [eO, eT, eR]
  have HO := Lib.hid hO
  have HT := Lib.hid hT
  have HW := Lib.hid hR
  clear eO eT eR hO hT hR
  rcases HJ.out with h3 | ⟨h0, t0, J⟩
  · rw [HO.out] at h3
    have kc := right_v h3 w4
    clear h3
    go_wp2_with fail
    refine kc.mono ?_
    rintro e w5 ⟨rfl, hb⟩
    clear kc
    go_wp2
    go_ret
    exact ⟨rfl, B4.out.trans (hb.mono B4.out.size)⟩
  rw [HO.out] at h0
  rw [HT.out] at t0
  have kc := right_v h0 w4
  have HT0 := Lib.hid t0
  have JJ := Lib.hid J
  clear h0 t0 J HJ
  go_wp2_with fail
  refine kc.mono ?_
  rintro e w5 ⟨rfl, hb⟩
  have B5 := Lib.hid (B4.out.trans (hb.mono B4.out.size))
  have C05 := Lib.hid ((hb.cell (p := ⟨w.heap.size, 0, none⟩) hz4).trans C04.out)
  have C15 := Lib.hid ((hb.cell (p := ⟨w.heap.size, 1, none⟩) hz4).trans C14.out)
  have hz5 : w.heap.size < w5.heap.size := Nat.lt_of_lt_of_le hz4 hb.size
  clear kc hb B4 C04 C14 hz4
  have kc := right_v HT0.out w5
  go_wp2_with fail
  refine kc.mono ?_
  rintro e w6 ⟨rfl, hb⟩
  have B6 := Lib.hid (B5.out.trans (hb.mono B5.out.size))
  have c06 := (hb.cell (p := ⟨w.heap.size, 0, none⟩) hz5).trans C05.out
  have c16 := (hb.cell (p := ⟨w.heap.size, 1, none⟩) hz5).trans C15.out
  clear kc hb B5 C05 C15 hz5
  go_upto_region 9 with fail
  go_quiet ((go_at_call 13; refine Calls.quiet_of_same (HE.out _ _ (by first | exact HX.out | exact HY.out))))
  clear c06 c16
  have zs := cutB_size x 60
  have zt := cutB_size y 60
  change (cutB x 60).size ≤ 60 at zs
  change (cutB y 60).size ≤ 60 at zt
  generalize cutB x 60 = s at *
  generalize cutB y 60 = t at *
  have J := JJ.out s t
  obtain ⟨jo, jw1, jw2, jr1, jr2, jq1, jq2⟩ := J
  rw [HO.out] at jo
  rw [HT.out] at jw1 jw2
  rw [HW.out] at jr1 jr2
  have ms : s.size ≤ maxLen := by unfold maxLen; omega
  have mt : t.size ≤ maxLen := by unfold maxLen; omega
  have mss : (s ++ s).size ≤ maxLen := by rw [ByteArray.size_append]; unfold maxLen; omega
  have mst : (s ++ t).size ≤ maxLen := by rw [ByteArray.size_append]; unfold maxLen; omega
  have m0 : (⟨#[]⟩ : ByteArray).size ≤ maxLen := by decide
  have Z := Lib.hid (And.intro ms (And.intro mt (And.intro mss (And.intro mst m0))))
  obtain ⟨a, ha⟩ : ∃ a, fitB P s = a := ⟨_, rfl⟩
  obtain ⟨b, hb⟩ : ∃ b, fitB Q t = b := ⟨_, rfl⟩
  obtain ⟨c, hc⟩ : ∃ c, fitB Q s = c := ⟨_, rfl⟩
  rw [ha, hc] at jo
  rw [ha, hb] at jw1
  rw [ha] at jr1 jq2
  have JA := Lib.hid ha
  have JB := Lib.hid hb
  have JC := Lib.hid hc
  have JO := Lib.hid jo
  have JW1 := Lib.hid jw1
  have JW2 := Lib.hid jw2
  have JR1 := Lib.hid jr1
  have JR2 := Lib.hid jr2
  have JQ1 := Lib.hid jq1
  have JQ2 := Lib.hid jq2
  clear ha hb hc jo jw1 jw2 jr1 jr2 jq1 jq2 ms mt mss mst m0 JJ HT0
  go_upto_region 10 with fail
  have B7 := Lib.hid (bl_drewN B6.out nq)
  clear B6
  generalize w6.drewN nq = w7 at *
  have kc := fits_v JA.out Z.out.1 w7
  go_wp2_with fail
  refine kc.mono ?_
  rintro e w8 ⟨rfl, hb⟩
  have B8 := Lib.hid (B7.out.trans (hb.mono B7.out.size))
  clear kc hb B7
  have kc := fits_v JB.out Z.out.2.1 w8
  go_wp2_with fail
  refine kc.mono ?_
  rintro e w9 ⟨rfl, hb⟩
  have B9 := Lib.hid (B8.out.trans (hb.mono B8.out.size))
  clear kc hb B8
  cases a with
  | true =>
    cases b with
    | true =>
      have kc := fits_v JO.out Z.out.1 w9
      go_wp2_with fail
      refine kc.mono ?_
      rintro e w10 ⟨rfl, hb⟩
      have B10 := Lib.hid (B9.out.trans (hb.mono B9.out.size))
      clear kc hb B9
      have kc := fits_v (JW1.out (by simp) (by simp)) Z.out.2.2.2.1 w10
      go_wp2_with fail
      refine kc.mono ?_
      rintro e w11 ⟨rfl, hb⟩
      have B11 := Lib.hid (B10.out.trans (hb.mono B10.out.size))
      clear kc hb B10
      have kc := fits_v (JR1.out (by simp)) Z.out.2.2.1 w11
      go_wp2_with fail
      refine kc.mono ?_
      rintro e w12 ⟨rfl, hb⟩
      have B12 := Lib.hid (B11.out.trans (hb.mono B11.out.size))
      clear kc hb B11
      have kc := fits_v JR2.out Z.out.2.2.2.2 w12
      go_wp2_with fail
      refine kc.mono ?_
      rintro e w13 ⟨rfl, hb⟩
      have B13 := Lib.hid (B12.out.trans (hb.mono B12.out.size))
      clear kc hb B12
      have kc := fits_v JQ1.out Z.out.2.2.2.2 w13
      go_wp2_with fail
      refine kc.mono ?_
      rintro e wl ⟨rfl, hb⟩
      have Bl := Lib.hid (B13.out.trans (hb.mono B13.out.size))
      clear kc hb B13
      go_upto_region 15 with fail
      go_loopw [14, 15] (fun vs vk wr => ∃ k : Nat, k ≤ s.size + 1 ∧ vk = .int .i64 k ∧ vs = .bool (someB P Q s k) ∧ Hid (Below w.heap.size w wr)) (fun _ vk _ => s.size + 1 - (intOf vk).toNat)
      case atStart => exact ⟨0, Nat.zero_le _, rfl, by simp [someB], Bl⟩
      case round =>
        obtain ⟨k, hk, rfl, rfl, HB⟩ := hrel
        clear Bl
        by_cases hks : k ≤ s.size
        · have hsb := someB_succ P Q s k
          obtain ⟨u, hu⟩ : ∃ u, fitB P (s.extract 0 k) = u := ⟨_, rfl⟩
          obtain ⟨v, hv⟩ : ∃ v, fitB Q (s.extract k s.size) = v := ⟨_, rfl⟩
          rw [hu, hv] at hsb
          have HS := Lib.hid hsb
          have kU := Lib.hid (fun W => fits_v hu (by rw [ByteArray.size_extract]; unfold maxLen; omega) W)
          have kV := Lib.hid (fun W => fits_v hv (by rw [ByteArray.size_extract]; unfold maxLen; omega) W)
          clear hsb hu hv
          generalize someB P Q s k = r at *
          cases r with
          | true =>
            go_wp2
            go_roundw
            case rel => exact ⟨k + 1, by omega, by go_num, by rw [HS.out]; rfl, HB⟩
            case measure => (simp [intOf]; try omega)
          | false =>
            have kc := kU.out wr
            go_wp2_with fail
            refine kc.mono ?_
            rintro e wm ⟨rfl, hb⟩
            have Bm := Lib.hid (HB.out.trans (hb.mono HB.out.size))
            clear kc hb HB
            cases u with
            | false =>
              go_wp2
              go_roundw
              case rel => exact ⟨k + 1, by omega, by go_num, by rw [HS.out]; rfl, Bm⟩
              case measure => (simp [intOf]; try omega)
            | true =>
              have kc := kV.out wm
              go_wp2_with fail
              refine kc.mono ?_
              rintro e wn ⟨rfl, hb⟩
              have Bn := Lib.hid (Bm.out.trans (hb.mono Bm.out.size))
              clear kc hb Bm
              go_wp2
              go_roundw
              case rel => exact ⟨k + 1, by omega, by go_num, by rw [HS.out]; rfl, Bn⟩
              case measure => (simp [intOf]; try omega)
        · obtain rfl : k = s.size + 1 := by omega
          generalize someB P Q s (s.size + 1) = r at *
          have kc := fits_v JW2.out Z.out.1 wr
          cases r with
          | true =>
            go_wp2_with fail
            refine kc.mono ?_
            rintro e wm ⟨rfl, hb⟩
            have Bm := Lib.hid (HB.out.trans (hb.mono HB.out.size))
            clear kc hb HB
            have kc := fits_v JQ2.out Z.out.1 wm
            go_wp2_with fail
            refine kc.mono ?_
            rintro e wn ⟨rfl, hb⟩
            have Bn := Lib.hid (Bm.out.trans (hb.mono Bm.out.size))
            clear kc hb Bm
            go_wp2
            go_ret
            exact ⟨rfl, Bn.out⟩
          | false =>
            go_wp2_with fail
            refine kc.mono ?_
            rintro e wm ⟨rfl, hb⟩
            have Bm := Lib.hid (HB.out.trans (hb.mono HB.out.size))
            clear kc hb HB
            have kc := fits_v JQ2.out Z.out.1 wm
            go_wp2_with fail
            refine kc.mono ?_
            rintro e wn ⟨rfl, hb⟩
            have Bn := Lib.hid (Bm.out.trans (hb.mono Bm.out.size))
            clear kc hb Bm
            go_wp2
            go_ret
            exact ⟨rfl, Bn.out⟩
    | false =>
      have kc := fits_v JO.out Z.out.1 w9
      go_wp2_with fail
      refine kc.mono ?_
      rintro e w10 ⟨rfl, hb⟩
      have B10 := Lib.hid (B9.out.trans (hb.mono B9.out.size))
      clear kc hb B9
      have kc := fits_v (JR1.out (by simp)) Z.out.2.2.1 w10
      go_wp2_with fail
      refine kc.mono ?_
      rintro e w11 ⟨rfl, hb⟩
      have B11 := Lib.hid (B10.out.trans (hb.mono B10.out.size))
      clear kc hb B10
      have kc := fits_v JR2.out Z.out.2.2.2.2 w11
      go_wp2_with fail
      refine kc.mono ?_
      rintro e w12 ⟨rfl, hb⟩
      have B12 := Lib.hid (B11.out.trans (hb.mono B11.out.size))
      clear kc hb B11
      have kc := fits_v JQ1.out Z.out.2.2.2.2 w12
      go_wp2_with fail
      refine kc.mono ?_
      rintro e wl ⟨rfl, hb⟩
      have Bl := Lib.hid (B12.out.trans (hb.mono B12.out.size))
      clear kc hb B12
      go_upto_region 15 with fail
      go_loopw [14, 15] (fun vs vk wr => ∃ k : Nat, k ≤ s.size + 1 ∧ vk = .int .i64 k ∧ vs = .bool (someB P Q s k) ∧ Hid (Below w.heap.size w wr)) (fun _ vk _ => s.size + 1 - (intOf vk).toNat)
      case atStart => exact ⟨0, Nat.zero_le _, rfl, by simp [someB], Bl⟩
      case round =>
        obtain ⟨k, hk, rfl, rfl, HB⟩ := hrel
        clear Bl
        by_cases hks : k ≤ s.size
        · have hsb := someB_succ P Q s k
          obtain ⟨u, hu⟩ : ∃ u, fitB P (s.extract 0 k) = u := ⟨_, rfl⟩
          obtain ⟨v, hv⟩ : ∃ v, fitB Q (s.extract k s.size) = v := ⟨_, rfl⟩
          rw [hu, hv] at hsb
          have HS := Lib.hid hsb
          have kU := Lib.hid (fun W => fits_v hu (by rw [ByteArray.size_extract]; unfold maxLen; omega) W)
          have kV := Lib.hid (fun W => fits_v hv (by rw [ByteArray.size_extract]; unfold maxLen; omega) W)
          clear hsb hu hv
          generalize someB P Q s k = r at *
          cases r with
          | true =>
            go_wp2
            go_roundw
            case rel => exact ⟨k + 1, by omega, by go_num, by rw [HS.out]; rfl, HB⟩
            case measure => (simp [intOf]; try omega)
          | false =>
            have kc := kU.out wr
            go_wp2_with fail
            refine kc.mono ?_
            rintro e wm ⟨rfl, hb⟩
            have Bm := Lib.hid (HB.out.trans (hb.mono HB.out.size))
            clear kc hb HB
            cases u with
            | false =>
              go_wp2
              go_roundw
              case rel => exact ⟨k + 1, by omega, by go_num, by rw [HS.out]; rfl, Bm⟩
              case measure => (simp [intOf]; try omega)
            | true =>
              have kc := kV.out wm
              go_wp2_with fail
              refine kc.mono ?_
              rintro e wn ⟨rfl, hb⟩
              have Bn := Lib.hid (Bm.out.trans (hb.mono Bm.out.size))
              clear kc hb Bm
              go_wp2
              go_roundw
              case rel => exact ⟨k + 1, by omega, by go_num, by rw [HS.out]; rfl, Bn⟩
              case measure => (simp [intOf]; try omega)
        · obtain rfl : k = s.size + 1 := by omega
          generalize someB P Q s (s.size + 1) = r at *
          have kc := fits_v JW2.out Z.out.1 wr
          cases r with
          | true =>
            go_wp2_with fail
            refine kc.mono ?_
            rintro e wm ⟨rfl, hb⟩
            have Bm := Lib.hid (HB.out.trans (hb.mono HB.out.size))
            clear kc hb HB
            have kc := fits_v JQ2.out Z.out.1 wm
            go_wp2_with fail
            refine kc.mono ?_
            rintro e wn ⟨rfl, hb⟩
            have Bn := Lib.hid (Bm.out.trans (hb.mono Bm.out.size))
            clear kc hb Bm
            go_wp2
            go_ret
            exact ⟨rfl, Bn.out⟩
          | false =>
            go_wp2_with fail
            refine kc.mono ?_
            rintro e wm ⟨rfl, hb⟩
            have Bm := Lib.hid (HB.out.trans (hb.mono HB.out.size))
            clear kc hb HB
            have kc := fits_v JQ2.out Z.out.1 wm
            go_wp2_with fail
            refine kc.mono ?_
            rintro e wn ⟨rfl, hb⟩
            have Bn := Lib.hid (Bm.out.trans (hb.mono Bm.out.size))
            clear kc hb Bm
            go_wp2
            go_ret
            exact ⟨rfl, Bn.out⟩
  | false =>
    cases c with
    | true =>
      have kc := fits_v JO.out Z.out.1 w9
      go_wp2_with fail
      refine kc.mono ?_
      rintro e w10 ⟨rfl, hb⟩
      have B10 := Lib.hid (B9.out.trans (hb.mono B9.out.size))
      clear kc hb B9
      have kc := fits_v JC.out Z.out.1 w10
      go_wp2_with fail
      refine kc.mono ?_
      rintro e w11 ⟨rfl, hb⟩
      have B11 := Lib.hid (B10.out.trans (hb.mono B10.out.size))
      clear kc hb B10
      have kc := fits_v JR2.out Z.out.2.2.2.2 w11
      go_wp2_with fail
      refine kc.mono ?_
      rintro e w12 ⟨rfl, hb⟩
      have B12 := Lib.hid (B11.out.trans (hb.mono B11.out.size))
      clear kc hb B11
      have kc := fits_v JQ1.out Z.out.2.2.2.2 w12
      go_wp2_with fail
      refine kc.mono ?_
      rintro e wl ⟨rfl, hb⟩
      have Bl := Lib.hid (B12.out.trans (hb.mono B12.out.size))
      clear kc hb B12
      go_upto_region 15 with fail
      go_loopw [14, 15] (fun vs vk wr => ∃ k : Nat, k ≤ s.size + 1 ∧ vk = .int .i64 k ∧ vs = .bool (someB P Q s k) ∧ Hid (Below w.heap.size w wr)) (fun _ vk _ => s.size + 1 - (intOf vk).toNat)
      case atStart => exact ⟨0, Nat.zero_le _, rfl, by simp [someB], Bl⟩
      case round =>
        obtain ⟨k, hk, rfl, rfl, HB⟩ := hrel
        clear Bl
        by_cases hks : k ≤ s.size
        · have hsb := someB_succ P Q s k
          obtain ⟨u, hu⟩ : ∃ u, fitB P (s.extract 0 k) = u := ⟨_, rfl⟩
          obtain ⟨v, hv⟩ : ∃ v, fitB Q (s.extract k s.size) = v := ⟨_, rfl⟩
          rw [hu, hv] at hsb
          have HS := Lib.hid hsb
          have kU := Lib.hid (fun W => fits_v hu (by rw [ByteArray.size_extract]; unfold maxLen; omega) W)
          have kV := Lib.hid (fun W => fits_v hv (by rw [ByteArray.size_extract]; unfold maxLen; omega) W)
          clear hsb hu hv
          generalize someB P Q s k = r at *
          cases r with
          | true =>
            go_wp2
            go_roundw
            case rel => exact ⟨k + 1, by omega, by go_num, by rw [HS.out]; rfl, HB⟩
            case measure => (simp [intOf]; try omega)
          | false =>
            have kc := kU.out wr
            go_wp2_with fail
            refine kc.mono ?_
            rintro e wm ⟨rfl, hb⟩
            have Bm := Lib.hid (HB.out.trans (hb.mono HB.out.size))
            clear kc hb HB
            cases u with
            | false =>
              go_wp2
              go_roundw
              case rel => exact ⟨k + 1, by omega, by go_num, by rw [HS.out]; rfl, Bm⟩
              case measure => (simp [intOf]; try omega)
            | true =>
              have kc := kV.out wm
              go_wp2_with fail
              refine kc.mono ?_
              rintro e wn ⟨rfl, hb⟩
              have Bn := Lib.hid (Bm.out.trans (hb.mono Bm.out.size))
              clear kc hb Bm
              go_wp2
              go_roundw
              case rel => exact ⟨k + 1, by omega, by go_num, by rw [HS.out]; rfl, Bn⟩
              case measure => (simp [intOf]; try omega)
        · obtain rfl : k = s.size + 1 := by omega
          generalize someB P Q s (s.size + 1) = r at *
          have kc := fits_v JW2.out Z.out.1 wr
          cases r with
          | true =>
            go_wp2_with fail
            refine kc.mono ?_
            rintro e wm ⟨rfl, hb⟩
            have Bm := Lib.hid (HB.out.trans (hb.mono HB.out.size))
            clear kc hb HB
            have kc := fits_v JQ2.out Z.out.1 wm
            go_wp2_with fail
            refine kc.mono ?_
            rintro e wn ⟨rfl, hb⟩
            have Bn := Lib.hid (Bm.out.trans (hb.mono Bm.out.size))
            clear kc hb Bm
            go_wp2
            go_ret
            exact ⟨rfl, Bn.out⟩
          | false =>
            go_wp2_with fail
            refine kc.mono ?_
            rintro e wm ⟨rfl, hb⟩
            have Bm := Lib.hid (HB.out.trans (hb.mono HB.out.size))
            clear kc hb HB
            have kc := fits_v JQ2.out Z.out.1 wm
            go_wp2_with fail
            refine kc.mono ?_
            rintro e wn ⟨rfl, hb⟩
            have Bn := Lib.hid (Bm.out.trans (hb.mono Bm.out.size))
            clear kc hb Bm
            go_wp2
            go_ret
            exact ⟨rfl, Bn.out⟩
    | false =>
      have kc := fits_v JO.out Z.out.1 w9
      go_wp2_with fail
      refine kc.mono ?_
      rintro e w10 ⟨rfl, hb⟩
      have B10 := Lib.hid (B9.out.trans (hb.mono B9.out.size))
      clear kc hb B9
      have kc := fits_v JC.out Z.out.1 w10
      go_wp2_with fail
      refine kc.mono ?_
      rintro e w11 ⟨rfl, hb⟩
      have B11 := Lib.hid (B10.out.trans (hb.mono B10.out.size))
      clear kc hb B10
      have kc := fits_v JR2.out Z.out.2.2.2.2 w11
      go_wp2_with fail
      refine kc.mono ?_
      rintro e w12 ⟨rfl, hb⟩
      have B12 := Lib.hid (B11.out.trans (hb.mono B11.out.size))
      clear kc hb B11
      have kc := fits_v JQ1.out Z.out.2.2.2.2 w12
      go_wp2_with fail
      refine kc.mono ?_
      rintro e wl ⟨rfl, hb⟩
      have Bl := Lib.hid (B12.out.trans (hb.mono B12.out.size))
      clear kc hb B12
      go_upto_region 15 with fail
      go_loopw [14, 15] (fun vs vk wr => ∃ k : Nat, k ≤ s.size + 1 ∧ vk = .int .i64 k ∧ vs = .bool (someB P Q s k) ∧ Hid (Below w.heap.size w wr)) (fun _ vk _ => s.size + 1 - (intOf vk).toNat)
      case atStart => exact ⟨0, Nat.zero_le _, rfl, by simp [someB], Bl⟩
      case round =>
        obtain ⟨k, hk, rfl, rfl, HB⟩ := hrel
        clear Bl
        by_cases hks : k ≤ s.size
        · have hsb := someB_succ P Q s k
          obtain ⟨u, hu⟩ : ∃ u, fitB P (s.extract 0 k) = u := ⟨_, rfl⟩
          obtain ⟨v, hv⟩ : ∃ v, fitB Q (s.extract k s.size) = v := ⟨_, rfl⟩
          rw [hu, hv] at hsb
          have HS := Lib.hid hsb
          have kU := Lib.hid (fun W => fits_v hu (by rw [ByteArray.size_extract]; unfold maxLen; omega) W)
          have kV := Lib.hid (fun W => fits_v hv (by rw [ByteArray.size_extract]; unfold maxLen; omega) W)
          clear hsb hu hv
          generalize someB P Q s k = r at *
          cases r with
          | true =>
            go_wp2
            go_roundw
            case rel => exact ⟨k + 1, by omega, by go_num, by rw [HS.out]; rfl, HB⟩
            case measure => (simp [intOf]; try omega)
          | false =>
            have kc := kU.out wr
            go_wp2_with fail
            refine kc.mono ?_
            rintro e wm ⟨rfl, hb⟩
            have Bm := Lib.hid (HB.out.trans (hb.mono HB.out.size))
            clear kc hb HB
            cases u with
            | false =>
              go_wp2
              go_roundw
              case rel => exact ⟨k + 1, by omega, by go_num, by rw [HS.out]; rfl, Bm⟩
              case measure => (simp [intOf]; try omega)
            | true =>
              have kc := kV.out wm
              go_wp2_with fail
              refine kc.mono ?_
              rintro e wn ⟨rfl, hb⟩
              have Bn := Lib.hid (Bm.out.trans (hb.mono Bm.out.size))
              clear kc hb Bm
              go_wp2
              go_roundw
              case rel => exact ⟨k + 1, by omega, by go_num, by rw [HS.out]; rfl, Bn⟩
              case measure => (simp [intOf]; try omega)
        · obtain rfl : k = s.size + 1 := by omega
          generalize someB P Q s (s.size + 1) = r at *
          have kc := fits_v JW2.out Z.out.1 wr
          cases r with
          | true =>
            go_wp2_with fail
            refine kc.mono ?_
            rintro e wm ⟨rfl, hb⟩
            have Bm := Lib.hid (HB.out.trans (hb.mono HB.out.size))
            clear kc hb HB
            have kc := fits_v JQ2.out Z.out.1 wm
            go_wp2_with fail
            refine kc.mono ?_
            rintro e wn ⟨rfl, hb⟩
            have Bn := Lib.hid (Bm.out.trans (hb.mono Bm.out.size))
            clear kc hb Bm
            go_wp2
            go_ret
            exact ⟨rfl, Bn.out⟩
          | false =>
            go_wp2_with fail
            refine kc.mono ?_
            rintro e wm ⟨rfl, hb⟩
            have Bm := Lib.hid (HB.out.trans (hb.mono HB.out.size))
            clear kc hb HB
            have kc := fits_v JQ2.out Z.out.1 wm
            go_wp2_with fail
            refine kc.mono ?_
            rintro e wn ⟨rfl, hb⟩
            have Bn := Lib.hid (Bm.out.trans (hb.mono Bm.out.size))
            clear kc hb Bm
            go_wp2
            go_ret
            exact ⟨rfl, Bn.out⟩
end lawJoins
end Go.Proofs.Ytlepnnbgecneeaa
