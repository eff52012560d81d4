/- PatternNil: the walk. -/
import Derived.Test.YtlepnnbgecneeaaPatLives
import Derived.Test.YtlepnnbgecneeaaHeld
import Derived.Lib.Strings
namespace Go.Proofs.Ytlepnnbgecneeaa
open Go.RowKit

def cutB (s : ByteArray) (n : Int) : ByteArray := s.extract 0 (min (s.size : Int) n).toNat
theorem cutB_size (s : ByteArray) (n : Nat) : (cutB s n).size ≤ n := by
  unfold cutB
  rw [ByteArray.size_extract]; omega
set_option maxHeartbeats 400000 in
theorem early5_is (s : ByteArray) (w : World) (hs : s.size ≤ maxLen) :
    Calls Try.prog 13 #[.string s] w fun e w' => e = .returned (.string (cutB s 60)) ∧ w' = w := by
  unfold maxLen at hs
  go_enter Try.func13, Try.ntmps13
  go_wp2
  go_ret
  exact ⟨rfl, rfl⟩
namespace lawNil
set_option maxHeartbeats 3200000 in
set_option maxRecDepth 100000 in
theorem walk (p s : ByteArray) (w : World) (hp : p.size ≤ maxLen) (hs : s.size ≤ maxLen) :
    Calls Try.prog 6 #[.string p, .string s] w fun e w' => e = .returned (.bool true) ∧ Below w.heap.size w w' := by
  unfold maxLen at hp
  have kl := lives_is w
  have ke := fun W => early5_is s W hs
  have kn := fun W => least_nil W
  have kf := fun W => pfits_nil W (cutB s 60)
  have kt := fun W => text_nil W
  have kr := fun W (q : ByteArray) => read_is q W
  have kR := fun W (q : ByteArray) => right_is q W
  have kF := fun W (q : ByteArray) => tfits_is q (cutB s 60) W (Nat.le_trans (cutB_size s 60) (by decide))
  have HE := Lib.hid ke
  have HN := Lib.hid kn
  have HF := Lib.hid kf
  have HT := Lib.hid kt
  have HR := Lib.hid kr
  have HRR := Lib.hid kR
  have HFF := Lib.hid kF
  clear ke kn kf kt kr kR kF
  go_enter Try.func6, Try.ntmps6
  go_wp2_with fail
  refine kl.mono ?_
  rintro e w1 ⟨rfl, hb1⟩
  have kn1 := HN.out w1
  clear kl
  go_wp2_with fail
  refine kn1.mono ?_
  rintro e w2 ⟨rfl, hww⟩
  obtain rfl := hww.symm
  clear kn1
  have hm0 : (0 : Int) ≤ min (p.size : Int) 120 := by omega
  have hm1 : min (p.size : Int) 120 ≤ (p.size : Int) := by omega
  go_upto_region 5 with fail
  refine wp_region_held_drew (S := (fun _ => True)) (by kernel_rfl) trivial (fun hHeld => ?_)
  refine held_take (i := 0) (v := ?_) rfl rfl (by kernel_rfl) (by kernel_rfl) (by kernel_rfl) (fun _ _ _ h => h) (by rfl) hHeld ?_ ?_
  rotate_left
  · rintro wh _
    go_simp
    (try with_reducible rfl)
  simp only [Act.put, List.setIfInBounds_toArray, List.set_cons_zero, List.set_cons_succ]
  refine held_take (i := 1) (v := ?_) rfl rfl (by kernel_rfl) (by kernel_rfl) (by kernel_rfl) (fun _ _ _ h => h) (by rfl) hHeld ?_ ?_
  rotate_left
  · rintro wh _
    go_simp
    (try with_reducible rfl)
  simp only [Act.put, List.setIfInBounds_toArray, List.set_cons_zero, List.set_cons_succ]
  refine held_take (i := 2) (v := ?_) rfl rfl (by kernel_rfl) (by kernel_rfl) (by kernel_rfl) (fun _ _ _ h => h) (by rfl) hHeld ?_ ?_
  rotate_left
  · rintro wh _
    go_simp
    (try with_reducible rfl)
  simp only [Act.put, List.setIfInBounds_toArray, List.set_cons_zero, List.set_cons_succ]
  refine held_take (i := 3) (v := ?_) rfl rfl (by kernel_rfl) (by kernel_rfl) (by kernel_rfl) (fun _ _ _ h => h) (by rfl) hHeld ?_ ?_
  rotate_left
  · rintro wh _
    go_simp
    (try with_reducible rfl)
  simp only [Act.put, List.setIfInBounds_toArray, List.set_cons_zero, List.set_cons_succ]
  refine held_take (i := 4) (v := ?_) rfl rfl (by kernel_rfl) (by kernel_rfl) (by kernel_rfl) (fun _ _ _ h => h) (by rfl) hHeld ?_ ?_
  rotate_left
  · rintro wh _
    go_simp
    (try with_reducible rfl)
  simp only [Act.put, List.setIfInBounds_toArray, List.set_cons_zero, List.set_cons_succ]
  refine held_take (i := 5) (v := ?_) rfl rfl (by kernel_rfl) (by kernel_rfl) (by kernel_rfl) (fun _ _ _ h => h) (by rfl) hHeld ?_ ?_
  rotate_left
  · rintro wh _
    go_simp
    (try with_reducible rfl)
  simp only [Act.put, List.setIfInBounds_toArray, List.set_cons_zero, List.set_cons_succ]
  refine held_call (i := 6) rfl (by kernel_rfl) (by rfl) (fun K hK => ?_)
  (go_simp; go_at_call 13; refine (HE.out _).mono ?_; rintro e wz ⟨rfl, hwz⟩; obtain rfl := hwz.symm; clear hwz)
  refine hK.out _ _ trivial (fun hHeld => ?_)
  clear hK K
  (try simp only [Act.put, List.setIfInBounds_toArray, List.set_cons_zero, List.set_cons_succ])
  refine held_take (i := 7) (v := ?_) rfl rfl (by kernel_rfl) (by kernel_rfl) (by kernel_rfl) (fun _ _ _ h => h) (by rfl) hHeld ?_ ?_
  rotate_left
  · rintro wh _
    go_simp
    (try with_reducible rfl)
  simp only [Act.put, List.setIfInBounds_toArray, List.set_cons_zero]
  refine held_take (i := 8) (v := ?_) rfl rfl (by kernel_rfl) (by kernel_rfl) (by kernel_rfl) (fun _ _ _ h => h) (by rfl) hHeld ?_ ?_
  rotate_left
  · rintro wh _
    go_simp
    (try with_reducible rfl)
  simp only [Act.put, List.setIfInBounds_toArray, List.set_cons_zero, List.set_cons_succ]
  refine wpAnyH_done (by kernel_rfl) ?_ _
  have hb2 : Below w.heap.size w w1.drew := hb1.drew
  clear hHeld hm0 hm1 HE HN
  obtain ⟨q, hq⟩ : ∃ q, p.extract 0 (min (p.size : Int) 120).toNat = q := ⟨_, rfl⟩
  rw [hq]
  generalize cutB s 60 = t at *
  clear hq hp hs hb1
  go_upto_region 6 with fail
  generalize w1.drew = w2 at *
  have kr := HR.out w2 q
  go_wp2_with fail
  refine kr.mono ?_
  rintro e w3 ⟨hb3, ⟨hne, rfl⟩ | ⟨he, a, rfl, hpa, _⟩⟩
  · have B3 := hb2.trans (hb3.mono hb2.size)
    have kF := HFF.out w3 q
    obtain ⟨E, hE⟩ : ∃ E, errM q = E := ⟨_, rfl⟩
    rw [hE] at hne
    have hbe : (E != 0) = true := by simpa using hne
    have hbe2 : (E == 0) = false := by simpa using hne
    have HNE := Lib.hid hne
    have HEQ := Lib.hid hE
    clear kr hb2 hb3 hne hE
    rw [HEQ.out]
    go_wp2_with fail
    refine kF.mono ?_
    rintro e w4 ⟨b, rfl, h1, hb4⟩
    have hbf : b = false := lb_false h1 (fun h => HNE.out (by rw [← HEQ.out]; exact h.1))
    subst hbf
    have B4 := B3.trans (hb4.mono B3.size)
    have k5 := HF.out w4
    clear kF B3 hb4 h1
    go_wp2_with fail
    refine k5.mono ?_
    rintro e w5 ⟨rfl, hww⟩
    obtain rfl := hww.symm
    have k6 := HT.out w4
    clear k5
    go_wp2_with fail
    refine k6.mono ?_
    rintro e w5 ⟨rfl, hww⟩
    obtain rfl := hww.symm
    have k7 := HRR.out w4 q
    rw [HEQ.out] at k7
    clear k6
    go_wp2_with fail
    refine k7.mono ?_
    rintro e w5 ⟨rfl, hb5⟩
    have B5 := B4.trans (hb5.mono B4.size)
    clear k7 B4 hb5
    go_wp2
    go_ret
    exact ⟨rfl, B5⟩
  · have B3 := hb2.trans (hb3.mono hb2.size)
    have k5 := HF.out w3
    have HEQ := Lib.hid he
    clear kr hb2 hb3 he hpa
    go_wp2_with fail
    refine k5.mono ?_
    rintro e w5 ⟨rfl, hww⟩
    obtain rfl := hww.symm
    have k6 := HT.out w3
    clear k5
    go_wp2_with fail
    refine k6.mono ?_
    rintro e w5 ⟨rfl, hww⟩
    obtain rfl := hww.symm
    have k7 := HRR.out w3 q
    rw [HEQ.out] at k7
    clear k6
    go_wp2_with fail
    refine k7.mono ?_
    rintro e w5 ⟨rfl, hb5⟩
    have B5 := B3.trans (hb5.mono B3.size)
    clear k7 B3 hb5
    go_wp2
    go_ret
    exact ⟨rfl, B5⟩
end lawNil
end Go.Proofs.Ytlepnnbgecneeaa
