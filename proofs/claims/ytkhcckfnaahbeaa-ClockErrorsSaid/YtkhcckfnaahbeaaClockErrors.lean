/- ClockErrors: the walk. -/
import Derived.Test.YtkhcckfnaahbeaaClkLaw
namespace Go.Proofs.Ytkhcckfnaahbeaa.lawErrors
open Go.RowKit Go.Proofs.Ytkhcckfnaahbeaa

set_option maxHeartbeats 3200000 in
set_option maxRecDepth 100000 in
theorem walk (a b c : Int) (v0 : Value) (l : List Stp) (odd : Int) (w : World) (hA : ArgStps w v0 l) :
    Calls Try.prog 6 #[.agg #[.int .i64 a, .int .i64 b, .int .i64 c], v0, .int .i64 odd] w fun e w' => e = .returned (.bool true) ∧ Below w.heap.size w w' := by
  have HIDS := Lib.hid (early_ids hA)
  have HLE := Lib.hid (early_le l)
  go_enter Try.func6, Try.ntmps6
  go_wp2_with fail
  refine (lives_any _).mono ?_
  rintro e w1 ⟨rfl, hb1⟩
  obtain ⟨g0, g1, g2, _, hb⟩ := box3 _ _ _ _ _ _ hb1
  clear hb1
  go_wp2_with fail
  refine (new_any a b c _).mono ?_
  rintro e w2 ⟨p, rfl, hC, hp, hb2⟩
  have hCs : Cs w p (newM a b c) w2 := ⟨hC.low hb.size, hb.trans (hb2.mono hb.size)⟩
  have hS0 := newM_ok a b c
  have hN0 : (newM a b c).now = 0 := rfl
  clear g0 g1 g2 hC hb2 hb
  go_wp2_with fail
  refine (early_any w2 (hA.later hCs.2)).mono ?_
  rintro e w3 ⟨v, rfl, hst, hfr, hb3⟩
  have hfar : v.ownBlock ≠ some p := fun e => by have := hfr p e; omega
  have hH : Hd w p v (earlyL l) (newM a b c) w3 := ⟨hCs.later hb3, hst⟩
  obtain ⟨av, cv, rfl, hcv, _⟩ := hst
  clear hA hCs hfr hb3 hp
  generalize earlyL l = L at *
  generalize newM a b c = S0 at *
  go_wp2
  go_loopw [8, 9] (fun vn vi wr => ∃ (k : Nat) (N : Int) (S : Ck), k ≤ L.length ∧ vi = .int .i64 k ∧ vn = .int .i64 N ∧ 0 ≤ N ∧ N ≤ k * 60 ∧ S.now = N ∧ S.Ok ∧ Hd w p (.slice av L.length cv) L S wr) (fun _ vi _ => L.length - (intOf vi).toNat)
  case atStart => exact ⟨0, 0, S0, Nat.zero_le _, rfl, rfl, Int.le_refl _, by omega, hN0, hS0, hH⟩
  case round =>
    obtain ⟨k, N, S, hk, rfl, rfl, hn0, hn1, hSN, hS, hHr⟩ := hrel
    have hL80 := HLE.out
    by_cases hkl : k < L.length
    · obtain ⟨s, hse⟩ : ∃ s, L[k] = s := ⟨_, rfl⟩
      obtain ⟨hids, hid8⟩ := HIDS.out s (by rw [← hse]; exact List.getElem_mem hkl)
      obtain ⟨_, _, hv, _, hcx⟩ := hHr.2
      cases hv
      obtain ⟨bv, ov, rfl, hbv, hcells⟩ := hcx (by omega)
      obtain ⟨d0, d1, d2⟩ := hcells k hkl
      rw [hse] at d0 d1 d2
      obtain ⟨M, hM, hM60⟩ := uintMod s.by_ 60 (by decide) (by decide)
      obtain ⟨M2, hM2, hM100⟩ := uintMod odd 100 (by decide) (by decide)
      have HSE := Lib.hid hse
      have hSN' := Lib.hid hSN
      have hok : okM S (N + M) = true := by simp only [okM, decide_eq_true_eq]; omega
      have S1ok := leftM_ok hS (N + M) s.ids (by omega)
      have S1n : Hid ((leftM S (N + M) s.ids).now = N + M) := Lib.hid (leftM_now hok)
      have k1 := ask_arg hHr.1 (N + M) s.ids s.v hids (by omega) hS
      have hst := hHr.2
      clear hcells hse hcx hSN hok
      generalize leftM S (N + M) s.ids = S1 at *
      have hb1 : okM S1 (N + M - 1 - M2) = false := by have := S1n.out; simp only [okM, decide_eq_false_iff_not]; omega
      have hb2 : okM S1 (1099511627777 + M2) = false := by simp only [okM, decide_eq_false_iff_not]; omega
      have HB1 := Lib.hid hb1
      have HB2 := Lib.hid hb2
      clear hb1 hb2
      go_wp2_with fail
      refine k1.mono ?_
      rintro e w4 ⟨rfl, c4, hg4⟩
      have h4 : Hd w p _ L S1 w4 := hHr.ask hfar c4 hg4
      clear k1 c4 hg4 hHr hst d0 d1 d2
      have k2 := last_any S1 w4 w.heap.size p h4.1.1
      go_wp2_with fail
      refine k2.mono ?_
      rintro e w5 ⟨rfl, rfl⟩
      have h5 := h4.later (alloc_below w5 (.cells #[U 9] 45))
      have k3 := next_any S1 [9] _ w.heap.size p _ h5.1.1 (one_ids w5 9) (by simp) S1ok
      clear k2 h4
      go_wp2_with fail
      refine k3.mono ?_
      rintro e w6 ⟨rfl, hb6⟩
      have h6 := h5.later hb6
      obtain ⟨_, _, d2⟩ := h6.2.at3 hkl HSE.out
      have k4 := due_any S1 odd s.ids w6 w.heap.size p s.v h6.1.1 (hids.later h6.1.2) (by omega) S1ok
      clear k3 h5 hb6
      go_wp2_with fail
      refine k4.mono ?_
      rintro e w7 ⟨rfl, hb7⟩
      have h7 := h6.later hb7
      obtain ⟨_, _, d2'⟩ := h7.2.at3 hkl HSE.out
      have k5 := ask_arg h7.1 (N + M - 1 - M2) s.ids s.v hids (by omega) S1ok
      rw [leftM_bad HB1.out, show askM S1 (N + M - 1 - M2) s.ids = false by (unfold askM; rw [HB1.out]; rfl), show errM S1 (N + M - 1 - M2) = 9 by (unfold errM; rw [HB1.out]; rfl)] at k5
      clear k4 h6 hb7 d2
      go_wp2_with fail
      refine k5.mono ?_
      rintro e w8 ⟨rfl, c8, hg8⟩
      have h8 : Hd w p _ L S1 w8 := h7.ask hfar c8 hg8
      have k6 := ask_cs h8.1 (1099511627777 + M2) [] (.slice none 0 0) (IdsAt.nil _) (fun h => absurd rfl h) (by simp) S1ok
      rw [leftM_bad HB2.out, show askM S1 (1099511627777 + M2) [] = false by (unfold askM; rw [HB2.out]; rfl), show errM S1 (1099511627777 + M2) = 9 by (unfold errM; rw [HB2.out]; rfl)] at k6
      clear k5 h7 c8 hg8 d2'
      go_wp2_with fail
      refine k6.mono ?_
      rintro e w9 ⟨rfl, c9, hg9⟩
      have h9 : Hd w p _ L S1 w9 := h8.ask hfar c9 hg9
      have k7 := last_any S1 w9 w.heap.size p h9.1.1
      clear k6 h8 c9 hg9
      go_wp2_with fail
      refine k7.mono ?_
      rintro e w10 ⟨rfl, rfl⟩
      have h10 := h9.later (alloc_below w10 (.cells #[U 9] 45))
      have k8 := next_any S1 [9] _ w.heap.size p _ h10.1.1 (one_ids w10 9) (by simp) S1ok
      clear k7 h9
      go_wp2_with fail
      refine k8.mono ?_
      rintro e w11 ⟨rfl, hb11⟩
      have h11 := h10.later hb11
      have k9 := now_any S1 w11 w.heap.size p h11.1.1
      rw [S1n.out] at k9
      clear k8 h10 hb11
      go_wp2_with fail
      refine k9.mono ?_
      rintro e w12 ⟨rfl, rfl⟩
      clear k9
      go_wp2
      go_roundw
      case rel => exact ⟨k + 1, N + M, S1, by omega, by go_num, rfl, by omega, by omega, S1n.out, S1ok, h11⟩
      case measure => simp [intOf]; omega
    · clear hSN
      go_wp2
      go_ret
      exact ⟨rfl, hHr.1.2⟩
end Go.Proofs.Ytkhcckfnaahbeaa.lawErrors
