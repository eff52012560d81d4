/- WordBack: the walk. -/
import Derived.Test.YtpoaoicehoihdaaDoorLives
import Derived.Test.YtpoaoicehoihdaaDoorWordLaw
import Derived.Test.YtpoaoicehoihdaaDoorSame
import Derived.Test.YtpoaoicehoihdaaDoorEarly
import Derived.Test.YtpoaoicehoihdaaDoorNames
namespace Go.Proofs.YtpoaoicehoihdaaDoor.lawBack
open Go.RowKit

/-- the part behind the words: names, their text, and the names again -/
theorem tail_some (a : ByteArray) (ha : a.size ≤ 500) {ns : List (List UInt8)} (h : namesL (B a) = some ns) : NamesOk ns ∧ ns.length ≤ 501 ∧ namesL (namesT ns) = some ns := by
  have h1 := namesL_ok h
  have h2 := namesL_len h
  rw [len_B] at h2
  exact ⟨h1, by omega, namesL_back h1⟩

set_option maxHeartbeats 800000 in
set_option maxRecDepth 100000 in
theorem walk (a b : ByteArray) (w : World) (hsh : w.ShapedOpen Tryd.prog) (ha : a.size ≤ maxLen) (hb : b.size ≤ maxLen) :
    Calls Tryd.prog 8 #[.string a, .string b] w fun e w' => e = .returned (.bool true) ∧ Below w.heap.size w w' := by
  have hM := MaxAt.of_shaped hsh
  clear hsh
  go_enter Tryd.func8, Tryd.ntmps8
  go_wp2_with (go_at_call 10; refine (lives_any _).mono ?_; rintro e w1 ⟨rfl, hb1⟩)
  refine (early_any a w1 ha).mono ?_
  rintro e w1' ⟨s, rfl, hs, _, rfl⟩
  go_wp2_with fail
  refine (split_calls s w1 (by omega)).mono ?_
  rintro e w2 (⟨v2, l, rfl, hl, hv2, hb2⟩ | ⟨rfl, hl, hb2⟩)
  · have hb12 := hb1.trans (hb2.mono hb1.size)
    have hl1 := splitL_len hl
    rw [List.length_map, len_B] at hl1
    have hok := splitL_ok hl
    have hlen : (Lib.join (l.map B) [32]).length ≤ 2000 := by
      have h1 := splitL_sum hl
      have h3 := join_len (l.map B)
      rw [len_B] at h1
      rw [List.length_map] at h3
      omega
    have hS2 : StrsAt w2 v2 l := StrsAt.own hv2 (by omega)
    have hJ := join_any w2 hS2 (by omega)
    have eJ : joinR (l.map B) = (Lib.join (l.map B) [32], 0) := by rw [joinR, if_pos (splitL_join hok)]
    rw [eJ] at hJ
    clear eJ
    go_wp2_with fail
    refine hJ.mono ?_
    rintro e w3 ⟨t, rfl, ht, hb3⟩
    have hb13 := hb12.trans (hb3.mono hb12.size)
    have hsp := split_some t w3 (by rw [← len_B, ht]; omega) (l := l.map B) (by rw [ht]; exact splitL_join hok)
    clear hJ ht hlen hok hl hv2
    go_wp2_with fail
    refine hsp.mono ?_
    rintro e w4 ⟨v4, m, rfl, hm, hv4, hb4⟩
    obtain rfl : m = l := mapB_inj hm
    have hb14 := hb13.trans (hb4.mono hb13.size)
    have hS4 : StrsAt w4 v4 m := StrsAt.own hv4 (by omega)
    have hS4' := (hS2.later hb3).later hb4
    clear hsp hm hv4 hS2
    go_wp2_with fail
    refine (early_any b w4 hb).mono ?_
    rintro e w4' ⟨n, rfl, hn, _, rfl⟩
    have hM4 := hM.later hb14
    go_wp2_with fail
    refine (names_any n w4 hM4 (by omega)).mono ?_
    rintro e w5 (⟨v5, ns, rfl, hns, hS5, hb5⟩ | ⟨rfl, hns, hb5⟩)
    · have hb15 := hb14.trans (hb5.mono hb14.size)
      obtain ⟨hok, hnl, hback⟩ := tail_some n hn hns
      have hS45 := hS4.later hb5
      have hS45' := hS4'.later hb5
      have hM5 := hM4.later hb5
      rw [List.length_map] at hnl
      have hT := namesText_any w5 hS5 (by have := (namesT_len hok.all).1; rw [List.length_map] at this; omega)
      have hTl := (namesT_len hok.all).2
      rw [List.length_map] at hTl
      clear hns hS4 hS4' hM4 hM
      go_wp2_with fail
      refine hT.mono ?_
      rintro e w6 ⟨x, rfl, hx, hb6⟩
      have hb16 := hb15.trans (hb6.mono hb15.size)
      have hnm := names_some x w6 (hM5.later hb6) (by rw [← len_B, hx]; omega) (l := ns.map B) (by rw [hx]; exact hback)
      have hS46 := hS45.later hb6
      have hS46' := hS45'.later hb6
      have hS56 := hS5.later hb6
      clear hx hT hback hok
      go_wp2_with fail
      refine hnm.mono ?_
      rintro e w7 ⟨v7, ms, rfl, hms, hS7, hb7⟩
      obtain rfl : ms = ns := mapB_inj hms
      have hb17 := hb16.trans (hb7.mono hb16.size)
      have q1 := same_any w7 (hS46'.later hb7) (hS46.later hb7)
      rw [decide_eq_true rfl] at q1
      have hS57 := hS56.later hb7
      clear hnm hms hS46 hS46' hS56 hS45 hS45' hS5
      go_wp2_with fail
      refine q1.mono ?_
      rintro e w8 ⟨rfl, hb8⟩
      have q2 := same_any w8 (hS57.later hb8) (hS7.later hb8)
      rw [decide_eq_true rfl] at q2
      clear q1
      go_wp2_with fail
      refine q2.mono ?_
      rintro e w9 ⟨rfl, hb9⟩
      go_wp2
      go_ret
      exact ⟨rfl, (hb17.trans (hb8.mono hb17.size)).trans (hb9.mono (by have := hb17.size; have := hb8.size; omega))⟩
    · have hb15 := hb14.trans (hb5.mono hb14.size)
      have hS45 := hS4.later hb5
      have hS45' := hS4'.later hb5
      have hM5 := hM4.later hb5
      have hT := namesText_any w5 (StrsAt.nil w5) (by decide)
      clear hns hS4 hS4' hM4 hM
      go_wp2_with fail
      refine hT.mono ?_
      rintro e w6 ⟨x, rfl, hx, hb6⟩
      have hx' : B x = [45] := hx
      have hb16 := hb15.trans (hb6.mono hb15.size)
      have hnm := names_some x w6 (hM5.later hb6) (by rw [← len_B, hx']; decide) (l := []) (by rw [hx']; rfl)
      have hS46 := hS45.later hb6
      have hS46' := hS45'.later hb6
      clear hx hx' hT
      go_wp2_with fail
      refine hnm.mono ?_
      rintro e w7 ⟨v7, ms, rfl, hms, hS7, hb7⟩
      have hb17 := hb16.trans (hb7.mono hb16.size)
      have q1 := same_any w7 (hS46'.later hb7) (hS46.later hb7)
      rw [decide_eq_true rfl] at q1
      clear hnm hms hS46 hS46' hS45 hS45' hS7
      go_wp2_with fail
      refine q1.mono ?_
      rintro e w8 ⟨rfl, hb8⟩
      go_wp2
      go_ret
      exact ⟨rfl, hb17.trans (hb8.mono hb17.size)⟩
  · go_wp2
    go_ret
    exact ⟨rfl, hb1.trans (hb2.mono hb1.size)⟩
end Go.Proofs.YtpoaoicehoihdaaDoor.lawBack
