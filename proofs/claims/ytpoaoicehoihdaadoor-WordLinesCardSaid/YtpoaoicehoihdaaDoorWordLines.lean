/- WordLines: the walk. -/
import Derived.Test.YtpoaoicehoihdaaDoorLives
import Derived.Test.YtpoaoicehoihdaaDoorEarly
import Derived.Test.YtpoaoicehoihdaaDoorSame
import Derived.Test.YtpoaoicehoihdaaDoorLines
import Derived.Test.YtpoaoicehoihdaaDoorTwoLines
import Derived.StillTailTactics
namespace Go.Proofs.YtpoaoicehoihdaaDoor.lawLines
open Go.RowKit

theorem lines_is (s : ByteArray) (w : World) (hM : MaxAt w) (hs : s.size ≤ 1048576) {lss : List (List (List UInt8))} {k c : Int} (h : linesL (B s) = (lss, k, c)) :
    Calls Tryd.prog 17 #[.string s] w fun e w' => ∃ a ls cp, e = .returned (.tuple #[.slice a ls.length cp, .int .i64 k, .int .i64 c]) ∧ LB ls = lss ∧ LinesAt w' (.slice a ls.length cp) ls ∧ ls.length ≤ s.size + 1 ∧ Below w.heap.size w w' := by
  have hM' := hM
  refine (lines_any s w hM hM'.1 hs).mono ?_
  rintro e w' ⟨v, ls, rfl, h2, h3, h4, h5⟩
  obtain ⟨vs, _, hrd, _, _⟩ := id h3
  obtain ⟨a, cp, rfl, _, _⟩ := hrd.shape
  exact ⟨a, ls, cp, by rw [h], by rw [h2, h], h3, h4, h5⟩
theorem two_B (s t : ByteArray) : B (s ++ ⟨#[10]⟩ ++ t) = B s ++ 10 :: B t := by
  rw [B_append, B_append]; simp [B]

theorem linesG_le : ∀ (ps : List (List UInt8)) (acc : List (List (List UInt8))), (linesG ps acc).2.1 ≤ ((acc.length + ps.length : Nat) : Int)
  | [], acc => by rw [linesG]; exact Int.natCast_nonneg _
  | p :: ps, acc => by
    rw [linesG]
    split
    · rename_i ws _
      have := linesG_le ps (acc ++ [ws])
      rw [List.length_append, List.length_singleton] at this
      rw [List.length_cons]; omega
    · rw [List.length_cons]; simp only; omega

set_option maxHeartbeats 1600000 in
set_option maxRecDepth 100000 in
theorem walk (a b : ByteArray) (w : World) (hsh : w.ShapedOpen Tryd.prog) (ha : a.size ≤ maxLen) (hb : b.size ≤ maxLen) :
    Calls Tryd.prog 6 #[.string a, .string b] w fun e w' => e = .returned (.bool true) ∧ Below w.heap.size w w' := by
  have hM := MaxAt.of_shaped hsh
  clear hsh
  go_enter Tryd.func6, Tryd.ntmps6
  go_wp2_with (go_at_call 10; refine (lives_any _).mono ?_; rintro e w1 ⟨rfl, hb1⟩)
  refine (early_any a w1 ha).mono ?_
  rintro e w1' ⟨s, rfl, hs, _, rfl⟩
  go_wp2_with fail
  refine (early_any b w1 hb).mono ?_
  rintro e w1' ⟨t, rfl, ht, _, rfl⟩
  have hst : (s ++ ⟨#[10]⟩ ++ t).size ≤ 1048576 := by
    have h1 := congrArg List.length (two_B s t)
    rw [List.length_append, List.length_cons, len_B, len_B, len_B] at h1
    omega
  have hM1 := hM.later hb1
  rcases two_lines (B s) (B t) with ⟨lss, ea, ⟨lms, eb, eab⟩ | ⟨i, eb, eab⟩⟩ | ⟨i, ea, eab⟩
  · rw [← two_B] at eab
    have q := lines_is s w1 hM1 (by omega) ea
    go_wp2_with fail
    refine q.mono ?_
    rintro e w2 ⟨a2, ls, c2, rfl, hls, hL2, hz2, hb2⟩
    have hM2 := hM1.later hb2
    have hb12 := hb1.trans (hb2.mono hb1.size)
    have q2 := lines_is t w2 hM2 (by omega) eb
    clear q
    go_wp2_with fail
    refine q2.mono ?_
    rintro e w3 ⟨a3, ms, c3, rfl, hms, hL3, hz3, hb3⟩
    have hM3 := hM2.later hb3
    have hb13 := hb12.trans (hb3.mono hb12.size)
    have hL23 := hL2.later hb3
    have q3 := lines_is _ w3 hM3 hst eab
    clear q2
    go_wp2_with fail
    refine q3.mono ?_
    rintro e w4 ⟨a4, ns, c4, rfl, hns, hL4, hz4, hb4⟩
    have hb14 := hb13.trans (hb4.mono hb13.size)
    have hL24 := hL23.later hb4
    have hL34 := hL3.later hb4
    obtain rfl : ns = ls ++ ms := LB_inj (by rw [hns, ← hls, ← hms]; simp [LB])
    obtain ⟨vs, hvl, hrd, _, hall⟩ := hL24
    obtain ⟨us, hul, hrd', _, hall'⟩ := hL34
    obtain ⟨ts, htl, hrd'', _, hall''⟩ := hL4
    obtain ⟨_, _, e1, _, hr⟩ := hrd.shape
    cases e1
    obtain ⟨_, _, e2, _, hr'⟩ := hrd'.shape
    cases e2
    obtain ⟨_, _, e3, _, hr''⟩ := hrd''.shape
    cases e3
    obtain ⟨N, hN⟩ : ∃ N, (ls ++ ms).length = N := ⟨_, rfl⟩
    have hN' : N = ls.length + ms.length := by rw [← hN, List.length_append]
    rw [hN] at hr'' htl
    rw [hN]
    have HR := Lib.hid hr
    have HR' := Lib.hid hr'
    have HR'' := Lib.hid hr''
    have HA := Lib.hid hall
    have HA' := Lib.hid hall'
    have HA'' := Lib.hid hall''
    clear hr hr' hr'' hall hall' hall'' hrd hrd' hrd'' hL23 hL2 hL3 hls hms hns ea eb eab q3 hz4 hN
    go_wp2
    go_loopw [14] (fun i wr => ∃ k : Nat, k ≤ N ∧ i = .int .i64 k ∧ Below w4.heap.size w4 wr) (fun i _ => N - (intOf i).toNat)
    case atStart => exact ⟨0, Nat.zero_le _, rfl, Below.refl _ _⟩
    case round =>
      obtain ⟨k, hk, rfl, hbr⟩ := hrel
      by_cases hlt : k < N
      · obtain ⟨b4, o4, rfl, hlt4, hcell4⟩ := HR''.out (by omega)
        obtain ⟨u, hu⟩ : ∃ u, ts[k]? = some u := ⟨_, List.getElem?_eq_getElem (by omega)⟩
        have c1 : wr.cell? ⟨b4, o4 + k, none⟩ = some u := (hbr.cell (p := ⟨b4, o4 + k, none⟩) hlt4).trans (hcell4 k u hu)
        have hD := (Below.refl wr.heap.size wr).drew
        by_cases hkl : k < ls.length
        · obtain ⟨b5, o5, rfl, hlt5, hcell5⟩ := HR.out (by omega)
          obtain ⟨y, hy⟩ : ∃ y, vs[k]? = some y := ⟨_, List.getElem?_eq_getElem (by omega)⟩
          have c2 : wr.cell? ⟨b5, o5 + k, none⟩ = some y := (hbr.cell (p := ⟨b5, o5 + k, none⟩) hlt5).trans (hcell5 k y hy)
          have g1 : (ls ++ ms)[k]? = some ls[k] := by rw [List.getElem?_append_left hkl, List.getElem?_eq_getElem hkl]
          have q1 := (HA''.out k u _ hu g1).later hbr
          have q2 := (HA.out k y _ hy (List.getElem?_eq_getElem hkl)).later hbr
          have sm := same_any wr.drew (q1.later hD) (q2.later hD)
          rw [decide_eq_true rfl] at sm
          clear hcell4 hcell5 q1 q2 hu hy g1
          go_wp2_with fail
          go_still_tail 8, (by kernel_rfl)
          change wpList _ _ _ _ _ wr.drew
          have hbq : Below w4.heap.size w4 wr.drew := hbr.drew
          generalize wr.drew = wq at *
          go_wp2_with (go_at_call 15; refine sm.mono ?_; rintro e w7 ⟨rfl, hb7⟩)
          go_roundw
          case rel => exact ⟨k + 1, by omega, by go_num, hbq.trans (hb7.mono hbq.size)⟩
          case measure => simp [intOf]; omega
        · obtain ⟨m, hkm⟩ : ∃ m, k = ls.length + m := ⟨k - ls.length, by omega⟩
          have hml : m < ms.length := by omega
          obtain ⟨b5, o5, rfl, hlt5, hcell5⟩ := HR'.out (by omega)
          obtain ⟨y, hy⟩ : ∃ y, us[m]? = some y := ⟨_, List.getElem?_eq_getElem (by omega)⟩
          have c2 : wr.cell? ⟨b5, o5 + m, none⟩ = some y := (hbr.cell (p := ⟨b5, o5 + m, none⟩) hlt5).trans (hcell5 m y hy)
          have g1 : (ls ++ ms)[k]? = some ms[m] := by rw [hkm, List.getElem?_append_right (by omega), Nat.add_sub_cancel_left, List.getElem?_eq_getElem hml]
          have q1 := (HA''.out _ u _ hu g1).later hbr
          have q2 := (HA'.out m y _ hy (List.getElem?_eq_getElem hml)).later hbr
          have sm := same_any wr.drew (q1.later hD) (q2.later hD)
          rw [decide_eq_true rfl] at sm
          have HKM := Lib.hid hkm
          clear hcell4 hcell5 q1 q2 hu hy g1 hkm
          go_wp2_with fail
          rw [show ((k : Int) - (ls.length : Int)) = (m : Int) by have := HKM.out; omega]
          go_still_tail 8, (by kernel_rfl)
          change wpList _ _ _ _ _ wr.drew
          have hbq : Below w4.heap.size w4 wr.drew := hbr.drew
          generalize wr.drew = wq at *
          go_wp2_with (go_at_call 15; refine sm.mono ?_; rintro e w7 ⟨rfl, hb7⟩)
          go_roundw
          case rel => exact ⟨k + 1, by omega, by go_num, hbq.trans (hb7.mono hbq.size)⟩
          case measure => simp [intOf]; omega
      · obtain rfl : k = N := by omega
        go_wp2
        go_ret
        exact ⟨rfl, hb14.trans (hbr.mono hb14.size)⟩
  · rw [← two_B] at eab
    have q := lines_is s w1 hM1 (by omega) ea
    go_wp2_with fail
    refine q.mono ?_
    rintro e w2 ⟨a2, ls, c2, rfl, hls, hL2, hz2, hb2⟩
    have hM2 := hM1.later hb2
    have hb12 := hb1.trans (hb2.mono hb1.size)
    have q2 := lines_is t w2 hM2 (by omega) eb
    clear q
    go_wp2_with fail
    refine q2.mono ?_
    rintro e w3 ⟨a3, ms, c3, rfl, hms, hL3, hz3, hb3⟩
    have hM3 := hM2.later hb3
    have hb13 := hb12.trans (hb3.mono hb12.size)
    have hll : lss.length = ls.length := by rw [← hls, LB, List.length_map]
    rw [hll] at eab
    have q3 := lines_is _ w3 hM3 hst eab
    clear q2
    go_wp2_with fail
    refine q3.mono ?_
    rintro e w4 ⟨a4, ns, c4, rfl, hns, hL4, hz4, hb4⟩
    have hb14 := hb13.trans (hb4.mono hb13.size)
    obtain rfl : ns = [] := LB_inj (b := []) hns
    have hi : i ≤ 1048576 := by
      have h1 := linesG_le (cutB 10 (B t)) []
      have h2 := cutB_len 10 (B t)
      rw [len_B] at h2
      rw [show linesG (cutB 10 (B t)) [] = linesL (B t) from rfl, eb, List.length_nil] at h1
      have h3 : ((i + 1 : Nat) : Int) ≤ ((0 + (cutB 10 (B t)).length : Nat) : Int) := h1
      omega
    clear eab ea eb hls hms hns q3
    go_wp2
    go_ret
    exact ⟨rfl, hb14⟩
  · rw [← two_B] at eab
    have q := lines_is s w1 hM1 (by omega) ea
    go_wp2_with fail
    refine q.mono ?_
    rintro e w2 ⟨a2, ls, c2, rfl, hls, hL2, hz2, hb2⟩
    have hM2 := hM1.later hb2
    have hb12 := hb1.trans (hb2.mono hb1.size)
    obtain ⟨⟨lms, k2, e2⟩, eb⟩ : ∃ x, linesL (B t) = x := ⟨_, rfl⟩
    have q2 := lines_is t w2 hM2 (by omega) eb
    clear q
    go_wp2_with fail
    refine q2.mono ?_
    rintro e w3 ⟨a3, ms, c3, rfl, hms, hL3, hz3, hb3⟩
    have hM3 := hM2.later hb3
    have hb13 := hb12.trans (hb3.mono hb12.size)
    have q3 := lines_is _ w3 hM3 hst eab
    clear q2
    go_wp2_with fail
    refine q3.mono ?_
    rintro e w4 ⟨a4, ns, c4, rfl, hns, hL4, hz4, hb4⟩
    have hb14 := hb13.trans (hb4.mono hb13.size)
    obtain rfl : ns = [] := LB_inj (b := []) hns
    clear eab ea eb hls hms hns q3
    go_wp2
    go_ret
    exact ⟨rfl, hb14⟩
end Go.Proofs.YtpoaoicehoihdaaDoor.lawLines
