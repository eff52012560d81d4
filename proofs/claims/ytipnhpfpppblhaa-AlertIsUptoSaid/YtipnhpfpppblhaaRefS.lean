/- lychgatelaw09.as, lychgateref06.Same, lychgateref09.Same: contracts (out of XRefB). -/
import Derived.Test.YtipnhpfpppblhaaRefJ
import Derived.Test.YtipnhpfpppblhaaAlBack
import Derived.Test.YtipnhpfpppblhaaAlCut
import Derived.Deep.LoopGhost
namespace Go.Proofs.Ytipnhpfpppblhaa
open Go.RowKit

set_option maxHeartbeats 1600000 in
set_option maxRecDepth 100000 in
theorem as_any (src : ByteArray) (fa : Option Addr) (fn fc : Nat) (lv : Int) (c : Nat) (fr til : Int) (w : World) :
    Calls Try.prog 9 #[.agg #[.string src, .slice fa fn fc, .int .i64 lv, .int .u32 c, .int .i64 fr, .int .i64 til]] w fun e w' =>
      e = .returned (.agg #[.string src, .slice fa fn fc, .int .i64 lv, .int .u32 c, .int .i64 fr, .int .i64 til]) ∧ Below w.heap.size w w' := by
  obtain ⟨W0, hW0⟩ : ∃ z, (w.alloc (.cells #[.string src, .slice fa fn fc, .int .i64 lv, .int .u32 c, .int .i64 fr, .int .i64 til] 36)).alloc (.cells #[.string ⟨#[]⟩, .slice none 0 0, .int .i64 0, .int .u32 0, .int .i64 0, .int .i64 0] 38) = z := ⟨_, rfl⟩
  have hb0 : Below w.heap.size w W0 := by rw [← hW0]; exact (alloc_below _ _).trans ((alloc_below _ _).mono (by simp))
  have hd := (Below.refl W0.heap.size W0)
  rw [← hW0] at hd
  obtain ⟨h1, h2, h3⟩ := box_cells hd
  have hT := box_there hd
  obtain ⟨h4, _, _⟩ := box_cells h3
  rw [World.size_alloc] at h1 hT
  rw [hW0] at h1 h4 hT
  have q0 := h4 0 _ rfl
  have q1 := h4 1 _ rfl
  have q2 := h4 2 _ rfl
  have q3 := h4 3 _ rfl
  have q4 := h4 4 _ rfl
  have q5 := h4 5 _ rfl
  have f0 := there_free hT 0 (by decide)
  have f1 := there_free hT 1 (by decide)
  have f2 := there_free hT 2 (by decide)
  have f3 := there_free hT 3 (by decide)
  have f4 := there_free hT 4 (by decide)
  have f5 := there_free hT 5 (by decide)
  have r0 := h1 0 _ rfl
  have r1 := h1 1 _ rfl
  have r2 := h1 2 _ rfl
  have r3 := h1 3 _ rfl
  have r4 := h1 4 _ rfl
  have r5 := h1 5 _ rfl
  have HB0 := Lib.hid hb0
  have HT := Lib.hid hT
  have HW0 := Lib.hid hW0
  clear hd h1 h2 h3 h4 hT hb0 hW0
  go_enter Try.func9, Try.ntmps9
  go_upto_region 1 with fail
  rw [HW0.out]
  clear HW0
  go_wp2
  refine bodyPost_ret (results_agg1 rfl _ _ (w.heap.size + 1) [.string src, .slice fa fn fc, .int .i64 lv, .int .u32 c, .int .i64 fr, .int .i64 til] (.struct _) rfl (World.rangeAt_setCells_same W0 (w.heap.size + 1) 0 [.string src, .slice fa fn fc, .int .i64 lv, .int .u32 c, .int .i64 fr, .int .i64 til] HT.out) Try.underlying38 rfl (by kernel_rfl)) rfl ?_
  exact ⟨rfl, below_puts (g := w.heap.size + 1) (o := 0) HB0.out (by omega) [.string src, .slice fa fn fc, .int .i64 lv, .int .u32 c, .int .i64 fr, .int .i64 til]⟩
end Go.Proofs.Ytipnhpfpppblhaa
namespace Go.Proofs.Ytipnhpfpppblhaa
open Go.RowKit

set_option maxHeartbeats 1600000 in
set_option maxRecDepth 100000 in
theorem rsame6_any (xs ys : List Fld) (w : World) (u v : Value) (hx : FldsAt w u xs) (hy : FldsAt w v ys) (hl : xs.length ≤ maxLen) (hl2 : ys.length ≤ maxLen) :
    Calls Try.prog 57 #[u, v] w fun e w' => e = .returned (.bool (decide (xs = ys))) ∧ Below w.heap.size w w' := by
  obtain ⟨a, c, rfl, hc, hr⟩ := RdAt.shape hx
  obtain ⟨a', c', rfl, hc', hr'⟩ := RdAt.shape hy
  have HR := Lib.hid hr
  have HR' := Lib.hid hr'
  have hm1 : xs.length < 9223372036854775808 := by unfold maxLen at hl; omega
  have hm2 : ys.length < 9223372036854775808 := by unfold maxLen at hl2; omega
  clear hr hr' hx hy hl hl2
  by_cases hlen : xs.length = ys.length
  · have hlen' : (xs.length : Int) = (ys.length : Int) := by omega
    have hb0 : ((xs.length : Int) != (ys.length : Int)) = false := by simp [hlen]
    have HLEN := Lib.hid hlen
    clear hlen hlen'
    go_enter Try.func57, Try.ntmps57
    go_wp2
    go_loopw [5] (fun i wr => ∃ k : Nat, k ≤ xs.length ∧ i = .int .i64 k ∧ Hid (xs.take k = ys.take k) ∧ Below w.heap.size w wr) (fun i _ => xs.length - (intOf i).toNat)
    case atStart => exact ⟨0, Nat.zero_le _, rfl, Lib.hid rfl, Below.refl _ _⟩
    case round =>
      obtain ⟨k, hk, rfl, HT, hbr⟩ := hrel
      by_cases hkl : k < xs.length
      · have hkl2 : k < ys.length := by have := HLEN.out; omega
        obtain ⟨⟨x1, x2⟩, hxe⟩ : ∃ x, xs[k] = x := ⟨_, rfl⟩
        obtain ⟨⟨y1, y2⟩, hye⟩ : ∃ y, ys[k] = y := ⟨_, rfl⟩
        obtain ⟨b0, o0, rfl, hb0', hcell⟩ := HR.out (by omega)
        obtain ⟨b1, o1, rfl, hb1', hcell'⟩ := HR'.out (by omega)
        obtain ⟨q0, q1⟩ := fldCells_at xs k hkl
        obtain ⟨q2, q3⟩ := fldCells_at ys k hkl2
        rw [hxe] at q0 q1
        rw [hye] at q2 q3
        have c0 : wr.cell? ⟨b0, o0 + k * 2, none⟩ = some (.string x1) := keep_cell (hcell _ _ q0) hbr hb0'
        have c1 : wr.cell? ⟨b0, o0 + k * 2 + 1, none⟩ = some (.string x2) := keep_cell (by have := hcell _ _ q1; rwa [← Nat.add_assoc] at this) hbr hb0'
        have c2 : wr.cell? ⟨b1, o1 + k * 2, none⟩ = some (.string y1) := keep_cell (hcell' _ _ q2) hbr hb1'
        have c3 : wr.cell? ⟨b1, o1 + k * 2 + 1, none⟩ = some (.string y2) := keep_cell (by have := hcell' _ _ q3; rwa [← Nat.add_assoc] at this) hbr hb1'
        clear hcell hcell' q0 q1 q2 q3
        by_cases h1 : x1 = y1
        · have hb1 : (x1.toList == y1.toList) = true := bytes_eq_iff.2 h1
          by_cases h2 : x2 = y2
          · have hb2 : (x2.toList == y2.toList) = true := bytes_eq_iff.2 h2
            have HN : Hid (xs.take (k + 1) = ys.take (k + 1)) := take_step HT.out hkl hkl2 (by rw [hxe, hye, h1, h2])
            clear h1 h2 hxe hye
            go_wp2
            go_quiet (fail)
            have hb2 : Below w.heap.size w (wr.drewN nq) := bl_drewN hbr nq
            generalize wr.drewN nq = wq at *
            go_wp2
            go_roundw
            case rel => exact ⟨k + 1, by omega, by go_num, HN, hb2⟩
            case measure => simp [intOf]; omega
          · have hb2 : (x2.toList == y2.toList) = false := by rw [bytes_beq]; exact decide_eq_false h2
            have HN : Hid (xs ≠ ys) := ne_at hkl hkl2 (by rw [hxe, hye]; intro h; exact h2 (congrArg Prod.snd h))
            clear h1 h2 hxe hye
            go_wp2
            go_quiet (fail)
            have hb2 : Below w.heap.size w (wr.drewN nq) := bl_drewN hbr nq
            generalize wr.drewN nq = wq at *
            go_wp2
            go_ret
            exact ⟨by rw [decide_eq_false HN.out]; rfl, hb2⟩
        · have hb1 : (x1.toList == y1.toList) = false := by rw [bytes_beq]; exact decide_eq_false h1
          have HN : Hid (xs ≠ ys) := ne_at hkl hkl2 (by rw [hxe, hye]; intro h; exact h1 (congrArg Prod.fst h))
          clear h1 hxe hye
          go_wp2
          go_quiet (fail)
          have hb2 : Below w.heap.size w (wr.drewN nq) := bl_drewN hbr nq
          generalize wr.drewN nq = wq at *
          go_wp2
          go_ret
          exact ⟨by rw [decide_eq_false HN.out]; rfl, hb2⟩
      · obtain rfl : k = xs.length := by omega
        have HN : Hid (xs = ys) := take_done HLEN.out HT.out
        clear HT
        go_wp2
        go_ret
        exact ⟨by rw [decide_eq_true HN.out]; rfl, hbr⟩
  · have hlen' : ¬ (xs.length : Int) = (ys.length : Int) := by omega
    go_enter Try.func57, Try.ntmps57
    go_wp2
    go_ret
    exact ⟨by rw [decide_eq_false (fun h => hlen (by rw [h]))]; rfl, Below.refl _ _⟩
end Go.Proofs.Ytipnhpfpppblhaa
namespace Go.Proofs.Ytipnhpfpppblhaa
open Go.RowKit

/-- the same alert -/
def sameA (s s' : ByteArray) (xs ys : List Fld) (lv : Int) (c : Nat) (fr til lv' : Int) (c' : Nat) (fr' til' : Int) : Bool :=
  decide (s = s') && decide (xs = ys) && (decide (lv = lv') && decide (c = c')) && decide (fr = fr') && decide (til = til')
set_option maxHeartbeats 1600000 in
set_option maxRecDepth 100000 in
theorem rsame9_any (s s' : ByteArray) (xs ys : List Fld) (u v : Value) (lv : Int) (c : Nat) (fr til lv' : Int) (c' : Nat) (fr' til' : Int) (w : World) (hx : FldsAt w u xs) (hy : FldsAt w v ys) (hl : xs.length ≤ maxLen) (hl2 : ys.length ≤ maxLen) :
    Calls Try.prog 29 #[.agg #[.string s, u, .int .i64 lv, .int .u32 c, .int .i64 fr, .int .i64 til], .agg #[.string s', v, .int .i64 lv', .int .u32 c', .int .i64 fr', .int .i64 til']] w fun e w' => e = .returned (.bool (sameA s s' xs ys lv c fr til lv' c' fr' til')) ∧ Below w.heap.size w w' := by
  have k1 := fun W (hb : Below w.heap.size w W) => rsame6_any xs ys W u v (hx.later hb) (hy.later hb) hl hl2
  obtain ⟨xa, xc, rfl, _, _⟩ := RdAt.shape hx
  obtain ⟨ya, yc, rfl, _, _⟩ := RdAt.shape hy
  clear hx hy hl hl2
  obtain ⟨W0, hW0⟩ : ∃ z, (w.alloc (.cells #[.string s, .slice xa xs.length xc, .int .i64 lv, .int .u32 c, .int .i64 fr, .int .i64 til] 38)).alloc (.cells #[.string s', .slice ya ys.length yc, .int .i64 lv', .int .u32 c', .int .i64 fr', .int .i64 til'] 38) = z := ⟨_, rfl⟩
  have hb0 : Below w.heap.size w W0 := by rw [← hW0]; exact (alloc_below _ _).trans ((alloc_below _ _).mono (by simp))
  have hz : W0.heap.size = w.heap.size + 1 + 1 := by rw [← hW0]; simp
  have hd := (Below.refl W0.heap.size W0)
  rw [← hW0] at hd
  obtain ⟨h1, h2, h3⟩ := box_cells hd
  obtain ⟨h4, _, _⟩ := box_cells h3
  rw [World.size_alloc] at h1
  rw [hW0] at h1 h4
  have hP : C6 w.heap.size (.string s) (.slice xa xs.length xc) (.int .i64 lv) (.int .u32 c) (.int .i64 fr) (.int .i64 til) W0 := ⟨h4 0 _ rfl, h4 1 _ rfl, h4 2 _ rfl, h4 3 _ rfl, h4 4 _ rfl, h4 5 _ rfl⟩
  have hQ : C6 (w.heap.size + 1) (.string s') (.slice ya ys.length yc) (.int .i64 lv') (.int .u32 c') (.int .i64 fr') (.int .i64 til') W0 := ⟨h1 0 _ rfl, h1 1 _ rfl, h1 2 _ rfl, h1 3 _ rfl, h1 4 _ rfl, h1 5 _ rfl⟩
  have k1 := k1 W0 hb0
  have HZ := Lib.hid hz
  have HB0 := Lib.hid hb0
  have HW0 := Lib.hid hW0
  have HP := Lib.hid hP
  have HQ := Lib.hid hQ
  clear hd h1 h2 h3 h4 hb0 hW0 hz hP hQ
  obtain ⟨p0, p1, p2, p3, p4, p5⟩ := HP.out
  obtain ⟨q0, q1, q2, q3, q4, q5⟩ := HQ.out
  by_cases e0 : s = s'
  · have b0 : (s.toList == s'.toList) = true := bytes_eq_iff.2 e0
    obtain ⟨q, hq⟩ : ∃ q, decide (xs = ys) = q := ⟨_, rfl⟩
    have HS : Hid (sameA s s' xs ys lv c fr til lv' c' fr' til' = (q && (decide (lv = lv') && decide (c = c')) && decide (fr = fr') && decide (til = til'))) := by
      show _ = _
      unfold sameA
      rw [hq, decide_eq_true e0, Bool.true_and]
    rw [hq] at k1
    clear e0 hq
    go_enter Try.func29, Try.ntmps29
    go_upto_region 1 with fail
    rw [HW0.out]
    clear HW0
    go_wp2_with fail
    refine k1.mono ?_
    rintro e w1 ⟨rfl, hb1⟩
    have HB1 := Lib.hid (HB0.out.trans (hb1.mono HB0.out.size))
    have hP1 := HP.out.later hb1 (by have := HZ.out; omega)
    have hQ1 := HQ.out.later hb1 (by have := HZ.out; omega)
    clear k1 hb1 p0 p1 p2 p3 p4 p5 q0 q1 q2 q3 q4 q5 HP HQ
    obtain ⟨p0, p1, p2, p3, p4, p5⟩ := hP1
    obtain ⟨q0, q1, q2, q3, q4, q5⟩ := hQ1
    cases q
    · go_wp2
      go_ret
      exact ⟨by rw [HS.out]; rfl, HB1.out⟩
    · by_cases e1 : lv = lv'
      · by_cases e2 : c = c'
        · by_cases e3 : fr = fr'
          · by_cases e4 : til = til'
            · have HE : Hid ((true && (decide (lv = lv') && decide (c = c')) && decide (fr = fr') && decide (til = til')) = true) := by show _ = _; simp [e1, e2, e3, e4]
              subst e1 e2 e3 e4
              go_wp2
              go_ret
              exact ⟨by rw [HS.out, HE.out]; simp, HB1.out⟩
            · have HE : Hid ((true && (decide (lv = lv') && decide (c = c')) && decide (fr = fr') && decide (til = til')) = false) := by show _ = _; simp [e4]
              have n4 : (til == til') = false := by rw [beq_eq_false_iff_ne]; exact e4
              subst e1 e2 e3
              go_wp2
              go_ret
              exact ⟨by rw [HS.out, HE.out]; simp [*], HB1.out⟩
          · have HE : Hid ((true && (decide (lv = lv') && decide (c = c')) && decide (fr = fr') && decide (til = til')) = false) := by show _ = _; simp [e3]
            have n3 : (fr == fr') = false := by rw [beq_eq_false_iff_ne]; exact e3
            subst e1 e2
            go_wp2
            go_ret
            exact ⟨by rw [HS.out, HE.out]; simp [*], HB1.out⟩
        · have HE : Hid ((true && (decide (lv = lv') && decide (c = c')) && decide (fr = fr') && decide (til = til')) = false) := by show _ = _; simp [e2]
          have n2 : ((c : Int) == (c' : Int)) = false := by rw [beq_eq_false_iff_ne]; omega
          subst e1
          go_wp2
          go_ret
          exact ⟨by rw [HS.out, HE.out]; simp [*], HB1.out⟩
      · have HE : Hid ((true && (decide (lv = lv') && decide (c = c')) && decide (fr = fr') && decide (til = til')) = false) := by show _ = _; simp [e1]
        have n1 : (lv == lv') = false := by rw [beq_eq_false_iff_ne]; exact e1
        go_wp2
        go_ret
        exact ⟨by rw [HS.out, HE.out]; simp [*], HB1.out⟩
  · have b0 : (s.toList == s'.toList) = false := by rw [bytes_beq]; exact decide_eq_false e0
    have HS : Hid (sameA s s' xs ys lv c fr til lv' c' fr' til' = false) := by
      show _ = _
      unfold sameA
      rw [decide_eq_false e0]; rfl
    clear e0 k1
    go_enter Try.func29, Try.ntmps29
    go_upto_region 1 with fail
    rw [HW0.out]
    clear HW0
    go_wp2
    go_ret
    exact ⟨by rw [HS.out]; simp [*], HB0.out⟩
end Go.Proofs.Ytipnhpfpppblhaa
