/- lychgatelaw09.lives: the walk. -/
import Derived.Test.YtipnhpfpppblhaaAlLives
namespace Go.Proofs.Ytipnhpfpppblhaa
open Go.RowKit Go.Maps

theorem fldsfit_ex : FldsFit exF := by
  intro f hf
  simp only [List.mem_cons, List.not_mem_nil, or_false] at hf
  rcases hf with rfl | rfl <;> decide
set_option maxHeartbeats 1600000 in
set_option maxRecDepth 100000 in
theorem lives_any (w : World) : Calls Try.prog 6 #[] w fun e w' => e = .returned (.bool true) ∧ Below w.heap.size w w' := by
  obtain ⟨Wn, hWn⟩ : ∃ z, w.alloc (.cells #[.string sHost, .int .i64 4, .int .u32 0] 73) = z := ⟨_, rfl⟩
  have sn : Wn.heap.size = w.heap.size + 1 := by rw [← hWn, World.size_alloc]
  obtain ⟨Wp, hWp⟩ : ∃ z, Wn.alloc (.cells #[.slice none 0 0, .slice none 0 0, .slice none 0 0, .slice (some ⟨w.heap.size, 0, none⟩) 1 1, .slice none 0 0, .slice none 0 0] 26) = z := ⟨_, rfl⟩
  have sp : Wp.heap.size = w.heap.size + 1 + 1 := by rw [← hWp, World.size_alloc, sn]
  obtain ⟨Wf, hWf⟩ : ∃ z, Wp.alloc (.cells #[.string sHost, .string sH, .string sTeam, .string sT] 48) = z := ⟨_, rfl⟩
  have sf : Wf.heap.size = w.heap.size + 1 + 1 + 1 := by rw [← hWf, World.size_alloc, sp]
  obtain ⟨Wa, hWa⟩ : ∃ z, Wf.alloc (.cells #[.string sProm, .slice (some ⟨w.heap.size + 1 + 1, 0, none⟩) 2 2, .int .i64 2, .int .u32 0, .int .i64 5, .int .i64 0] 36) = z := ⟨_, rfl⟩
  have sa : Wa.heap.size = w.heap.size + 1 + 1 + 1 + 1 := by rw [← hWa, World.size_alloc, sf]
  have bn : Below w.heap.size w Wn := by rw [← hWn]; exact alloc_below _ _
  have bp : Below Wn.heap.size Wn Wp := by rw [← hWp]; exact alloc_below _ _
  have bf : Below Wp.heap.size Wp Wf := by rw [← hWf]; exact alloc_below _ _
  have ba : Below Wf.heap.size Wf Wa := by rw [← hWa]; exact alloc_below _ _
  have hNm : NmdsAt Wn (.slice (some ⟨w.heap.size, 0, none⟩) 1 1) exR := by
    refine RdAt.mk rfl (Nat.le_refl _) (by omega) (fun j x hj => ?_)
    rw [Nat.zero_add, ← hWn]
    exact (World.cell?_alloc_at _ _ _ _ rfl).trans (by
      have := hj
      match j, hj with
      | 0, hj => exact hj
      | 1, hj => exact hj
      | 2, hj => exact hj
      | j + 3, hj => simp [nmdCells, nmdC] at hj)
  have hFl : FldsAt Wf (.slice (some ⟨w.heap.size + 1 + 1, 0, none⟩) 2 2) exF := by
    refine RdAt.mk rfl (Nat.le_refl _) (by omega) (fun j x hj => ?_)
    rw [Nat.zero_add, ← hWf]
    exact (World.cell?_alloc_at _ _ _ _ sp.symm).trans (by
      match j, hj with
      | 0, hj => exact hj
      | 1, hj => exact hj
      | 2, hj => exact hj
      | 3, hj => exact hj
      | j + 4, hj => simp [fldCells] at hj)
  have hPb : C6 (w.heap.size + 1) (.slice none 0 0) (.slice none 0 0) (.slice none 0 0) (.slice (some ⟨w.heap.size, 0, none⟩) 1 1) (.slice none 0 0) (.slice none 0 0) Wp := by
    have h := Below.refl Wp.heap.size Wp
    rw [← hWp] at h
    obtain ⟨h, _, _⟩ := box6 h
    rw [hWp, sn] at h
    exact h
  have hAb : C6 (w.heap.size + 1 + 1 + 1) (.string sProm) (.slice (some ⟨w.heap.size + 1 + 1, 0, none⟩) 2 2) (.int .i64 2) (.int .u32 0) (.int .i64 5) (.int .i64 0) Wa := by
    have h := Below.refl Wa.heap.size Wa
    rw [← hWa] at h
    obtain ⟨h, _, _⟩ := box6 h
    rw [hWa, sf] at h
    exact h
  have bpa : Below Wp.heap.size Wp Wa := bf.trans (ba.mono bf.size)
  have HP0 := Lib.hid (hPb.later bpa (by omega))
  have HA0 := Lib.hid hAb
  have HN0 := Lib.hid ((hNm.later bp).later bpa)
  have HF0 := Lib.hid (hFl.later ba)
  have HB0 := Lib.hid (bn.trans ((bp.trans (bpa.mono bp.size)).mono bn.size))
  have hcut := cut_any (none, 0, 0) (none, 0, 0) (none, 0, 0) (none, 0, 0) (none, 0, 0) exR (.slice (some ⟨w.heap.size, 0, none⟩) 1 1) sProm exF (.slice (some ⟨w.heap.size + 1 + 1, 0, none⟩) 2 2) 2 0 5 0 3 0 Wa HN0.out (by decide) HF0.out (by decide)
  rw [exOk, exVis] at hcut
  have HWn := Lib.hid hWn
  have HWp := Lib.hid hWp
  have HWf := Lib.hid hWf
  have HWa := Lib.hid hWa
  have SA := Lib.hid sa
  clear bn bp bf ba hNm hFl hPb hAb bpa sn sp sf sa hWn hWp hWf hWa
  go_enter Try.func6, Try.ntmps6
  go_upto_region 3 with fail
  rw [HWn.out, HWp.out, HWf.out, HWa.out]
  obtain ⟨p0, p1, p2, p3, p4, p5⟩ := HP0.out
  obtain ⟨x0, x1, x2, x3, x4, x5⟩ := HA0.out
  go_wp2_with fail
  refine hcut.mono ?_
  rintro e w1 ⟨v1, hF1, _, hb1, rfl⟩
  obtain ⟨b1, o1, c1, rfl, hc1, hlt1, hcell1⟩ := RdAt.some hF1 (by decide)
  have t0 : w1.cell? ⟨b1, o1, none⟩ = some (.string sTeam) := hcell1 0 _ rfl
  have HP1 := Lib.hid (HP0.out.later hb1 (by have := SA.out; omega))
  have HA1 := Lib.hid (HA0.out.later hb1 (by have := SA.out; omega))
  have HN1 := Lib.hid (HN0.out.later hb1)
  have HF1' := Lib.hid (HF0.out.later hb1)
  have HB1 := Lib.hid (HB0.out.trans (hb1.mono HB0.out.size))
  have hlp : w.heap.size + 1 + 1 + 1 < w1.heap.size := Nat.lt_of_lt_of_le (by have := SA.out; omega) hb1.size
  have hba := alloc_below w1 (.cells #[.string sProm, .slice (some ⟨b1, o1, none⟩) 1 c1, .int .i64 2, .int .u32 0, .int .i64 5, .int .i64 0] 36)
  obtain ⟨X2, hltX, _⟩ := box6 (Below.refl (w1.alloc (.cells #[.string sProm, .slice (some ⟨b1, o1, none⟩) 1 c1, .int .i64 2, .int .u32 0, .int .i64 5, .int .i64 0] 36)).heap.size _)
  clear HP0 HA0 HN0 HF0 HB0 hb1 hcut p0 p1 p2 p3 p4 p5 x0 x1 x2 x3 x4 x5 hF1 hcell1 hc1
  simp only [cutR]
  go_upto_region 4 with fail
  change Code.wp _ _ _ _ (w1.alloc (.cells #[.string sProm, .slice (some ⟨b1, o1, none⟩) 1 c1, .int .i64 2, .int .u32 0, .int .i64 5, .int .i64 0] 36))
  generalize w1.alloc (.cells #[.string sProm, .slice (some ⟨b1, o1, none⟩) 1 c1, .int .i64 2, .int .u32 0, .int .i64 5, .int .i64 0] 36) = w2 at *
  have t2 := keep_cell t0 hba hlt1
  have HP2 := Lib.hid (HP1.out.later hba (by omega))
  have HA2 := Lib.hid (HA1.out.later hba (by omega))
  have HN2 := Lib.hid (HN1.out.later hba)
  have HF2 := Lib.hid (HF1'.out.later hba)
  have HB2 := Lib.hid (HB1.out.trans (hba.mono HB1.out.size))
  have HX2 : Hid (C6 w1.heap.size _ _ _ _ _ _ w2) := Lib.hid X2
  have hl2 : w.heap.size + 1 + 1 + 1 < w2.heap.size := Nat.lt_of_lt_of_le hlp hba.size
  have hltb : b1 < w2.heap.size := Nat.lt_of_lt_of_le hlt1 hba.size
  generalize w1.heap.size = bx at *
  clear HP1 HA1 HN1 HF1' HB1 hba t0 X2 hlp hlt1
  obtain ⟨x0, x1, x2, x3, x4, x5⟩ := HA2.out
  have hr := aright_any sProm exF 2 0 5 0 (.slice (some ⟨w.heap.size + 1 + 1, 0, none⟩) 2 2) w2 (by decide) HF2.out fldsfit_ex (by decide)
  rw [show (whoA sProm exF 2 && beginsA 5 && endsA 5 0) = true from exRight] at hr
  go_wp2_with fail
  refine hr.mono ?_
  rintro e w3 ⟨rfl, hb3⟩
  have t3 := keep_cell t2 hb3 hltb
  have HP3 := Lib.hid (HP2.out.later hb3 (by omega))
  have HA3 := Lib.hid (HA2.out.later hb3 (by omega))
  have HN3 := Lib.hid (HN2.out.later hb3)
  have HF3 := Lib.hid (HF2.out.later hb3)
  have HB3 := Lib.hid (HB2.out.trans (hb3.mono HB2.out.size))
  have HX3 := Lib.hid (HX2.out.later hb3 hltX)
  have hl3 : w.heap.size + 1 + 1 + 1 < w3.heap.size := Nat.lt_of_lt_of_le hl2 hb3.size
  clear HP2 HA2 HN2 HF2 HB2 HX2 hb3 t2 hl2 hltb hltX hr x0 x1 x2 x3 x4 x5
  obtain ⟨x0, x1, x2, x3, x4, x5⟩ := HA3.out
  obtain ⟨y0, y1, _, _, _, _⟩ := HX3.out
  have hf5 := fires_any sProm (some ⟨w.heap.size + 1 + 1, 0, none⟩) 2 2 2 0 5 0 5 w3
  go_wp2_with fail
  refine hf5.mono ?_
  rintro e w4 ⟨rfl, hb4⟩
  have HP4 := Lib.hid (HP3.out.later hb4 (by omega))
  have HA4 := Lib.hid (HA3.out.later hb4 (by omega))
  have HN4 := Lib.hid (HN3.out.later hb4)
  have HF4 := Lib.hid (HF3.out.later hb4)
  have HB4 := Lib.hid (HB3.out.trans (hb4.mono HB3.out.size))
  have hl4 : w.heap.size + 1 + 1 + 1 < w4.heap.size := Nat.lt_of_lt_of_le hl3 hb4.size
  clear HP3 HA3 HN3 HF3 HB3 HX3 hb4 t3 hl3 hf5 x0 x1 x2 x3 x4 x5 y0 y1
  obtain ⟨x0, x1, x2, x3, x4, x5⟩ := HA4.out
  have hf4 := fires_any sProm (some ⟨w.heap.size + 1 + 1, 0, none⟩) 2 2 2 0 5 0 4 w4
  go_wp2_with fail
  refine hf4.mono ?_
  rintro e w5 ⟨rfl, hb5⟩
  have HP5 := Lib.hid (HP4.out.later hb5 (by omega))
  have HA5 := Lib.hid (HA4.out.later hb5 (by omega))
  have HN5 := Lib.hid (HN4.out.later hb5)
  have HF5 := Lib.hid (HF4.out.later hb5)
  have HB5 := Lib.hid (HB4.out.trans (hb5.mono HB4.out.size))
  clear HP4 HA4 HN4 HF4 HB4 hb5 hl4 hf4 x0 x1 x2 x3 x4 x5
  obtain ⟨x0, x1, x2, x3, x4, x5⟩ := HA5.out
  obtain ⟨p0, p1, p2, p3, p4, p5⟩ := HP5.out
  have b6 := alloc_below w5 (.cells #[.string sProm, .slice (some ⟨w.heap.size + 1 + 1, 0, none⟩) 2 2, .int .i64 2, .int .u32 0, .int .i64 5, .int .i64 0] 36)
  have hal : AlsAt (w5.alloc (.cells #[.string sProm, .slice (some ⟨w.heap.size + 1 + 1, 0, none⟩) 2 2, .int .i64 2, .int .u32 0, .int .i64 5, .int .i64 0] 36)) (.slice (some ⟨w5.heap.size, 0, none⟩) 1 1) [(exA, .slice (some ⟨w.heap.size + 1 + 1, 0, none⟩) 2 2)] := by
    refine ⟨RdAt.mk rfl (Nat.le_refl _) (by simp) (fun j x hj => ?_), fun p hp => ?_⟩
    · rw [Nat.zero_add]
      exact (World.cell?_alloc_at _ _ _ _ rfl).trans (by
        match j, hj with
        | 0, hj => exact hj
        | 1, hj => exact hj
        | 2, hj => exact hj
        | 3, hj => exact hj
        | 4, hj => exact hj
        | 5, hj => exact hj
        | j + 6, hj => simp [alCells, alC] at hj)
    · rw [List.mem_singleton] at hp
      subst hp
      exact ⟨HF5.out.later b6, (by decide : sProm.size ≤ maxLen), fldsfit_ex, (by decide : exF.length ≤ maxLen), (by decide : 0 < 4294967296)⟩
  have hap := apart_any (none, 0, 0) (none, 0, 0) (none, 0, 0) (none, 0, 0) (none, 0, 0) exR (.slice (some ⟨w.heap.size, 0, none⟩) 1 1) [(exA, .slice (some ⟨w.heap.size + 1 + 1, 0, none⟩) 2 2)] (.slice (some ⟨w5.heap.size, 0, none⟩) 1 1) _ (HN5.out.later b6) (by decide) hal (by simp)
  have HB6 := Lib.hid (HB5.out.trans (b6.mono HB5.out.size))
  have HAP := Lib.hid hap
  clear hal hap b6 HN5 HF5 HB5
  go_wp2_with fail
  refine HAP.out.mono ?_
  intro e w7 h7
  obtain ⟨mo, rfl, hlen, hb7⟩ := ex_two h7
  have HB7 := Lib.hid (HB6.out.trans (hb7.mono HB6.out.size))
  clear h7 hb7 HB6 HAP
  go_wp2
  go_ret
  exact ⟨rfl, HB7.out⟩
end Go.Proofs.Ytipnhpfpppblhaa
