/- BucketOrder: the walk, where there are alerts. -/
import Derived.Test.YtcfococinllcmaaBkOrder
namespace Go.Proofs.Ytcfococinllcmaa
open Go.RowKit

namespace lawOrder
set_option maxHeartbeats 32000000 in
set_option maxRecDepth 100000 in
theorem walkB (hv : Value) (h : Ha) (wv bv : Value) (lv : Value) (l : List (Al × Value)) (at' : Int) (w : World) (hh : ArgHa w hv h wv bv) (hl : AlsAt w lv l ∧ l.length ≤ maxLen) (h00 : 0 < l.length) :
    Calls Try.prog 4 #[hv, lv, .int .i64 at'] w fun e w' => e = .returned (.bool true) ∧ Below w.heap.size w w' := by
  have H00 := Lib.hid h00
  clear h00
  obtain ⟨rfl, hat, hnm, hms, hbn, hmf, _, _⟩ := hh
  have hshw : ∃ x n c, wv = .slice x n c := by obtain ⟨x, c, e, _⟩ := RdAt.shape hat.ms; exact ⟨x, _, c, e⟩
  have hshb : ∃ x n c, bv = .slice x n c := by obtain ⟨x, c, e, _⟩ := RdAt.shape hat.bl; exact ⟨x, _, c, e⟩
  have hshl : ∃ x n c, lv = .slice x n c := by obtain ⟨x, c, e, _⟩ := RdAt.shape hl.1.row; exact ⟨x, _, c, e⟩
  obtain ⟨la, ln, lc, rfl⟩ := hshl
  obtain ⟨wa, wn, wc, rfl⟩ := hshw
  obtain ⟨ba, bn, bc, rfl⟩ := hshb
  obtain ⟨W0, hW0⟩ : ∃ z, w.alloc (.cells #[.string h.nm, .int .i64 h.f, .int .u32 h.fc, .int .i64 h.t, .int .u32 h.tc, .slice wa wn wc, .slice ba bn bc] 28) = z := ⟨_, rfl⟩
  have hB0 := alloc_below w (.cells #[.string h.nm, .int .i64 h.f, .int .u32 h.fc, .int .i64 h.t, .int .u32 h.tc, .slice wa wn wc, .slice ba bn bc] 28)
  have X0 := alc7 w (.string h.nm) (.int .i64 h.f) (.int .u32 h.fc) (.int .i64 h.t) (.int .u32 h.tc) (.slice wa wn wc) (.slice ba bn bc) 28
  have hlt0 := World.size_alloc w (.cells #[.string h.nm, .int .i64 h.f, .int .u32 h.fc, .int .i64 h.t, .int .u32 h.tc, .slice wa wn wc, .slice ba bn bc] 28)
  rw [hW0] at hB0 X0 hlt0
  have kl := lives_any W0
  have kb := fun W (hW : Below w.heap.size w W) => hback_any h (.slice wa wn wc) (.slice ba bn bc) W (hat.later hW) hms hbn
  have kf := fun W (hW : Below w.heap.size w W) => few_any l (.slice la ln lc) W (hl.1.later hW) hl.2
  have hfit := cutH_fit (h := h) hnm hmf
  have KF := Lib.hid kf
  obtain ⟨nm, f, fcc, t, tc, ms, bl⟩ := h
  change HaFit ⟨nm, f, fcc, t, tc, ms.take 14, bl.take 22⟩ at hfit
  have kb2 : ∀ W, Below w.heap.size w W → Calls Try.prog 9 #[.agg #[.string nm, .int .i64 f, .int .u32 fcc, .int .i64 t, .int .u32 tc, .slice wa wn wc, .slice ba bn bc]] W fun e w' =>
      ∃ wv' bv', e = .returned (.agg #[.string nm, .int .i64 f, .int .u32 fcc, .int .i64 t, .int .u32 tc, wv', bv']) ∧ HaAt W ⟨nm, f, fcc, t, tc, ms.take 14, bl.take 22⟩ wv' bv' ∧ Below W.heap.size W w' := kb
  generalize ms.take 14 = ms' at *
  generalize bl.take 22 = bl' at *
  have KB := Lib.hid kb2
  have HFIT := Lib.hid hfit
  dsimp only at *
  have HX0 := Lib.hid X0
  have HB0 := Lib.hid hB0
  clear hat hnm hms hbn hmf hl kb kb2 kf X0 hB0 hfit
  go_enter Try.func4, Try.ntmps4
  go_upto_region 1 with fail
  try rw [hW0]
  clear hW0
  go_wp2_with fail
  refine kl.mono ?_
  rintro e w1 ⟨rfl, hb1⟩
  have HX1 := Lib.hid (HX0.out.later hb1 (by omega))
  have HB1 := Lib.hid (HB0.out.trans (hb1.mono HB0.out.size))
  have hlt1 : w.heap.size < w1.heap.size := by have := hb1.size; omega
  clear kl hb1 HX0 HB0 hlt0
  have kb := KB.out w1 HB1.out
  obtain ⟨x0, x1, x2, x3, x4, x5, x6⟩ := HX1.out
  go_wp2_with fail
  refine kb.mono ?_
  rintro e w2 ⟨wv', bv', rfl, hat2, hb2⟩
  obtain ⟨ma, mn, mc, ba', bn', bc', rfl, rfl⟩ := haat_shape hat2
  have HB2 := Lib.hid (HB1.out.trans (hb2.mono HB1.out.size))
  have hat2' := hat2.later hb2
  have hlt2 := Nat.lt_of_lt_of_le hlt1 hb2.size
  have hba := alloc_below w2 (.cells #[.string nm, .int .i64 f, .int .u32 fcc, .int .i64 t, .int .u32 tc, .slice ma mn mc, .slice ba' bn' bc'] 34)
  have hz := World.size_alloc w2 (.cells #[.string nm, .int .i64 f, .int .u32 fcc, .int .i64 t, .int .u32 tc, .slice ma mn mc, .slice ba' bn' bc'] 34)
  have hc7 := alc7 w2 (.string nm) (.int .i64 f) (.int .u32 fcc) (.int .i64 t) (.int .u32 tc) (.slice ma mn mc) (.slice ba' bn' bc') 34
  obtain ⟨g, hg⟩ : ∃ g, w2.heap.size = g := ⟨_, rfl⟩
  have L3 : OrdAt w g ⟨nm, f, fcc, t, tc, ms', bl'⟩ (.slice ma mn mc) (.slice ba' bn' bc') (w2.alloc (.cells #[.string nm, .int .i64 f, .int .u32 fcc, .int .i64 t, .int .u32 tc, .slice ma mn mc, .slice ba' bn' bc'] 34)) :=
    ⟨HB2.out.trans (hba.mono HB2.out.size), by omega, by omega, by rw [hg] at hc7; exact hc7, hat2'.later hba⟩
  have HL3 := Lib.hid L3
  have kf := KF.out _ HL3.out.b
  clear kb hb2 HX1 HB1 hlt1 KB x0 x1 x2 x3 x4 x5 x6 hat2 hat2' hba HB2 hlt2 KF hc7 L3 hz
  go_wp2_with fail
  refine kf.mono ?_
  rintro e w4 ⟨ov, dv, l1, rfl, hb4, ho4, hd4, hm4⟩
  have HL4 := Lib.hid (HL3.out.later hb4)
  have HO4 := Lib.hid ho4
  have hl1 : l1.length = min 12 l.length := by
    have := congrArg List.length hm4
    simp only [List.length_map, List.length_take] at this
    omega
  have HL1 := Lib.hid hl1
  clear hl1
  have hn1 : l1.length ≤ 12 := by
    have := congrArg List.length hm4
    rw [List.length_map, List.length_map, List.length_take] at this
    omega
  obtain ⟨oa, oc, rfl, _⟩ := als_shape ho4
  clear kf hb4 HL3 ho4 hd4 hm4
  obtain ⟨K, hK, hlt⟩ := uintModH at' ((l1.length : Int) + 1) (by omega) (by omega)
  have hw1 : IntKind.u64.wrap ((l1.length : Int) + 1) = (l1.length : Int) + 1 := IntWalk.u64_in _ ⟨by omega, by omega⟩
  have hKl : K ≤ l1.length := by omega
  have hk0 : (0 : Int) ≤ (K : Int) := by omega
  have hk1 : (K : Int) ≤ (l1.length : Int) := by omega
  go_upto_region 6 with fail
  rw [hK]
  clear hK hw1
  have hoc : l1.length ≤ oc := by
    obtain ⟨_, _, e, h, _⟩ := RdAt.shape HO4.out.row
    simp only [Value.slice.injEq] at e
    omega
  obtain ⟨i0, hi, hz0, hz1, hz2⟩ := info_parts info_al
  have HC1 : Hid (∀ y ∈ alCells l1, y.oneCell' = true) := Lib.hid (alC_cells l1 (fun p hp => by
    obtain ⟨a, c, e, _⟩ := RdAt.shape (HO4.out.fld p hp).1
    rw [e]; rfl))
  have HTU : Hid (∀ W v, Below w4.heap.size w4 W → W.ownsRow w4.heap.size 41 6 v (0 + (l1.length - K) + K) (([] ++ (alCells l1).drop (K * 6)) ++ (alCells l1).take (K * 6)) → AlsAt W v (l1.drop K ++ l1.take K) ∧ (l1.drop K ++ l1.take K).length ≤ 100) := Lib.hid (fun W v hb ho => by
    have hl : (l1.drop K ++ l1.take K).length = l1.length := by rw [List.length_append, List.length_drop, List.length_take]; omega
    refine ⟨⟨?_, fun p hp => ?_⟩, by omega⟩
    · rw [alCells_app, alCells_drop, alCells_take, hl]
      have e : 0 + (l1.length - K) + K = l1.length := by omega
      rw [e, List.nil_append] at ho
      exact RdAt.own ho
    · rcases List.mem_append.1 hp with h | h
      · have h' := List.mem_of_mem_drop h
        exact ⟨(HO4.out.fld p h').1.later hb, (HO4.out.fld p h').2⟩
      · have h' := List.mem_of_mem_take h
        exact ⟨(HO4.out.fld p h').1.later hb, (HO4.out.fld p h').2⟩)
  obtain ⟨N, hN⟩ : ∃ N : Nat, (if rightH ⟨nm, f, fcc, t, tc, ms', bl'⟩ = true then ofL bl' (countN ⟨nm, f, fcc, t, tc, ms', bl'⟩ l1 20) else 0) = N := ⟨_, rfl⟩
  have HN0 : Hid (rightH ⟨nm, f, fcc, t, tc, ms', bl'⟩ = false → N = 0) := Lib.hid (fun h => by rw [← hN, h]; rfl)
  have KT1 : Hid (∀ W v l', Below w4.heap.size w4 W → AlsAt W v l' → l'.length ≤ 100 → countN ⟨nm, f, fcc, t, tc, ms', bl'⟩ l' 20 = countN ⟨nm, f, fcc, t, tc, ms', bl'⟩ l1 20 → Calls Try.prog 11 #[.agg #[.string nm, .int .i64 f, .int .u32 fcc, .int .i64 t, .int .u32 tc, .slice ma mn mc, .slice ba' bn' bc'], v, .agg #[.int .i64 7, .int .u32 4294967295], .int .i64 20] W fun e w' => e = .returned (.tuple #[.int .i64 N, .bool (rightH ⟨nm, f, fcc, t, tc, ms', bl'⟩)]) ∧ Below W.heap.size W w') := Lib.hid (fun W v l' hb ha hl hc => by
    have := tell_any ⟨nm, f, fcc, t, tc, ms', bl'⟩ (.slice ma mn mc) (.slice ba' bn' bc') l' v 7 4294967295 20 W (HL4.out.ha.later hb) HFIT.out ha hl
    rw [tell_pair, hc] at this
    dsimp only at this
    rw [hN] at this
    exact this)
  have KT3 : Hid (∀ W v, Below w4.heap.size w4 W → AlsAt W v l1 → Calls Try.prog 11 #[.agg #[.string nm, .int .i64 f, .int .u32 fcc, .int .i64 t, .int .u32 tc, .slice ma mn mc, .slice ba' bn' bc'], v, .agg #[.int .i64 t, .int .u32 tc], .int .i64 20] W fun e w' => e = .returned (.tuple #[.int .i64 N, .bool (rightH ⟨nm, f, fcc, t, tc, ms', bl'⟩)]) ∧ Below W.heap.size W w') := Lib.hid (fun W v hb ha => by
    have := tell_any ⟨nm, f, fcc, t, tc, ms', bl'⟩ (.slice ma mn mc) (.slice ba' bn' bc') l1 v t tc 20 W (HL4.out.ha.later hb) HFIT.out ha (by omega)
    have e := tell_own ⟨nm, f, fcc, t, tc, ms', bl'⟩ l1 20
    dsimp only at e
    rw [e, tell_pair] at this
    dsimp only at this
    rw [hN] at this
    exact this)
  have HCT := Lib.hid (fun k => count_turn ⟨nm, f, fcc, t, tc, ms', bl'⟩ l1 k 20)
  generalize rightH ⟨nm, f, fcc, t, tc, ms', bl'⟩ = R at *
  clear hN
  have h0 : 0 < l1.length := by have := HL1.out; have := H00.out; omega
  · obtain ⟨_, _, e, _, hr⟩ := RdAt.shape HO4.out.row
    simp only [Value.slice.injEq] at e
    obtain ⟨rfl, _, rfl⟩ := e
    obtain ⟨b, o, rfl, hb, hcell⟩ := hr h0
    have HD := Lib.hid (rd_drop6 HO4.out.row hb K hKl)
    have HT := Lib.hid (rd_take HO4.out.row K hKl (fun h => by cases h))
    clear hcell hr
    by_cases hcap : oc = K
    · subst hcap
      have hnn : l1.length = oc := by omega
      have HTU2 : Hid (∀ W v, Below w4.heap.size w4 W → W.ownsRow w4.heap.size 41 6 v (0 + 0 + oc) (([] ++ []) ++ (alCells l1).take (oc * 6)) → AlsAt W v (l1.drop oc ++ l1.take oc) ∧ (l1.drop oc ++ l1.take oc).length ≤ 100) := Lib.hid (fun W v hb ho => HTU.out W v hb (by
        rw [show l1.length - oc = 0 by omega, (List.drop_eq_nil_of_le (by rw [alCells_len]; omega) : (alCells l1).drop (oc * 6) = [])]
        exact ho))
      rw [hnn]
      have ho5 := HO4.out
      rw [hnn] at ho5
      clear HO4
      have HO4 := Lib.hid ho5
      clear ho5
      clear HTU
      have HTU := HTU2
      clear HTU2
      go_region_held_law (fun _ => True) (exact trivial)
        (first
          | (refine step_append_rd (by rfl) (.const (.slice none 0 0)) (.tmp 37) _ (by rfl) w4.heap.size 41 i0 (.agg #[.string ⟨#[]⟩, .slice none 0 0, .int .i64 0, .int .u32 0, .int .i64 0, .int .i64 0]) 6 72 Try.underlying36 hi hz0 hz1 hz2 rfl (by decide) _ 0 [] (by rfl) (by exact World.ownsRow_nil _ _ _ _) _ 0 [] (by rfl) (by exact rd_empty6 _ _ _) (fun y hy => by cases hy) (by unfold maxLen; omega) (by omega) (by simp) ?_; intro v1 w1' hown1 hgrow1 _; have hb1 : Below w4.heap.size w4 w1' := (((Below.refl w4.heap.size w4).drew)).grown hgrow1 (by simp) (fun m hm => by cases hm))
          | (refine step_append_rd (by rfl) (.tmp 38) (.tmp 41) _ (by rfl) w4.heap.size 41 i0 (.agg #[.string ⟨#[]⟩, .slice none 0 0, .int .i64 0, .int .u32 0, .int .i64 0, .int .i64 0]) 6 72 Try.underlying36 hi hz0 hz1 hz2 rfl (by decide) _ _ _ (by rfl) (by exact hown1) _ oc ((alCells l1).take (oc * 6)) (by rfl) (by exact HT.out.later hb1) (fun y hy => HC1.out y (List.mem_of_mem_take hy)) (by unfold maxLen; omega) (by omega) (by exact hb1.size) ?_; intro v2 w2' hown2 hgrow2 _; have hb2 : Below w4.heap.size w4 w2' := hb1.grown hgrow2 hb1.size (fun m hm => (hown1.lt m hm).1)))
      all_goals
        have HTA := HTU.out _ _ hb2 hown2
        have HB6 := Lib.hid hb2
        have kt := KT1.out _ _ _ hb2 (HO4.out.later hb2) (by first | omega | decide) rfl
        have HT6 := Lib.hid HTA
        have X := HL4.out.hc.later hb2 HL4.out.gz
        obtain ⟨x0, x1, x2, x3, x4, x5, x6⟩ := X
        dsimp only at x0 x1 x2 x3 x4 x5 x6
        clear hown1 hown2 hgrow1 hgrow2 hb1 hb2 HTU HTA HC1
        go_wp2_with fail
        refine kt.mono ?_
        rintro e w7 ⟨rfl, hb7⟩
        have HB7 := Lib.hid (HB6.out.trans (hb7.mono HB6.out.size))
        have kt2 := KT1.out _ _ _ HB7.out (HT6.out.1.later hb7) HT6.out.2 (HCT.out _)
        clear kt hb7 x0 x1 x2 x3 x4 x5 x6 HB6 HT6
        obtain ⟨x0, x1, x2, x3, x4, x5, x6⟩ := HL4.out.hc.later HB7.out HL4.out.gz
        dsimp only at x0 x1 x2 x3 x4 x5 x6
        go_wp2_with fail
        refine kt2.mono ?_
        rintro e w8 ⟨rfl, hb8⟩
        have HB8 := Lib.hid (HB7.out.trans (hb8.mono HB7.out.size))
        have kt3 := KT3.out _ _ HB8.out (HO4.out.later HB8.out)
        clear kt2 hb8 x0 x1 x2 x3 x4 x5 x6 HB7
        obtain ⟨x0, x1, x2, x3, x4, x5, x6⟩ := HL4.out.hc.later HB8.out HL4.out.gz
        dsimp only at x0 x1 x2 x3 x4 x5 x6
        go_wp2_with fail
        refine kt3.mono ?_
        rintro e w9 ⟨rfl, hb9⟩
        have HB9 := Lib.hid (HL4.out.b.trans ((HB8.out.trans (hb9.mono HB8.out.size)).mono HL4.out.b.size))
        clear kt3 hb9 x0 x1 x2 x3 x4 x5 x6 HB8 KT1 KT3
        cases R with
        | true =>
          go_wp2
          go_ret
          exact ⟨rfl, HB9.out⟩
        | false =>
          obtain rfl : N = 0 := HN0.out (by first | rfl | trivial)
          go_wp2
          go_ret
          exact ⟨rfl, HB9.out⟩
    · go_region_held_law (fun _ => True) (exact trivial)
        (first
          | (refine step_append_rd (by rfl) (.const (.slice none 0 0)) (.tmp 37) _ (by rfl) w4.heap.size 41 i0 (.agg #[.string ⟨#[]⟩, .slice none 0 0, .int .i64 0, .int .u32 0, .int .i64 0, .int .i64 0]) 6 72 Try.underlying36 hi hz0 hz1 hz2 rfl (by decide) _ 0 [] (by rfl) (by exact World.ownsRow_nil _ _ _ _) _ (l1.length - K) ((alCells l1).drop (K * 6)) (by rfl) (by exact HD.out.later ((Below.refl w4.heap.size w4).drew)) (fun y hy => HC1.out y (List.mem_of_mem_drop hy)) (by unfold maxLen; omega) (by omega) (by simp) ?_; intro v1 w1' hown1 hgrow1 _; have hb1 : Below w4.heap.size w4 w1' := (((Below.refl w4.heap.size w4).drew)).grown hgrow1 (by simp) (fun m hm => by cases hm))
          | (refine step_append_rd (by rfl) (.tmp 38) (.tmp 41) _ (by rfl) w4.heap.size 41 i0 (.agg #[.string ⟨#[]⟩, .slice none 0 0, .int .i64 0, .int .u32 0, .int .i64 0, .int .i64 0]) 6 72 Try.underlying36 hi hz0 hz1 hz2 rfl (by decide) _ _ _ (by rfl) (by exact hown1) _ K ((alCells l1).take (K * 6)) (by rfl) (by exact HT.out.later hb1) (fun y hy => HC1.out y (List.mem_of_mem_take hy)) (by unfold maxLen; omega) (by omega) (by exact hb1.size) ?_; intro v2 w2' hown2 hgrow2 _; have hb2 : Below w4.heap.size w4 w2' := hb1.grown hgrow2 hb1.size (fun m hm => (hown1.lt m hm).1)))
      all_goals
        have HTA := HTU.out _ _ hb2 hown2
        have HB6 := Lib.hid hb2
        have kt := KT1.out _ _ _ hb2 (HO4.out.later hb2) (by first | omega | decide) rfl
        have HT6 := Lib.hid HTA
        have X := HL4.out.hc.later hb2 HL4.out.gz
        obtain ⟨x0, x1, x2, x3, x4, x5, x6⟩ := X
        dsimp only at x0 x1 x2 x3 x4 x5 x6
        clear hown1 hown2 hgrow1 hgrow2 hb1 hb2 HTU HTA HC1
        go_wp2_with fail
        refine kt.mono ?_
        rintro e w7 ⟨rfl, hb7⟩
        have HB7 := Lib.hid (HB6.out.trans (hb7.mono HB6.out.size))
        have kt2 := KT1.out _ _ _ HB7.out (HT6.out.1.later hb7) HT6.out.2 (HCT.out _)
        clear kt hb7 x0 x1 x2 x3 x4 x5 x6 HB6 HT6
        obtain ⟨x0, x1, x2, x3, x4, x5, x6⟩ := HL4.out.hc.later HB7.out HL4.out.gz
        dsimp only at x0 x1 x2 x3 x4 x5 x6
        go_wp2_with fail
        refine kt2.mono ?_
        rintro e w8 ⟨rfl, hb8⟩
        have HB8 := Lib.hid (HB7.out.trans (hb8.mono HB7.out.size))
        have kt3 := KT3.out _ _ HB8.out (HO4.out.later HB8.out)
        clear kt2 hb8 x0 x1 x2 x3 x4 x5 x6 HB7
        obtain ⟨x0, x1, x2, x3, x4, x5, x6⟩ := HL4.out.hc.later HB8.out HL4.out.gz
        dsimp only at x0 x1 x2 x3 x4 x5 x6
        go_wp2_with fail
        refine kt3.mono ?_
        rintro e w9 ⟨rfl, hb9⟩
        have HB9 := Lib.hid (HL4.out.b.trans ((HB8.out.trans (hb9.mono HB8.out.size)).mono HL4.out.b.size))
        clear kt3 hb9 x0 x1 x2 x3 x4 x5 x6 HB8 KT1 KT3
        cases R with
        | true =>
          go_wp2
          go_ret
          exact ⟨rfl, HB9.out⟩
        | false =>
          obtain rfl : N = 0 := HN0.out (by first | rfl | trivial)
          go_wp2
          go_ret
          exact ⟨rfl, HB9.out⟩
theorem walk (hv : Value) (h : Ha) (wv bv : Value) (lv : Value) (l : List (Al × Value)) (at' : Int) (w : World) (hh : ArgHa w hv h wv bv) (hl : AlsAt w lv l ∧ l.length ≤ maxLen) :
    Calls Try.prog 4 #[hv, lv, .int .i64 at'] w fun e w' => e = .returned (.bool true) ∧ Below w.heap.size w w' :=
  (Nat.eq_zero_or_pos l.length).elim (fun h0 => walkA hv h wv bv lv l at' w hh hl h0) (fun h0 => walkB hv h wv bv lv l at' w hh hl h0)
end lawOrder
end Go.Proofs.Ytcfococinllcmaa
