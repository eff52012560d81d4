/- AlertNone: the walk. -/
import Derived.Test.YtnmgfmmjdiephaaAlSame
import Derived.Test.YtnmgfmmjdiephaaRefGood9
import Derived.Test.YtnmgfmmjdiephaaPolArgs
import Derived.Test.YtnmgfmmjdiephaaAlCut
namespace Go.Proofs.Ytnmgfmmjdiephaa
open Go.RowKit Go.Maps

theorem visL_nil (gl : List Fld) (f t : Int × Nat) : visL [] gl f t = if flowsL f.1 f.2 t.1 t.2 then gl else [] := by
  have h : ∀ x, seesL [] f t x = flowsL f.1 f.2 t.1 t.2 := fun x => rfl
  unfold visL
  rw [show seesL [] f t = (fun _ => flowsL f.1 f.2 t.1 t.2) from funext h]
  cases flowsL f.1 f.2 t.1 t.2 <;> simp
theorem cutOk_nil (gl : List Fld) (f t : Int × Nat) : cutOk [] gl f t = (decide (0 < gl.length) && flowsL f.1 f.2 t.1 t.2) := by
  unfold cutOk
  rw [visL_nil]
  cases flowsL f.1 f.2 t.1 t.2 <;> simp
theorem flowsL_trans {l : Int} {c : Nat} {m : Int} {d : Nat} {n : Int} {e : Nat} (h1 : flowsL l c m d = true) (h2 : flowsL m d n e = true) : flowsL l c n e = true := by
  unfold flowsL at *
  simp only [Bool.and_eq_true, decide_eq_true_eq] at *
  obtain ⟨⟨⟨a1, a2⟩, a3⟩, a4⟩ := h1
  obtain ⟨⟨⟨b1, b2⟩, b3⟩, b4⟩ := h2
  refine ⟨⟨⟨a1, b2⟩, by omega⟩, ?_⟩
  unfold subB at *
  rw [List.all_eq_true] at *
  intro k hk
  have ha := a4 k hk
  have hb := b4 k hk
  cases hc : c.testBit k <;> cases hd : d.testBit k <;> simp_all
/-- what the walk carries -/
structure NSt (w : World) (gx : Nat) (src : ByteArray) (xv : Value) (L : List Fld) (lv : Int) (c : Nat) (fr til : Int) (tl : Int) (tc : Nat) (ul : Int) (uc : Nat) (W : World) : Prop where
  x : C6 gx (.string src) xv (.int .i64 lv) (.int .u32 c) (.int .i64 fr) (.int .i64 til) W
  t0 : W.cell? ⟨w.heap.size + 1, 0, none⟩ = some (.int .i64 tl)
  t1 : W.cell? ⟨w.heap.size + 1, 1, none⟩ = some (.int .u32 tc)
  t2 : W.cell? ⟨w.heap.size + 1, 2, none⟩ = some (.int .i64 ul)
  t3 : W.cell? ⟨w.heap.size + 1, 3, none⟩ = some (.int .u32 uc)
  f : FldsAt W xv L
  lt : gx < W.heap.size
  ge : w.heap.size + 1 < W.heap.size
  below : Below w.heap.size w W
theorem NSt.later {w W W' : World} {gx : Nat} {src : ByteArray} {xv : Value} {L : List Fld} {lv : Int} {c : Nat} {fr til : Int} {tl : Int} {tc : Nat} {ul : Int} {uc : Nat} (h : NSt w gx src xv L lv c fr til tl tc ul uc W) (hb : Below W.heap.size W W') : NSt w gx src xv L lv c fr til tl tc ul uc W' :=
  ⟨h.x.later hb h.lt, keep_cell h.t0 hb h.ge, keep_cell h.t1 hb h.ge, keep_cell h.t2 hb h.ge, keep_cell h.t3 hb h.ge, h.f.later hb, Nat.lt_of_lt_of_le h.lt hb.size, Nat.lt_of_lt_of_le h.ge hb.size, h.below.trans (hb.mono h.below.size)⟩
namespace lawNone
set_option maxHeartbeats 3200000 in
set_option maxRecDepth 100000 in
theorem walk0 (src : ByteArray) (fl : List Fld) (fv : Value) (lv : Int) (c : Nat) (fr til : Int) (tl : Int) (tc : Nat) (ul : Int) (uc : Nat) (w : World) (hs : src.size ≤ maxLen) (hv : FldsAt w fv fl) (hfit : FldsFit fl) (hl : fl.length ≤ maxLen) (hc : c < 4294967296) (htc : tc < 4294967296) (huc : uc < 4294967296) :
    Calls Try.prog 8 #[.agg #[.string src, fv, .int .i64 lv, .int .u32 c, .int .i64 fr, .int .i64 til], .agg #[.int .i64 tl, .int .u32 tc, .int .i64 ul, .int .u32 uc]] w fun e w' => e = .returned (.bool true) ∧ Below w.heap.size w w' := by
  have kl := lives_any
  have kg := fun W (h : Below w.heap.size w W) => rgood9_any src fl fv lv c fr til W hs (hv.later h) hfit hl
  obtain ⟨fa, fc, rfl, _, _⟩ := RdAt.shape hv
  obtain ⟨L, hL⟩ : ∃ z, goodF fl = z := ⟨_, rfl⟩
  rw [hL] at kg
  generalize gSrc src = src' at *
  generalize gLv lv = lv' at *
  generalize gTil fr til = til' at *
  generalize gFr fr = fr' at *
  have KG := Lib.hid kg
  clear kg hv hfit hl hL hs
  obtain ⟨W0, hW0⟩ : ∃ z, (w.alloc (.cells #[.string src, .slice fa fl.length fc, .int .i64 lv, .int .u32 c, .int .i64 fr, .int .i64 til] 32)).alloc (.cells #[.int .i64 tl, .int .u32 tc, .int .i64 ul, .int .u32 uc] 60) = z := ⟨_, rfl⟩
  have hb0 : Below w.heap.size w W0 := by rw [← hW0]; exact (alloc_below _ _).trans ((alloc_below _ _).mono (by simp))
  have hz : w.heap.size + 2 ≤ W0.heap.size := by rw [← hW0]; simp
  have hd := (Below.refl W0.heap.size W0)
  rw [← hW0] at hd
  obtain ⟨h1, h2, h3⟩ := box_cells hd
  obtain ⟨h4, _, _⟩ := box_cells h3
  rw [World.size_alloc] at h1
  rw [hW0] at h1 h4
  have HA : Hid (C6 w.heap.size (.string src) (.slice fa fl.length fc) (.int .i64 lv) (.int .u32 c) (.int .i64 fr) (.int .i64 til) W0) := Lib.hid ⟨h4 0 _ rfl, h4 1 _ rfl, h4 2 _ rfl, h4 3 _ rfl, h4 4 _ rfl, h4 5 _ rfl⟩
  have HTT : Hid (W0.cell? ⟨w.heap.size + 1, 0, none⟩ = some (.int .i64 tl) ∧ W0.cell? ⟨w.heap.size + 1, 1, none⟩ = some (.int .u32 tc) ∧ W0.cell? ⟨w.heap.size + 1, 2, none⟩ = some (.int .i64 ul) ∧ W0.cell? ⟨w.heap.size + 1, 3, none⟩ = some (.int .u32 uc)) := Lib.hid ⟨h1 0 _ rfl, h1 1 _ rfl, h1 2 _ rfl, h1 3 _ rfl⟩
  have HB0 := Lib.hid hb0
  have HZ := Lib.hid hz
  have HW0 := Lib.hid hW0
  clear h1 h2 h3 h4 hd hb0 hz hW0
  go_enter Try.func8, Try.ntmps8
  go_upto_region 1 with fail
  rw [HW0.out]
  clear HW0
  go_wp2_with fail
  refine (kl _).mono ?_
  rintro e w1 ⟨rfl, hb1⟩
  have HA1 := Lib.hid (HA.out.later hb1 (by have := HZ.out; omega))
  have HT1 := Lib.hid (And.intro (keep_cell HTT.out.1 hb1 (by have := HZ.out; omega)) (And.intro (keep_cell HTT.out.2.1 hb1 (by have := HZ.out; omega)) (And.intro (keep_cell HTT.out.2.2.1 hb1 (by have := HZ.out; omega)) (keep_cell HTT.out.2.2.2 hb1 (by have := HZ.out; omega)))))
  have HB1 := Lib.hid (HB0.out.trans (hb1.mono HB0.out.size))
  have HZ1 := Lib.hid (Nat.le_trans HZ.out hb1.size)
  clear HA HTT HB0 HZ hb1 kl
  obtain ⟨a0, a1, a2, a3, a4, a5⟩ := HA1.out
  go_wp2_with fail
  refine (KG.out _ HB1.out).mono ?_
  rintro e w2 ⟨vg, rfl, hFg, hfitg, hrg, hb2⟩
  obtain ⟨ga, gc, rfl, _, _⟩ := RdAt.shape hFg
  have ha2 := alloc_below w2 (.cells #[.string src', .slice ga L.length gc, .int .i64 lv', .int .u32 c, .int .i64 fr', .int .i64 til'] 32)
  obtain ⟨hX2, hltx2, _⟩ := box6 (Below.refl (w2.alloc (.cells #[.string src', .slice ga L.length gc, .int .i64 lv', .int .u32 c, .int .i64 fr', .int .i64 til'] 32)).heap.size _)
  have hb12 := hb2.trans (ha2.mono hb2.size)
  have hF3 := hFg.later ha2
  have hL8 := rightF_len hrg
  clear a0 a1 a2 a3 a4 a5 HA1 KG hFg ha2 hb2
  obtain ⟨sb, hsb⟩ : ∃ z, decide (0 < L.length) = z := ⟨_, rfl⟩
  rw [hsb]
  have HSB := Lib.hid hsb
  go_upto_region 4 with fail
  change Code.wp _ _ _ _ (w2.alloc (.cells #[.string src', .slice ga L.length gc, .int .i64 lv', .int .u32 c, .int .i64 fr', .int .i64 til'] 32))
  generalize w2.alloc (.cells #[.string src', .slice ga L.length gc, .int .i64 lv', .int .u32 c, .int .i64 fr', .int .i64 til'] 32) = w3 at *
  have HB3 := Lib.hid (HB1.out.trans (hb12.mono HB1.out.size))
  have HT3 := Lib.hid (And.intro (keep_cell HT1.out.1 hb12 (by have := HZ1.out; omega)) (And.intro (keep_cell HT1.out.2.1 hb12 (by have := HZ1.out; omega)) (And.intro (keep_cell HT1.out.2.2.1 hb12 (by have := HZ1.out; omega)) (keep_cell HT1.out.2.2.2 hb12 (by have := HZ1.out; omega)))))
  have HZ3 := Lib.hid (Nat.le_trans HZ1.out hb12.size)
  have kb := fun W (h : Below w3.heap.size w3 W) => back_any src' L (.slice ga L.length gc) lv' c fr' til' W (hF3.later h) (by unfold maxLen; omega)
  rw [List.take_of_length_le (show L.length ≤ 12 by omega)] at kb
  have kb := kb w3 (Below.refl _ _)
  generalize w2.heap.size = gg at *
  obtain ⟨a0, a1, a2, a3, a4, a5⟩ := hX2
  clear HB1 HT1 HZ1 hb12 hsb hF3 hfitg hrg
  go_wp2_with fail
  refine kb.mono ?_
  rintro e w4 ⟨v4, rfl, hF4, hb4⟩
  obtain ⟨xa, xc, rfl, _, _⟩ := RdAt.shape hF4
  have ha4 := alloc_below w4 (.cells #[.string src', .slice xa L.length xc, .int .i64 lv', .int .u32 c, .int .i64 fr', .int .i64 til'] 35)
  obtain ⟨hX4, hltx4, _⟩ := box6 (Below.refl (w4.alloc (.cells #[.string src', .slice xa L.length xc, .int .i64 lv', .int .u32 c, .int .i64 fr', .int .i64 til'] 35)).heap.size _)
  have hb34 := hb4.trans (ha4.mono hb4.size)
  have hF5 := (hF4.later hb4).later ha4
  clear a0 a1 a2 a3 a4 a5 kb hF4 ha4 hb4
  go_upto_region 5 with fail
  change Code.wp _ _ _ _ (w4.alloc (.cells #[.string src', .slice xa L.length xc, .int .i64 lv', .int .u32 c, .int .i64 fr', .int .i64 til'] 35))
  generalize w4.alloc (.cells #[.string src', .slice xa L.length xc, .int .i64 lv', .int .u32 c, .int .i64 fr', .int .i64 til'] 35) = w5 at *
  generalize w4.heap.size = gx at *
  have H5 : Hid (NSt w gx src' (.slice xa L.length xc) L lv' c fr' til' tl tc ul uc w5) := Lib.hid ⟨hX4, keep_cell HT3.out.1 hb34 (by have := HZ3.out; omega), keep_cell HT3.out.2.1 hb34 (by have := HZ3.out; omega), keep_cell HT3.out.2.2.1 hb34 (by have := HZ3.out; omega), keep_cell HT3.out.2.2.2 hb34 (by have := HZ3.out; omega), hF5, hltx4, by have := HZ3.out; have := hb34.size; omega, HB3.out.trans (hb34.mono HB3.out.size)⟩
  clear hX4 hF5 hltx4 hb34 HT3 HZ3 HB3 hltx2
  obtain ⟨q0, hq0⟩ : ∃ z, flowsL lv' c tl tc = z := ⟨_, rfl⟩
  obtain ⟨q1, hq1⟩ : ∃ z, flowsL lv' c ul uc = z := ⟨_, rfl⟩
  obtain ⟨q2, hq2⟩ : ∃ z, flowsL ul uc tl tc = z := ⟨_, rfl⟩
  have HTR : Hid (q1 = true → q2 = true → q0 = true) := Lib.hid (fun h1 h2 => by rw [← hq0]; exact flowsL_trans (by rw [hq1]; exact h1) (by rw [hq2]; exact h2))
  have kf0 := fun W => rflows_any lv' c tl tc W hc htc
  have kf2 := fun W => rflows_any ul uc tl tc W huc htc
  simp only [hq0] at kf0
  simp only [hq2] at kf2
  have kc0 := fun W (h : FldsAt W (.slice xa L.length xc) L) => cut_any (none, 0, 0) (none, 0, 0) (none, 0, 0) (none, 0, 0) (none, 0, 0) [] (.slice none 0 0) src' L (.slice xa L.length xc) lv' c fr' til' tl tc W (RdAt.nil _ _) (by unfold maxLen; decide) h (by omega)
  have kc1 := fun W (h : FldsAt W (.slice xa L.length xc) L) => cut_any (none, 0, 0) (none, 0, 0) (none, 0, 0) (none, 0, 0) (none, 0, 0) [] (.slice none 0 0) src' L (.slice xa L.length xc) lv' c fr' til' ul uc W (RdAt.nil _ _) (by unfold maxLen; decide) h (by omega)
  simp only [cutOk_nil, visL_nil, HSB.out, hq0] at kc0
  simp only [cutOk_nil, visL_nil, HSB.out, hq1] at kc1
  have KC0 := Lib.hid kc0
  have KC1 := Lib.hid kc1
  have KF0 := Lib.hid kf0
  have KF2 := Lib.hid kf2
  clear kc0 kc1 kf0 kf2 hq0 hq1 hq2 hc htc huc
  obtain ⟨x0, x1, x2, x3, x4, x5⟩ := H5.out.x
  have t0 := H5.out.t0
  have t1 := H5.out.t1
  have t2 := H5.out.t2
  have t3 := H5.out.t3
  cases sb
  · have kA : ∀ W, FldsAt W (.slice xa L.length xc) L → Calls Try.prog 14 #[.agg #[.slice none 0 0, .slice none 0 0, .slice none 0 0, .slice none 0 0, .slice none 0 0, .slice none 0 0], .agg #[.string src', .slice xa L.length xc, .int .i64 lv', .int .u32 c, .int .i64 fr', .int .i64 til'], Lab tl tc] W fun e w' => e = .returned (.tuple #[.agg #[.string ⟨#[]⟩, .slice none 0 0, .int .i64 0, .int .u32 0, .int .i64 0, .int .i64 0], .bool false]) ∧ Below W.heap.size W w' := fun W h => by
      refine (KC0.out W h).mono ?_
      rintro e w' ⟨v', _, _, g2, rfl⟩
      exact ⟨rfl, g2⟩
    have kB : ∀ W, FldsAt W (.slice xa L.length xc) L → Calls Try.prog 14 #[.agg #[.slice none 0 0, .slice none 0 0, .slice none 0 0, .slice none 0 0, .slice none 0 0, .slice none 0 0], .agg #[.string src', .slice xa L.length xc, .int .i64 lv', .int .u32 c, .int .i64 fr', .int .i64 til'], Lab ul uc] W fun e w' => e = .returned (.tuple #[.agg #[.string ⟨#[]⟩, .slice none 0 0, .int .i64 0, .int .u32 0, .int .i64 0, .int .i64 0], .bool false]) ∧ Below W.heap.size W w' := fun W h => by
      refine (KC1.out W h).mono ?_
      rintro e w' ⟨v', _, _, g2, rfl⟩
      exact ⟨rfl, g2⟩
    go_wp2_with fail
    refine (kA _ H5.out.f).mono ?_
    rintro e w6 ⟨rfl, hb6⟩
    have ha6 := alloc_below w6 (.cells #[.string ⟨#[]⟩, .slice none 0 0, .int .i64 0, .int .u32 0, .int .i64 0, .int .i64 0] 35)
    obtain ⟨hY7, hlt7, _⟩ := box6 (Below.refl (w6.alloc (.cells #[.string ⟨#[]⟩, .slice none 0 0, .int .i64 0, .int .u32 0, .int .i64 0, .int .i64 0] 35)).heap.size _)
    have H7 := Lib.hid (H5.out.later (hb6.trans (ha6.mono hb6.size)))
    clear x0 x1 x2 x3 x4 x5 t0 t1 t2 t3 H5 hb6 ha6
    go_upto_region 6 with fail
    change Code.wp _ _ _ _ (w6.alloc (.cells #[.string ⟨#[]⟩, .slice none 0 0, .int .i64 0, .int .u32 0, .int .i64 0, .int .i64 0] 35))
    generalize w6.alloc (.cells #[.string ⟨#[]⟩, .slice none 0 0, .int .i64 0, .int .u32 0, .int .i64 0, .int .i64 0] 35) = w7 at *
    generalize w6.heap.size = gy7 at *
    obtain ⟨x0, x1, x2, x3, x4, x5⟩ := H7.out.x
    have t0 := H7.out.t0
    have t1 := H7.out.t1
    have t2 := H7.out.t2
    have t3 := H7.out.t3
    go_wp2_with fail
    refine (kB _ H7.out.f).mono ?_
    rintro e w8 ⟨rfl, hb8⟩
    have ha8 := alloc_below w8 (.cells #[.string ⟨#[]⟩, .slice none 0 0, .int .i64 0, .int .u32 0, .int .i64 0, .int .i64 0] 35)
    obtain ⟨hY9, hlt9, _⟩ := box6 (Below.refl (w8.alloc (.cells #[.string ⟨#[]⟩, .slice none 0 0, .int .i64 0, .int .u32 0, .int .i64 0, .int .i64 0] 35)).heap.size _)
    have H9 := Lib.hid (H7.out.later (hb8.trans (ha8.mono hb8.size)))
    clear x0 x1 x2 x3 x4 x5 t0 t1 t2 t3 H7 hb8 ha8
    go_upto_region 10 with fail
    change Code.wp _ _ _ _ (w8.alloc (.cells #[.string ⟨#[]⟩, .slice none 0 0, .int .i64 0, .int .u32 0, .int .i64 0, .int .i64 0] 35))
    generalize w8.alloc (.cells #[.string ⟨#[]⟩, .slice none 0 0, .int .i64 0, .int .u32 0, .int .i64 0, .int .i64 0] 35) = w9 at *
    generalize w8.heap.size = gy9 at *
    obtain ⟨x0, x1, x2, x3, x4, x5⟩ := H9.out.x
    have t0 := H9.out.t0
    have t1 := H9.out.t1
    have t2 := H9.out.t2
    have t3 := H9.out.t3
    go_wp2
    go_ret
    exact ⟨rfl, H9.out.below⟩
  · cases q0
    · have kA : ∀ W, FldsAt W (.slice xa L.length xc) L → Calls Try.prog 14 #[.agg #[.slice none 0 0, .slice none 0 0, .slice none 0 0, .slice none 0 0, .slice none 0 0, .slice none 0 0], .agg #[.string src', .slice xa L.length xc, .int .i64 lv', .int .u32 c, .int .i64 fr', .int .i64 til'], Lab tl tc] W fun e w' => e = .returned (.tuple #[.agg #[.string ⟨#[]⟩, .slice none 0 0, .int .i64 0, .int .u32 0, .int .i64 0, .int .i64 0], .bool false]) ∧ Below W.heap.size W w' := fun W h => by
        refine (KC0.out W h).mono ?_
        rintro e w' ⟨v', _, _, g2, rfl⟩
        exact ⟨rfl, g2⟩
      go_wp2_with fail
      refine (kA _ H5.out.f).mono ?_
      rintro e w6 ⟨rfl, hb6⟩
      have ha6 := alloc_below w6 (.cells #[.string ⟨#[]⟩, .slice none 0 0, .int .i64 0, .int .u32 0, .int .i64 0, .int .i64 0] 35)
      obtain ⟨hY7, hlt7, _⟩ := box6 (Below.refl (w6.alloc (.cells #[.string ⟨#[]⟩, .slice none 0 0, .int .i64 0, .int .u32 0, .int .i64 0, .int .i64 0] 35)).heap.size _)
      have H7 := Lib.hid (H5.out.later (hb6.trans (ha6.mono hb6.size)))
      clear x0 x1 x2 x3 x4 x5 t0 t1 t2 t3 H5 hb6 ha6
      go_upto_region 6 with fail
      change Code.wp _ _ _ _ (w6.alloc (.cells #[.string ⟨#[]⟩, .slice none 0 0, .int .i64 0, .int .u32 0, .int .i64 0, .int .i64 0] 35))
      generalize w6.alloc (.cells #[.string ⟨#[]⟩, .slice none 0 0, .int .i64 0, .int .u32 0, .int .i64 0, .int .i64 0] 35) = w7 at *
      generalize w6.heap.size = gy7 at *
      obtain ⟨x0, x1, x2, x3, x4, x5⟩ := H7.out.x
      have t0 := H7.out.t0
      have t1 := H7.out.t1
      have t2 := H7.out.t2
      have t3 := H7.out.t3
      go_wp2_with fail
      refine (KF0.out _).mono ?_
      rintro e w8 ⟨rfl, hb8⟩
      have H8 := Lib.hid (H7.out.later hb8)
      clear x0 x1 x2 x3 x4 x5 t0 t1 t2 t3 H7 hb8 hY7 hlt7
      obtain ⟨x0, x1, x2, x3, x4, x5⟩ := H8.out.x
      have t0 := H8.out.t0
      have t1 := H8.out.t1
      have t2 := H8.out.t2
      have t3 := H8.out.t3
      cases q1
      · have kB : ∀ W, FldsAt W (.slice xa L.length xc) L → Calls Try.prog 14 #[.agg #[.slice none 0 0, .slice none 0 0, .slice none 0 0, .slice none 0 0, .slice none 0 0, .slice none 0 0], .agg #[.string src', .slice xa L.length xc, .int .i64 lv', .int .u32 c, .int .i64 fr', .int .i64 til'], Lab ul uc] W fun e w' => e = .returned (.tuple #[.agg #[.string ⟨#[]⟩, .slice none 0 0, .int .i64 0, .int .u32 0, .int .i64 0, .int .i64 0], .bool false]) ∧ Below W.heap.size W w' := fun W h => by
          refine (KC1.out W h).mono ?_
          rintro e w' ⟨v', _, _, g2, rfl⟩
          exact ⟨rfl, g2⟩
        go_wp2_with fail
        refine (kB _ H8.out.f).mono ?_
        rintro e w9 ⟨rfl, hb9⟩
        have ha9 := alloc_below w9 (.cells #[.string ⟨#[]⟩, .slice none 0 0, .int .i64 0, .int .u32 0, .int .i64 0, .int .i64 0] 35)
        obtain ⟨hY10, hlt10, _⟩ := box6 (Below.refl (w9.alloc (.cells #[.string ⟨#[]⟩, .slice none 0 0, .int .i64 0, .int .u32 0, .int .i64 0, .int .i64 0] 35)).heap.size _)
        have H10 := Lib.hid (H8.out.later (hb9.trans (ha9.mono hb9.size)))
        clear x0 x1 x2 x3 x4 x5 t0 t1 t2 t3 H8 hb9 ha9
        go_upto_region 10 with fail
        change Code.wp _ _ _ _ (w9.alloc (.cells #[.string ⟨#[]⟩, .slice none 0 0, .int .i64 0, .int .u32 0, .int .i64 0, .int .i64 0] 35))
        generalize w9.alloc (.cells #[.string ⟨#[]⟩, .slice none 0 0, .int .i64 0, .int .u32 0, .int .i64 0, .int .i64 0] 35) = w10 at *
        generalize w9.heap.size = gy10 at *
        obtain ⟨x0, x1, x2, x3, x4, x5⟩ := H10.out.x
        have t0 := H10.out.t0
        have t1 := H10.out.t1
        have t2 := H10.out.t2
        have t3 := H10.out.t3
        go_wp2
        go_ret
        exact ⟨rfl, H10.out.below⟩
      · have kB : ∀ W, FldsAt W (.slice xa L.length xc) L → Calls Try.prog 14 #[.agg #[.slice none 0 0, .slice none 0 0, .slice none 0 0, .slice none 0 0, .slice none 0 0, .slice none 0 0], .agg #[.string src', .slice xa L.length xc, .int .i64 lv', .int .u32 c, .int .i64 fr', .int .i64 til'], Lab ul uc] W fun e w' => ∃ va vc, e = .returned (.tuple #[.agg #[.string src', .slice va L.length vc, .int .i64 lv', .int .u32 c, .int .i64 fr', .int .i64 til'], .bool true]) ∧ FldsAt w' (.slice va L.length vc) L ∧ Below W.heap.size W w' := fun W h => by
          refine (KC1.out W h).mono ?_
          rintro e w' ⟨v', g1, _, g2, rfl⟩
          obtain ⟨va, vc, rfl, _, _⟩ := RdAt.shape g1
          exact ⟨va, vc, rfl, g1, g2⟩
        go_wp2_with fail
        refine (kB _ H8.out.f).mono ?_
        rintro e w9 ⟨va, vc, rfl, hF9, hb9⟩
        have ha9 := alloc_below w9 (.cells #[.string src', .slice va L.length vc, .int .i64 lv', .int .u32 c, .int .i64 fr', .int .i64 til'] 35)
        obtain ⟨hY10, hlt10, _⟩ := box6 (Below.refl (w9.alloc (.cells #[.string src', .slice va L.length vc, .int .i64 lv', .int .u32 c, .int .i64 fr', .int .i64 til'] 35)).heap.size _)
        have H10 := Lib.hid (H8.out.later (hb9.trans (ha9.mono hb9.size)))
        have hF10 := hF9.later ha9
        clear x0 x1 x2 x3 x4 x5 t0 t1 t2 t3 H8 hb9 ha9 hF9
        go_upto_region 10 with fail
        change Code.wp _ _ _ _ (w9.alloc (.cells #[.string src', .slice va L.length vc, .int .i64 lv', .int .u32 c, .int .i64 fr', .int .i64 til'] 35))
        generalize w9.alloc (.cells #[.string src', .slice va L.length vc, .int .i64 lv', .int .u32 c, .int .i64 fr', .int .i64 til'] 35) = w10 at *
        generalize w9.heap.size = gy10 at *
        obtain ⟨x0, x1, x2, x3, x4, x5⟩ := H10.out.x
        have t0 := H10.out.t0
        have t1 := H10.out.t1
        have t2 := H10.out.t2
        have t3 := H10.out.t3
        have hq2 : q2 = false := by
          cases q2 with
          | false => rfl
          | true => exact absurd HTR.out (by simp)
        subst hq2
        go_wp2_with fail
        refine (KF2.out _).mono ?_
        rintro e w11 ⟨rfl, hb11⟩
        have H11 := Lib.hid (H10.out.later hb11)
        go_wp2
        go_ret
        exact ⟨rfl, H11.out.below⟩
    · have kA : ∀ W, FldsAt W (.slice xa L.length xc) L → Calls Try.prog 14 #[.agg #[.slice none 0 0, .slice none 0 0, .slice none 0 0, .slice none 0 0, .slice none 0 0, .slice none 0 0], .agg #[.string src', .slice xa L.length xc, .int .i64 lv', .int .u32 c, .int .i64 fr', .int .i64 til'], Lab tl tc] W fun e w' => ∃ va vc, e = .returned (.tuple #[.agg #[.string src', .slice va L.length vc, .int .i64 lv', .int .u32 c, .int .i64 fr', .int .i64 til'], .bool true]) ∧ FldsAt w' (.slice va L.length vc) L ∧ Below W.heap.size W w' := fun W h => by
        refine (KC0.out W h).mono ?_
        rintro e w' ⟨v', g1, _, g2, rfl⟩
        obtain ⟨va, vc, rfl, _, _⟩ := RdAt.shape g1
        exact ⟨va, vc, rfl, g1, g2⟩
      go_wp2_with fail
      refine (kA _ H5.out.f).mono ?_
      rintro e w6 ⟨va, vc, rfl, hF6, hb6⟩
      have ha6 := alloc_below w6 (.cells #[.string src', .slice va L.length vc, .int .i64 lv', .int .u32 c, .int .i64 fr', .int .i64 til'] 35)
      obtain ⟨hY7, hlt7, _⟩ := box6 (Below.refl (w6.alloc (.cells #[.string src', .slice va L.length vc, .int .i64 lv', .int .u32 c, .int .i64 fr', .int .i64 til'] 35)).heap.size _)
      have H7 := Lib.hid (H5.out.later (hb6.trans (ha6.mono hb6.size)))
      have hF7 := hF6.later ha6
      clear x0 x1 x2 x3 x4 x5 t0 t1 t2 t3 H5 hb6 ha6 hF6
      go_upto_region 6 with fail
      change Code.wp _ _ _ _ (w6.alloc (.cells #[.string src', .slice va L.length vc, .int .i64 lv', .int .u32 c, .int .i64 fr', .int .i64 til'] 35))
      generalize w6.alloc (.cells #[.string src', .slice va L.length vc, .int .i64 lv', .int .u32 c, .int .i64 fr', .int .i64 til'] 35) = w7 at *
      generalize w6.heap.size = gy7 at *
      obtain ⟨x0, x1, x2, x3, x4, x5⟩ := H7.out.x
      have t0 := H7.out.t0
      have t1 := H7.out.t1
      have t2 := H7.out.t2
      have t3 := H7.out.t3
      go_wp2_with fail
      refine (KF0.out _).mono ?_
      rintro e w8 ⟨rfl, hb8⟩
      have H8 := Lib.hid (H7.out.later hb8)
      have hY8 : C6 gy7 _ _ _ _ _ _ w8 := C6.later (W := w7) hY7 hb8 hlt7
      have hF8 := hF7.later hb8
      clear x0 x1 x2 x3 x4 x5 t0 t1 t2 t3 H7 hb8 hY7 hlt7 hF7
      obtain ⟨x0, x1, x2, x3, x4, x5⟩ := H8.out.x
      have t0 := H8.out.t0
      have t1 := H8.out.t1
      have t2 := H8.out.t2
      have t3 := H8.out.t3
      obtain ⟨y0, y1, y2, y3, y4, y5⟩ := hY8
      have ks := asame_any src' src' L L (.slice va L.length vc) (.slice xa L.length xc) lv' c fr' til' lv' c fr' til' w8 hF8 H8.out.f (by unfold maxLen; omega) (by unfold maxLen; omega)
      rw [show sameA src' src' L L lv' c fr' til' lv' c fr' til' = true by unfold sameA; simp] at ks
      clear hF8
      go_wp2_with fail
      refine ks.mono ?_
      rintro e w9 ⟨rfl, hb9⟩
      have H9 := Lib.hid (H8.out.later hb9)
      clear x0 x1 x2 x3 x4 x5 t0 t1 t2 t3 H8 hb9 ks y0 y1 y2 y3 y4 y5
      obtain ⟨x0, x1, x2, x3, x4, x5⟩ := H9.out.x
      have t0 := H9.out.t0
      have t1 := H9.out.t1
      have t2 := H9.out.t2
      have t3 := H9.out.t3
      cases q1
      · have kB : ∀ W, FldsAt W (.slice xa L.length xc) L → Calls Try.prog 14 #[.agg #[.slice none 0 0, .slice none 0 0, .slice none 0 0, .slice none 0 0, .slice none 0 0, .slice none 0 0], .agg #[.string src', .slice xa L.length xc, .int .i64 lv', .int .u32 c, .int .i64 fr', .int .i64 til'], Lab ul uc] W fun e w' => e = .returned (.tuple #[.agg #[.string ⟨#[]⟩, .slice none 0 0, .int .i64 0, .int .u32 0, .int .i64 0, .int .i64 0], .bool false]) ∧ Below W.heap.size W w' := fun W h => by
          refine (KC1.out W h).mono ?_
          rintro e w' ⟨v', _, _, g2, rfl⟩
          exact ⟨rfl, g2⟩
        go_wp2_with fail
        refine (kB _ H9.out.f).mono ?_
        rintro e w10 ⟨rfl, hb10⟩
        have ha10 := alloc_below w10 (.cells #[.string ⟨#[]⟩, .slice none 0 0, .int .i64 0, .int .u32 0, .int .i64 0, .int .i64 0] 35)
        obtain ⟨hY11, hlt11, _⟩ := box6 (Below.refl (w10.alloc (.cells #[.string ⟨#[]⟩, .slice none 0 0, .int .i64 0, .int .u32 0, .int .i64 0, .int .i64 0] 35)).heap.size _)
        have H11 := Lib.hid (H9.out.later (hb10.trans (ha10.mono hb10.size)))
        clear x0 x1 x2 x3 x4 x5 t0 t1 t2 t3 H9 hb10 ha10
        go_upto_region 10 with fail
        change Code.wp _ _ _ _ (w10.alloc (.cells #[.string ⟨#[]⟩, .slice none 0 0, .int .i64 0, .int .u32 0, .int .i64 0, .int .i64 0] 35))
        generalize w10.alloc (.cells #[.string ⟨#[]⟩, .slice none 0 0, .int .i64 0, .int .u32 0, .int .i64 0, .int .i64 0] 35) = w11 at *
        generalize w10.heap.size = gy11 at *
        obtain ⟨x0, x1, x2, x3, x4, x5⟩ := H11.out.x
        have t0 := H11.out.t0
        have t1 := H11.out.t1
        have t2 := H11.out.t2
        have t3 := H11.out.t3
        go_wp2
        go_ret
        exact ⟨rfl, H11.out.below⟩
      · have kB : ∀ W, FldsAt W (.slice xa L.length xc) L → Calls Try.prog 14 #[.agg #[.slice none 0 0, .slice none 0 0, .slice none 0 0, .slice none 0 0, .slice none 0 0, .slice none 0 0], .agg #[.string src', .slice xa L.length xc, .int .i64 lv', .int .u32 c, .int .i64 fr', .int .i64 til'], Lab ul uc] W fun e w' => ∃ va vc, e = .returned (.tuple #[.agg #[.string src', .slice va L.length vc, .int .i64 lv', .int .u32 c, .int .i64 fr', .int .i64 til'], .bool true]) ∧ FldsAt w' (.slice va L.length vc) L ∧ Below W.heap.size W w' := fun W h => by
          refine (KC1.out W h).mono ?_
          rintro e w' ⟨v', g1, _, g2, rfl⟩
          obtain ⟨va, vc, rfl, _, _⟩ := RdAt.shape g1
          exact ⟨va, vc, rfl, g1, g2⟩
        go_wp2_with fail
        refine (kB _ H9.out.f).mono ?_
        rintro e w10 ⟨va, vc, rfl, hF10, hb10⟩
        have ha10 := alloc_below w10 (.cells #[.string src', .slice va L.length vc, .int .i64 lv', .int .u32 c, .int .i64 fr', .int .i64 til'] 35)
        obtain ⟨hY11, hlt11, _⟩ := box6 (Below.refl (w10.alloc (.cells #[.string src', .slice va L.length vc, .int .i64 lv', .int .u32 c, .int .i64 fr', .int .i64 til'] 35)).heap.size _)
        have H11 := Lib.hid (H9.out.later (hb10.trans (ha10.mono hb10.size)))
        have hF11 := hF10.later ha10
        clear x0 x1 x2 x3 x4 x5 t0 t1 t2 t3 H9 hb10 ha10 hF10
        go_upto_region 10 with fail
        change Code.wp _ _ _ _ (w10.alloc (.cells #[.string src', .slice va L.length vc, .int .i64 lv', .int .u32 c, .int .i64 fr', .int .i64 til'] 35))
        generalize w10.alloc (.cells #[.string src', .slice va L.length vc, .int .i64 lv', .int .u32 c, .int .i64 fr', .int .i64 til'] 35) = w11 at *
        generalize w10.heap.size = gy11 at *
        obtain ⟨x0, x1, x2, x3, x4, x5⟩ := H11.out.x
        have t0 := H11.out.t0
        have t1 := H11.out.t1
        have t2 := H11.out.t2
        have t3 := H11.out.t3
        go_wp2
        go_ret
        exact ⟨rfl, H11.out.below⟩
theorem walk (v : Value) (x : Al) (fv : Value) (u : Value) (t : (Int × Nat) × (Int × Nat)) (w : World) (h : ArgAl w v x fv) (h2 : ArgLabs2 u t) : Calls Try.prog 8 #[v, u] w fun e w' => e = .returned (.bool true) ∧ Below w.heap.size w w' := by
  obtain ⟨rfl, r2, r3⟩ := h
  obtain ⟨rfl, s1, s2⟩ := h2
  exact walk0 x.src x.fl fv x.lv x.c x.fr x.til t.1.1 t.1.2 t.2.1 t.2.2 w r3.src r2 r3.fl r3.len r3.c s1 s2
end lawNone
end Go.Proofs.Ytnmgfmmjdiephaa
