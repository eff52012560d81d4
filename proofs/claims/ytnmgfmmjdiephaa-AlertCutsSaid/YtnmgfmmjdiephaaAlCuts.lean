/- AlertCuts: the walk. -/
import Derived.Test.YtnmgfmmjdiephaaRefB
import Derived.Test.YtnmgfmmjdiephaaPolArgs
import Derived.Test.YtnmgfmmjdiephaaHeldT
namespace Go.Proofs.Ytnmgfmmjdiephaa
open Go.RowKit Go.Maps

theorem cutR_shape (ok : Bool) (src : ByteArray) (lv : Int) (c : Nat) (fr til : Int) (V : List Fld) : ∃ (sb : ByteArray) (fb : List Fld) (lb : Int) (cb : Nat) (frb tb : Int), fb.length ≤ V.length ∧
    ∀ (v : Value) (W : World), FldsAt W v V → ∃ vb, FldsAt W vb fb ∧ cutR ok src v lv c fr til = .agg #[.string sb, vb, .int .i64 lb, .int .u32 cb, .int .i64 frb, .int .i64 tb] ∧ ∀ q, vb.ownBlock = some q → v.ownBlock = some q := by
  cases ok
  · exact ⟨⟨#[]⟩, [], 0, 0, 0, 0, Nat.zero_le _, fun v W _ => ⟨.slice none 0 0, RdAt.nil W 2, rfl, fun q hq => by simp [Value.ownBlock] at hq⟩⟩
  · exact ⟨src, V, lv, c, fr, til, Nat.le_refl _, fun v W h => ⟨v, h, rfl, fun q hq => hq⟩⟩
theorem nmd_take {w : World} {a : Option Addr} {n c : Nat} {rs : List Nmd} (h : NmdsAt w (.slice a n c) rs) : NmdsAt w (.slice a (min n 14) c) (rs.take 14) := by
  obtain ⟨hl, hr⟩ := h
  have hn : n = rs.length := by
    rcases hr with ⟨h1, h0⟩ | ⟨ad, c', h1, _⟩
    · simp only [Value.slice.injEq] at h1; omega
    · simp only [Value.slice.injEq] at h1; exact h1.2.1
  have hlt : (rs.take 14).length = min n 14 := by rw [List.length_take, hn]; omega
  have hcells : nmdCells (rs.take 14) = (nmdCells rs).take (min n 14 * 3) := by
    have hg : ∀ (l : List Nmd) (k : Nat), nmdCells (l.take k) = (nmdCells l).take (k * 3) := by
      intro l
      induction l with
      | nil => intro k; simp [nmdCells]
      | cons x l ih =>
        intro k
        cases k with
        | zero => simp [nmdCells]
        | succ k =>
          have h3 : ∀ k : Nat, (nmdC x).length ≤ (k + 1) * 3 := fun k => by rw [show (nmdC x).length = 3 from rfl]; omega
          simp only [List.take_succ_cons, nmdCells, ih k]
          rw [List.take_append, show (nmdC x).length = 3 from rfl, List.take_of_length_le (h3 k), show (k + 1) * 3 - 3 = k * 3 by omega]
    rw [hg]
    rcases Nat.le_total n 14 with h | h
    · rw [Nat.min_eq_left h, List.take_of_length_le (by rw [hl, ← hn]; omega), List.take_of_length_le (by rw [hl, ← hn]; omega)]
    · rw [Nat.min_eq_right h]
  unfold NmdsAt
  rw [hlt, hcells]
  refine ⟨by rw [List.length_take, hl, ← hn]; omega, ?_⟩
  rcases hr with ⟨h1, h0⟩ | ⟨ad, c', h1, hc, hr⟩
  · simp only [Value.slice.injEq] at h1
    obtain ⟨rfl, h2, rfl⟩ := h1
    exact .inl ⟨by rw [show min n 14 = 0 by omega], by omega⟩
  · simp only [Value.slice.injEq] at h1
    obtain ⟨rfl, _, rfl⟩ := h1
    refine .inr ⟨ad, c, rfl, by omega, fun h0 => ?_⟩
    obtain ⟨b, o, rfl, hlt, hcell⟩ := hr (by omega)
    refine ⟨b, o, rfl, hlt, fun j x hj => hcell j x ?_⟩
    have hjl := (List.getElem?_eq_some_iff.1 hj).1
    rw [List.length_take] at hjl
    rwa [List.getElem?_take_of_lt (by omega)] at hj
theorem c6_puts (w : World) (g : Nat) (a b c d e f : Value) (ht : w.there g 0 6) : C6 g a b c d e f (w.setCells g 0 [a, b, c, d, e, f]) := by
  have h := World.rangeAt_setCells_same w g 0 [a, b, c, d, e, f] ht
  refine ⟨?_, ?_, ?_, ?_, ?_, ?_⟩
  · simpa using h 0 a rfl
  · simpa using h 1 b rfl
  · simpa using h 2 c rfl
  · simpa using h 3 d rfl
  · simpa using h 4 e rfl
  · simpa using h 5 f rfl
theorem c6_out {w : World} {p g : Nat} {a b c d e f : Value} (h : C6 p a b c d e f w) (hg : p ≠ g) (o : Nat) (vs : List Value) : C6 p a b c d e f (w.setCells g o vs) := by
  obtain ⟨h0, h1, h2, h3, h4, h5⟩ := h
  refine ⟨?_, ?_, ?_, ?_, ?_, ?_⟩ <;> (rw [World.cell?_setCells_out _ _ _ _ _ (fun hb _ => absurd hb hg)]; assumption)
namespace lawCuts
set_option maxHeartbeats 3200000 in
set_option maxRecDepth 100000 in
theorem walk0 (a0 a1 a2 a3 a4 a5 : Option Addr) (n0 n1 n2 n3 n4 n5 c0 c1 c2 c3 c4 c5 : Nat) (h0 : n0 ≤ c0 ∧ c0 ≤ maxLen) (h1 : n1 ≤ c1 ∧ c1 ≤ maxLen) (h2 : n2 ≤ c2 ∧ c2 ≤ maxLen) (h3 : n3 ≤ c3 ∧ c3 ≤ maxLen) (h4 : n4 ≤ c4 ∧ c4 ≤ maxLen) (h5 : n5 ≤ c5 ∧ c5 ≤ maxLen)
    (rs : List Nmd) (src : ByteArray) (fl : List Fld) (fv : Value) (lv : Int) (c : Nat) (fr til : Int) (tl : Int) (tc : Nat) (w : World) (hv : FldsAt w fv fl) (hl : fl.length ≤ maxLen) (hr : NmdsAt w (.slice a3 n3 c3) rs) (hfit : NmdFit rs) (hc : c < 4294967296) (htc : tc < 4294967296) :
    Calls Try.prog 3 #[.agg #[.slice a0 n0 c0, .slice a1 n1 c1, .slice a2 n2 c2, .slice a3 n3 c3, .slice a4 n4 c4, .slice a5 n5 c5], .agg #[.string src, fv, .int .i64 lv, .int .u32 c, .int .i64 fr, .int .i64 til], Lab tl tc] w fun e w' => e = .returned (.bool true) ∧ Below w.heap.size w w' := by
  have kl := lives_any
  have kc := fun W => rcut_any a0 a1 a2 a3 a4 a5 n0 n1 n2 n3 n4 n5 c0 c1 c2 c3 c4 c5 W h0 h1 h2 h3 h4 h5
  have kb := fun W (h : Below w.heap.size w W) => back_any src fl fv lv c fr til W (hv.later h) hl
  have hgl : (fl.take 12).length ≤ 12 := by rw [List.length_take]; omega
  have hN := nmd_take hr
  have hNL : (rs.take 14).length ≤ 14 := by rw [List.length_take]; omega
  have hNF : NmdFit (rs.take 14) := fun x hx => hfit x (List.mem_of_mem_take hx)
  obtain ⟨fa, fc, rfl, _, _⟩ := RdAt.shape hv
  generalize fl.take 12 = gl at *
  generalize rs.take 14 = qs at *
  generalize min n0 14 = m0 at *
  generalize min n1 14 = m1 at *
  generalize min n2 14 = m2 at *
  generalize min n3 14 = m3 at *
  generalize min n4 14 = m4 at *
  generalize min n5 14 = m5 at *
  have hm3 : m3 = qs.length := by
    obtain ⟨a, c', he, _⟩ := RdAt.shape hN
    simp only [Value.slice.injEq] at he
    exact he.2.1
  subst hm3
  have KB := Lib.hid kb
  have HN := Lib.hid hN
  have HNF := Lib.hid hNF
  clear kb hv hl hr hfit hN hNF h0 h1 h2 h3 h4 h5
  obtain ⟨W0, hW0⟩ : ∃ z, ((w.alloc (.cells #[.slice a0 n0 c0, .slice a1 n1 c1, .slice a2 n2 c2, .slice a3 n3 c3, .slice a4 n4 c4, .slice a5 n5 c5] 26)).alloc (.cells #[.string src, .slice fa fl.length fc, .int .i64 lv, .int .u32 c, .int .i64 fr, .int .i64 til] 32)).alloc (.cells #[.int .i64 tl, .int .u32 tc] 30) = z := ⟨_, rfl⟩
  have hb0 : Below w.heap.size w W0 := by rw [← hW0]; exact ((alloc_below _ _).trans ((alloc_below _ _).mono (by simp))).trans ((alloc_below _ _).mono (by simp; omega))
  have hz : W0.heap.size = w.heap.size + 1 + 1 + 1 := by rw [← hW0]; simp
  have hbb := (Below.refl W0.heap.size W0)
  rw [← hW0] at hbb
  obtain ⟨g1, g2, g3⟩ := box_cells hbb
  obtain ⟨g4, g5, g6, g7⟩ := box_two g3
  have g8 := (box_cells g3).2.2
  have hT : W0.there w.heap.size 0 6 := hW0 ▸ box_there g8
  rw [hW0] at g1 g4 g5
  simp only [World.size_alloc] at g1
  have HP : Hid (C6 w.heap.size (.slice a0 n0 c0) (.slice a1 n1 c1) (.slice a2 n2 c2) (.slice a3 n3 c3) (.slice a4 n4 c4) (.slice a5 n5 c5) W0) := Lib.hid ⟨g4 0 _ rfl, g4 1 _ rfl, g4 2 _ rfl, g4 3 _ rfl, g4 4 _ rfl, g4 5 _ rfl⟩
  have HA : Hid (C6 (w.heap.size + 1) (.string src) (.slice fa fl.length fc) (.int .i64 lv) (.int .u32 c) (.int .i64 fr) (.int .i64 til) W0) := Lib.hid ⟨g5 0 _ rfl, g5 1 _ rfl, g5 2 _ rfl, g5 3 _ rfl, g5 4 _ rfl, g5 5 _ rfl⟩
  have HL : Hid (W0.cell? ⟨w.heap.size + 1 + 1, 0, none⟩ = some (.int .i64 tl) ∧ W0.cell? ⟨w.heap.size + 1 + 1, 1, none⟩ = some (.int .u32 tc)) := Lib.hid ⟨g1 0 _ rfl, g1 1 _ rfl⟩
  have HT := Lib.hid hT
  have HB := Lib.hid hb0
  have HZ := Lib.hid (Nat.le_of_eq hz.symm)
  have HW0 := Lib.hid hW0
  clear g1 g2 g3 g4 g5 g6 g7 g8 hbb hT hb0 hz hW0
  go_enter Try.func3, Try.ntmps3
  go_upto_region 1 with fail
  rw [HW0.out]
  clear HW0
  go_wp2_with fail
  refine (kl _).mono ?_
  rintro e w1 ⟨rfl, hb1⟩
  have HB1 := Lib.hid (HB.out.trans (hb1.mono HB.out.size))
  have HP1 := Lib.hid (HP.out.later hb1 (by have := HZ.out; omega))
  have HA1 := Lib.hid (HA.out.later hb1 (by have := HZ.out; omega))
  have HL1 := Lib.hid (And.intro (keep_cell HL.out.1 hb1 (by have := HZ.out; omega)) (keep_cell HL.out.2 hb1 (by have := HZ.out; omega)))
  have HT1 := Lib.hid (there_later HT.out hb1 (by have := HZ.out; omega))
  have HZ1 := Lib.hid (Nat.le_trans HZ.out hb1.size)
  clear kl hb1 HB HP HA HL HT HZ
  obtain ⟨p0, p1, p2, p3, p4, p5⟩ := HP1.out
  go_wp2_with fail
  refine (kc _).mono ?_
  rintro e w2 ⟨rfl, hb2⟩
  have HB2 := Lib.hid (HB1.out.trans (hb2.mono HB1.out.size))
  have HA2 := Lib.hid (HA1.out.later hb2 (by have := HZ1.out; omega))
  have HL2 := Lib.hid (And.intro (keep_cell HL1.out.1 hb2 (by have := HZ1.out; omega)) (keep_cell HL1.out.2 hb2 (by have := HZ1.out; omega)))
  have HT2 := Lib.hid (there_later HT1.out hb2 (by have := HZ1.out; omega))
  have HZ2 := Lib.hid (Nat.le_trans HZ1.out hb2.size)
  have hP2 := HP1.out.later hb2 (by have := HZ1.out; omega)
  clear kc hb2 HB1 HP1 HA1 HL1 HT1 HZ1 p0 p1 p2 p3 p4 p5
  obtain ⟨p0, p1, p2, p3, p4, p5⟩ := hP2
  have f0 := there_free HT2.out 0 (by decide)
  have f1 := there_free HT2.out 1 (by decide)
  have f2 := there_free HT2.out 2 (by decide)
  have f3 := there_free HT2.out 3 (by decide)
  have f4 := there_free HT2.out 4 (by decide)
  have f5 := there_free HT2.out 5 (by decide)
  go_upto_region 4 with fail
  change Code.wp _ _ _ _ (w2.setCells w.heap.size 0 [.slice a0 m0 c0, .slice a1 m1 c1, .slice a2 m2 c2, .slice a3 qs.length c3, .slice a4 m4 c4, .slice a5 m5 c5])
  have hP3 := c6_puts w2 w.heap.size (.slice a0 m0 c0) (.slice a1 m1 c1) (.slice a2 m2 c2) (.slice a3 qs.length c3) (.slice a4 m4 c4) (.slice a5 m5 c5) HT2.out
  have hA3 := c6_out HA2.out (g := w.heap.size) (by omega) 0 [.slice a0 m0 c0, .slice a1 m1 c1, .slice a2 m2 c2, .slice a3 qs.length c3, .slice a4 m4 c4, .slice a5 m5 c5]
  have hB3 := below_puts (g := w.heap.size) (o := 0) HB2.out (Nat.le_refl _) [.slice a0 m0 c0, .slice a1 m1 c1, .slice a2 m2 c2, .slice a3 qs.length c3, .slice a4 m4 c4, .slice a5 m5 c5]
  have hL3 : (w2.setCells w.heap.size 0 [.slice a0 m0 c0, .slice a1 m1 c1, .slice a2 m2 c2, .slice a3 qs.length c3, .slice a4 m4 c4, .slice a5 m5 c5]).cell? ⟨w.heap.size + 1 + 1, 0, none⟩ = some (.int .i64 tl) ∧ (w2.setCells w.heap.size 0 [.slice a0 m0 c0, .slice a1 m1 c1, .slice a2 m2 c2, .slice a3 qs.length c3, .slice a4 m4 c4, .slice a5 m5 c5]).cell? ⟨w.heap.size + 1 + 1, 1, none⟩ = some (.int .u32 tc) := by
    constructor <;> rw [World.cell?_setCells_out _ _ _ _ _ (fun hb _ => by simp at hb; omega)]
    · exact HL2.out.1
    · exact HL2.out.2
  have hZ3 := Nat.le_trans HZ2.out (below_puts_base (g := w.heap.size) (o := 0) (Below.refl 0 w2) (Nat.zero_le _) [.slice a0 m0 c0, .slice a1 m1 c1, .slice a2 m2 c2, .slice a3 qs.length c3, .slice a4 m4 c4, .slice a5 m5 c5]).size
  generalize w2.setCells w.heap.size 0 [.slice a0 m0 c0, .slice a1 m1 c1, .slice a2 m2 c2, .slice a3 qs.length c3, .slice a4 m4 c4, .slice a5 m5 c5] = w3 at *
  clear f0 f1 f2 f3 f4 f5 p0 p1 p2 p3 p4 p5 HB2 HA2 HL2 HT2 HZ2
  have HP3 := Lib.hid hP3
  have HA3 := Lib.hid hA3
  have HL3 := Lib.hid hL3
  have HB3 := Lib.hid hB3
  have HZ3 := Lib.hid hZ3
  have kb := KB.out w3 hB3
  obtain ⟨x0, x1, x2, x3, x4, x5⟩ := hA3
  clear hP3 hL3 hB3 hZ3 KB
  go_wp2_with fail
  refine kb.mono ?_
  rintro e w4 ⟨v4, rfl, hF4, hb4⟩
  obtain ⟨xa, xc, rfl, _, _⟩ := RdAt.shape hF4
  have ha4 := alloc_below w4 (.cells #[.string src, .slice xa gl.length xc, .int .i64 lv, .int .u32 c, .int .i64 fr, .int .i64 til] 35)
  have hb34 := hb4.trans (ha4.mono hb4.size)
  obtain ⟨hX, hltx, _⟩ := box6 (Below.refl (w4.alloc (.cells #[.string src, .slice xa gl.length xc, .int .i64 lv, .int .u32 c, .int .i64 fr, .int .i64 til] 35)).heap.size _)
  have hF5 := (hF4.later hb4).later ha4
  have HZ4 := Lib.hid (Nat.le_trans HZ3.out hb4.size)
  clear x0 x1 x2 x3 x4 x5 HA3 hF4 kb ha4
  go_upto_region 5 with fail
  change Code.wp _ _ _ _ (w4.alloc (.cells #[.string src, .slice xa gl.length xc, .int .i64 lv, .int .u32 c, .int .i64 fr, .int .i64 til] 35))
  generalize w4.alloc (.cells #[.string src, .slice xa gl.length xc, .int .i64 lv, .int .u32 c, .int .i64 fr, .int .i64 til] 35) = w5 at *
  have HP5 := Lib.hid (HP3.out.later hb34 (by have := HZ3.out; omega))
  have HL5 := Lib.hid (And.intro (keep_cell HL3.out.1 hb34 (by have := HZ3.out; omega)) (keep_cell HL3.out.2 hb34 (by have := HZ3.out; omega)))
  have HB5 := Lib.hid (HB3.out.trans (hb34.mono HB3.out.size))
  have hgx := HZ4.out
  generalize w4.heap.size = gx at *
  have HX5 : Hid (C6 gx (.string src) (.slice xa gl.length xc) (.int .i64 lv) (.int .u32 c) (.int .i64 fr) (.int .i64 til) w5) := Lib.hid hX
  have HF5 := Lib.hid hF5
  have HGX := Lib.hid hgx
  have HLT5 := Lib.hid hltx
  clear hX hF5 hgx hltx hb34 hb4 HP3 HL3 HB3 HZ3 HZ4
  have k1 := cut_any (a0, m0, c0) (a1, m1, c1) (a2, m2, c2) (a4, m4, c4) (a5, m5, c5) qs (.slice a3 qs.length c3) src gl (.slice xa gl.length xc) lv c fr til tl tc w5 (HN.out.later HB5.out) (by unfold maxLen; omega) HF5.out (by omega)
  obtain ⟨ok, hok⟩ : ∃ z, cutOk qs gl (lv, c) (tl, tc) = z := ⟨_, rfl⟩
  rw [hok] at k1
  obtain ⟨V, hV⟩ : ∃ z, visL qs gl (lv, c) (tl, tc) = z := ⟨_, rfl⟩
  have hVL : V.length ≤ 12 := by rw [← hV]; exact Nat.le_trans (List.length_filter_le _ _) hgl
  rw [hV] at k1
  obtain ⟨sb, fb, lb, cb, frb, tb, hfb, hsh⟩ := cutR_shape ok src lv c fr til V
  have HOK := Lib.hid hok
  have HV := Lib.hid hV
  have HSH := Lib.hid hsh
  have HFB := Lib.hid (Nat.le_trans hfb hVL)
  clear hok hV hsh hfb hVL
  obtain ⟨p0, p1, p2, p3, p4, p5⟩ := HP5.out
  obtain ⟨x0, x1, x2, x3, x4, x5⟩ := HX5.out
  obtain ⟨l0, l1⟩ := HL5.out
  go_wp2_with fail
  refine k1.mono ?_
  rintro e w6 ⟨v6, hF6, _, hb6, rfl⟩
  obtain ⟨vb, hFb, hcr, _⟩ := HSH.out v6 w6 hF6
  rw [hcr]
  obtain ⟨ba, bc, rfl, _, _⟩ := RdAt.shape hFb
  have ha6 := alloc_below w6 (.cells #[.string sb, .slice ba fb.length bc, .int .i64 lb, .int .u32 cb, .int .i64 frb, .int .i64 tb] 35)
  have hb57 := hb6.trans (ha6.mono hb6.size)
  obtain ⟨hY, hlty, _⟩ := box6 (Below.refl (w6.alloc (.cells #[.string sb, .slice ba fb.length bc, .int .i64 lb, .int .u32 cb, .int .i64 frb, .int .i64 tb] 35)).heap.size _)
  have hFb7 := hFb.later ha6
  have hgy := Nat.le_trans HLT5.out hb6.size
  clear p0 p1 p2 p3 p4 p5 x0 x1 x2 x3 x4 x5 l0 l1 hFb hcr hF6 ha6 k1
  go_upto_region 6 with fail
  change Code.wp _ _ _ _ (w6.alloc (.cells #[.string sb, .slice ba fb.length bc, .int .i64 lb, .int .u32 cb, .int .i64 frb, .int .i64 tb] 35))
  generalize w6.alloc (.cells #[.string sb, .slice ba fb.length bc, .int .i64 lb, .int .u32 cb, .int .i64 frb, .int .i64 tb] 35) = w7 at *
  have hP7 := HP5.out.later hb57 (by have := HLT5.out; have := HGX.out; omega)
  have hX7 := HX5.out.later hb57 HLT5.out
  have HL7 := Lib.hid (And.intro (keep_cell HL5.out.1 hb57 (by have := HLT5.out; have := HGX.out; omega)) (keep_cell HL5.out.2 hb57 (by have := HLT5.out; have := HGX.out; omega)))
  have HB7 := Lib.hid (HB5.out.trans (hb57.mono HB5.out.size))
  have HF7 := Lib.hid (HF5.out.later hb57)
  generalize w6.heap.size = gy at *
  have HY7 : Hid (C6 gy (.string sb) (.slice ba fb.length bc) (.int .i64 lb) (.int .u32 cb) (.int .i64 frb) (.int .i64 tb) w7) := Lib.hid hY
  have HFb7 := Lib.hid hFb7
  have HLT7 := Lib.hid hlty
  have HGY := Lib.hid hgy
  clear hY hlty hFb7 hgy hb57 hb6 HP5 HX5 HL5 HB5 HF5 HLT5
  have k2 := as_any src xa gl.length xc lv c fr til
  have k3 := fun W (h : Below w7.heap.size w7 W) => rcutA_any (a0, m0, c0) (a1, m1, c1) (a2, m2, c2) (a4, m4, c4) (a5, m5, c5) qs (.slice a3 qs.length c3) src gl (.slice xa gl.length xc) lv c fr til tl tc W ((HN.out.later HB7.out).later h) (by unfold maxLen; omega) (HF7.out.later h) (by omega) HNF.out hc htc
  rw [HOK.out, HV.out] at k3
  have k3 : ∀ W, Below w7.heap.size w7 W → Calls Try.prog 15 #[.agg #[.slice a0 m0 c0, .slice a1 m1 c1, .slice a2 m2 c2, .slice a3 qs.length c3, .slice a4 m4 c4, .slice a5 m5 c5], .agg #[.string src, .slice xa gl.length xc, .int .i64 lv, .int .u32 c, .int .i64 fr, .int .i64 til], Lab tl tc] W fun e w' =>
      ∃ za zc, e = .returned (.tuple #[.agg #[.string sb, .slice za fb.length zc, .int .i64 lb, .int .u32 cb, .int .i64 frb, .int .i64 tb], .bool ok]) ∧ FldsAt w' (.slice za fb.length zc) fb ∧ (∀ q, (Value.slice za fb.length zc).ownBlock = some q → W.heap.size ≤ q) ∧ Below W.heap.size W w' := fun W h => by
    refine (k3 W h).mono ?_
    rintro e w' ⟨v', h1, h2, h3, rfl⟩
    obtain ⟨vb, g1, g2, g3⟩ := HSH.out v' w' h1
    obtain ⟨za, zc, rfl, _, _⟩ := RdAt.shape g1
    exact ⟨za, zc, by rw [g2], g1, fun q hq => h2 q (g3 q hq), h3⟩
  have K3 := Lib.hid k3
  have HP7 := Lib.hid hP7
  have HX7 := Lib.hid hX7
  obtain ⟨p0, p1, p2, p3, p4, p5⟩ := HP7.out
  obtain ⟨x0, x1, x2, x3, x4, x5⟩ := HX7.out
  obtain ⟨l0, l1⟩ := HL7.out
  have hsm : w.heap.size + 1 + 1 < w7.heap.size := by have := HLT7.out; have := HGY.out; have := HGX.out; omega
  have hxs : gx < w7.heap.size := by have := HLT7.out; have := HGY.out; omega
  clear k3 hP7 hX7
  go_cut [10, 11] from 25 to 33 (fun s10 s11 wx => ∃ gz za zc, s10 = .pointer (some ⟨gz, 0, none⟩) ∧ s11 = .bool ok ∧ C6 gz (.string sb) (.slice za fb.length zc) (.int .i64 lb) (.int .u32 cb) (.int .i64 frb) (.int .i64 tb) wx ∧ FldsAt wx (.slice za fb.length zc) fb ∧ gz < wx.heap.size ∧ Below w7.heap.size w7 wx)
  case first =>
    refine wp_region_held_drew (S := (fun W => W.cell? ⟨w.heap.size, 0, none⟩ = some (.slice a0 m0 c0) ∧ W.cell? ⟨w.heap.size, 1, none⟩ = some (.slice a1 m1 c1) ∧ W.cell? ⟨w.heap.size, 2, none⟩ = some (.slice a2 m2 c2) ∧ W.cell? ⟨w.heap.size, 3, none⟩ = some (.slice a3 qs.length c3) ∧ W.cell? ⟨w.heap.size, 4, none⟩ = some (.slice a4 m4 c4) ∧ W.cell? ⟨w.heap.size, 5, none⟩ = some (.slice a5 m5 c5) ∧ W.cell? ⟨gx, 0, none⟩ = some (.string src) ∧ W.cell? ⟨gx, 1, none⟩ = some (.slice xa gl.length xc) ∧ W.cell? ⟨gx, 2, none⟩ = some (.int .i64 lv) ∧ W.cell? ⟨gx, 3, none⟩ = some (.int .u32 c) ∧ W.cell? ⟨gx, 4, none⟩ = some (.int .i64 fr) ∧ W.cell? ⟨gx, 5, none⟩ = some (.int .i64 til) ∧ W.cell? ⟨w.heap.size + 1 + 1, 0, none⟩ = some (.int .i64 tl) ∧ W.cell? ⟨w.heap.size + 1 + 1, 1, none⟩ = some (.int .u32 tc))) (by kernel_rfl) ⟨p0, p1, p2, p3, p4, p5, x0, x1, x2, x3, x4, x5, l0, l1⟩ (fun hHeld => ?_)
    have hd : Below w7.heap.size w7 w7.drew := (Below.refl _ _).drew
    have hds : w7.heap.size ≤ w7.drew.heap.size := Nat.le_refl _
    generalize w7.drew = wd at *
    refine held_take (i := 0) (v := ?_) rfl rfl (by kernel_rfl) (by kernel_rfl) (by kernel_rfl) (fun _ _ _ h => h) (by rfl) hHeld ?_ ?_
    rotate_left
    · rintro wh ⟨z0, z1, z2, z3, z4, z5, z6, z7, z8, z9, z10, z11, z12, z13⟩
      go_simp
      (try with_reducible rfl)
    simp only [Act.put, List.setIfInBounds_toArray, List.set_cons_zero, List.set_cons_succ]
    refine held_take (i := 1) (v := ?_) rfl rfl (by kernel_rfl) (by kernel_rfl) (by kernel_rfl) (fun _ _ _ h => h) (by rfl) hHeld ?_ ?_
    rotate_left
    · rintro wh ⟨z0, z1, z2, z3, z4, z5, z6, z7, z8, z9, z10, z11, z12, z13⟩
      go_simp
      (try with_reducible rfl)
    simp only [Act.put, List.setIfInBounds_toArray, List.set_cons_zero, List.set_cons_succ]
    refine held_take (i := 3) (v := ?_) rfl rfl (by kernel_rfl) (by kernel_rfl) (by kernel_rfl) (fun _ _ _ h => h) (by rfl) hHeld ?_ ?_
    rotate_left
    · rintro wh ⟨z0, z1, z2, z3, z4, z5, z6, z7, z8, z9, z10, z11, z12, z13⟩
      go_simp
      (try with_reducible rfl)
    simp only [Act.put, List.setIfInBounds_toArray, List.set_cons_zero, List.set_cons_succ]
    refine held_two (i := 2) (j := 8) rfl rfl (by kernel_rfl) (fun K hK => ?_) (fun K hK => ?_)
    · go_simp; go_at_call 16; refine (k2 _).mono ?_; rintro e wb ⟨rfl, hbb⟩
      have hBb := hd.trans (hbb.mono hd.size)
      refine hK.out _ _ ⟨keep_cell p0 hBb (by omega), keep_cell p1 hBb (by omega), keep_cell p2 hBb (by omega), keep_cell p3 hBb (by omega), keep_cell p4 hBb (by omega), keep_cell p5 hBb (by omega), keep_cell x0 hBb hxs, keep_cell x1 hBb hxs, keep_cell x2 hBb hxs, keep_cell x3 hBb hxs, keep_cell x4 hBb hxs, keep_cell x5 hBb hxs, keep_cell l0 hBb (by omega), keep_cell l1 hBb (by omega)⟩ (fun hHeld => ?_)
      clear hK K
      (try simp only [Act.put, List.setIfInBounds_toArray, List.set_cons_zero, List.set_cons_succ])
      refine held_two (i := 4) (j := 8) rfl rfl (by kernel_rfl) (fun K hK => ?_) (fun K hK => ?_)
      · go_simp; go_at_call 15; refine (K3.out _ hBb).mono ?_; rintro e wc ⟨za, zc, rfl, hFz, hOz, hbc⟩
        have hBc := hBb.trans (hbc.mono hBb.size)
        refine hK.out _ _ ⟨keep_cell p0 hBc (by omega), keep_cell p1 hBc (by omega), keep_cell p2 hBc (by omega), keep_cell p3 hBc (by omega), keep_cell p4 hBc (by omega), keep_cell p5 hBc (by omega), keep_cell x0 hBc hxs, keep_cell x1 hBc hxs, keep_cell x2 hBc hxs, keep_cell x3 hBc hxs, keep_cell x4 hBc hxs, keep_cell x5 hBc hxs, keep_cell l0 hBc (by omega), keep_cell l1 hBc (by omega)⟩ (fun hHeld => ?_)
        clear hK K
        (try simp only [Act.put, List.setIfInBounds_toArray, List.set_cons_zero, List.set_cons_succ])
        refine held_take (i := 5) (v := ?_) rfl rfl (by kernel_rfl) (by kernel_rfl) (by kernel_rfl) (fun _ _ _ h => h) (by rfl) hHeld ?_ ?_
        rotate_left
        · rintro wh ⟨z0, z1, z2, z3, z4, z5, z6, z7, z8, z9, z10, z11, z12, z13⟩
          go_simp
          (try with_reducible rfl)
        simp only [Act.put, List.setIfInBounds_toArray, List.set_cons_zero, List.set_cons_succ]
        refine held_take (i := 6) (v := ?_) rfl rfl (by kernel_rfl) (by kernel_rfl) (by kernel_rfl) (fun _ _ _ h => h) (by rfl) hHeld ?_ ?_
        rotate_left
        · rintro wh ⟨z0, z1, z2, z3, z4, z5, z6, z7, z8, z9, z10, z11, z12, z13⟩
          go_simp
          (try with_reducible rfl)
        simp only [Act.put, List.setIfInBounds_toArray, List.set_cons_zero, List.set_cons_succ]
        refine held_take (i := 7) (v := ?_) rfl rfl (by kernel_rfl) (by kernel_rfl) (by kernel_rfl) (fun _ _ _ h => h) (by rfl) hHeld ?_ ?_
        rotate_left
        · rintro wh ⟨z0, z1, z2, z3, z4, z5, z6, z7, z8, z9, z10, z11, z12, z13⟩
          go_simp
          (try with_reducible rfl)
        simp only [Act.put, List.setIfInBounds_toArray, List.set_cons_zero, List.set_cons_succ]
        refine held_step (i := 8) rfl (by kernel_rfl) (fun K hK => ?_)
        have haa := alloc_below wc (.cells #[.string ⟨#[]⟩, .slice none 0 0, .int .i64 0, .int .u32 0, .int .i64 0, .int .i64 0] 32)
        have hBa := hBc.trans (haa.mono hBc.size)
        have hTa := box_there (Below.refl (wc.alloc (.cells #[.string ⟨#[]⟩, .slice none 0 0, .int .i64 0, .int .u32 0, .int .i64 0, .int .i64 0] 32)).heap.size (wc.alloc (.cells #[.string ⟨#[]⟩, .slice none 0 0, .int .i64 0, .int .u32 0, .int .i64 0, .int .i64 0] 32)))
        have hlta : wc.heap.size < (wc.alloc (.cells #[.string ⟨#[]⟩, .slice none 0 0, .int .i64 0, .int .u32 0, .int .i64 0, .int .i64 0] 32)).heap.size := by rw [World.size_alloc]; omega
        go_simp
        refine hK.out _ _ ⟨keep_cell p0 hBa (by omega), keep_cell p1 hBa (by omega), keep_cell p2 hBa (by omega), keep_cell p3 hBa (by omega), keep_cell p4 hBa (by omega), keep_cell p5 hBa (by omega), keep_cell x0 hBa hxs, keep_cell x1 hBa hxs, keep_cell x2 hBa hxs, keep_cell x3 hBa hxs, keep_cell x4 hBa hxs, keep_cell x5 hBa hxs, keep_cell l0 hBa (by omega), keep_cell l1 hBa (by omega)⟩ (fun hHeld => ?_)
        clear hK K
        (try simp only [Act.put, List.setIfInBounds_toArray, List.set_cons_zero, List.set_cons_succ])
        have hFl := hFz.later (below_puts (g := wc.heap.size) (o := 0) haa (Nat.le_refl _) [.string sb, .slice za fb.length zc, .int .i64 lb, .int .u32 cb, .int .i64 frb, .int .i64 tb])
        have hT : (wc.alloc (.cells #[.string ⟨#[]⟩, .slice none 0 0, .int .i64 0, .int .u32 0, .int .i64 0, .int .i64 0] 32)).there wc.heap.size 0 6 := hTa
        clear hTa
        have hcs := hBc.size
        generalize wc.alloc (.cells #[.string ⟨#[]⟩, .slice none 0 0, .int .i64 0, .int .u32 0, .int .i64 0, .int .i64 0] 32) = wa at *
        have f0 := there_free hT 0 (by decide)
        have f1 := there_free hT 1 (by decide)
        have f2 := there_free hT 2 (by decide)
        have f3 := there_free hT 3 (by decide)
        have f4 := there_free hT 4 (by decide)
        have f5 := there_free hT 5 (by decide)
        obtain ⟨y0, hy0⟩ := there_cell hT 0 (by decide)
        obtain ⟨y1, hy1⟩ := there_cell hT 1 (by decide)
        obtain ⟨y2, hy2⟩ := there_cell hT 2 (by decide)
        obtain ⟨y3, hy3⟩ := there_cell hT 3 (by decide)
        obtain ⟨y4, hy4⟩ := there_cell hT 4 (by decide)
        obtain ⟨y5, hy5⟩ := there_cell hT 5 (by decide)
        have hB9 : Below w7.heap.size w7 (wa.setCells wc.heap.size 0 [.string sb, .slice za fb.length zc, .int .i64 lb, .int .u32 cb, .int .i64 frb, .int .i64 tb]) := below_puts (g := wc.heap.size) (o := 0) hBa (by omega) [.string sb, .slice za fb.length zc, .int .i64 lb, .int .u32 cb, .int .i64 frb, .int .i64 tb]
        have hF9 : FldsAt (wa.setCells wc.heap.size 0 [.string sb, .slice za fb.length zc, .int .i64 lb, .int .u32 cb, .int .i64 frb, .int .i64 tb]) (.slice za fb.length zc) fb := hFl
        have hZ9 := c6_puts wa wc.heap.size (.string sb) (.slice za fb.length zc) (.int .i64 lb) (.int .u32 cb) (.int .i64 frb) (.int .i64 tb) hT
        have hL9 : wc.heap.size < (wa.setCells wc.heap.size 0 [.string sb, .slice za fb.length zc, .int .i64 lb, .int .u32 cb, .int .i64 frb, .int .i64 tb]).heap.size := Nat.lt_of_lt_of_le hlta (below_puts_base (g := wc.heap.size) (o := 0) (Below.refl 0 wa) (Nat.zero_le _) [.string sb, .slice za fb.length zc, .int .i64 lb, .int .u32 cb, .int .i64 frb, .int .i64 tb]).size
        have HB9 := Lib.hid hB9
        have HF9 := Lib.hid hF9
        have HZ9 := Lib.hid hZ9
        have HL9 := Lib.hid hL9
        clear hB9 hF9 hZ9 hL9
        refine held_step (i := 9) rfl (by kernel_rfl) (fun K hK => ?_)
        go_simp
        refine hK.out _ _ ⟨keep_cell p0 HB9.out (by omega), keep_cell p1 HB9.out (by omega), keep_cell p2 HB9.out (by omega), keep_cell p3 HB9.out (by omega), keep_cell p4 HB9.out (by omega), keep_cell p5 HB9.out (by omega), keep_cell x0 HB9.out hxs, keep_cell x1 HB9.out hxs, keep_cell x2 HB9.out hxs, keep_cell x3 HB9.out hxs, keep_cell x4 HB9.out hxs, keep_cell x5 HB9.out hxs, keep_cell l0 HB9.out (by omega), keep_cell l1 HB9.out (by omega)⟩ (fun hHeld => ?_)
        clear hK K
        (try simp only [Act.put, List.setIfInBounds_toArray, List.set_cons_zero, List.set_cons_succ])
        refine held_take (i := 10) (v := ?_) rfl rfl (by kernel_rfl) (by kernel_rfl) (by kernel_rfl) (fun _ _ _ h => h) (by rfl) hHeld ?_ ?_
        rotate_left
        · rintro wh ⟨z0, z1, z2, z3, z4, z5, z6, z7, z8, z9, z10, z11, z12, z13⟩
          go_simp
          (try with_reducible rfl)
        simp only [Act.put, List.setIfInBounds_toArray, List.set_cons_zero, List.set_cons_succ]
        refine wpAnyH_done (by kernel_rfl) ?_ _
        go_wp2
        go_meet
        exact ⟨wc.heap.size, za, zc, rfl, rfl, HZ9.out, HF9.out, HL9.out, HB9.out⟩
      · have haa := alloc_below wb (.cells #[.string ⟨#[]⟩, .slice none 0 0, .int .i64 0, .int .u32 0, .int .i64 0, .int .i64 0] 32)
        have hBa := hBb.trans (haa.mono hBb.size)
        have hTa := box_there (Below.refl (wb.alloc (.cells #[.string ⟨#[]⟩, .slice none 0 0, .int .i64 0, .int .u32 0, .int .i64 0, .int .i64 0] 32)).heap.size (wb.alloc (.cells #[.string ⟨#[]⟩, .slice none 0 0, .int .i64 0, .int .u32 0, .int .i64 0, .int .i64 0] 32)))
        have hlta : wb.heap.size < (wb.alloc (.cells #[.string ⟨#[]⟩, .slice none 0 0, .int .i64 0, .int .u32 0, .int .i64 0, .int .i64 0] 32)).heap.size := by rw [World.size_alloc]; omega
        go_simp
        refine hK.out _ _ ⟨keep_cell p0 hBa (by omega), keep_cell p1 hBa (by omega), keep_cell p2 hBa (by omega), keep_cell p3 hBa (by omega), keep_cell p4 hBa (by omega), keep_cell p5 hBa (by omega), keep_cell x0 hBa hxs, keep_cell x1 hBa hxs, keep_cell x2 hBa hxs, keep_cell x3 hBa hxs, keep_cell x4 hBa hxs, keep_cell x5 hBa hxs, keep_cell l0 hBa (by omega), keep_cell l1 hBa (by omega)⟩ (fun hHeld => ?_)
        clear hK K
        (try simp only [Act.put, List.setIfInBounds_toArray, List.set_cons_zero, List.set_cons_succ])
        have hT : (wb.alloc (.cells #[.string ⟨#[]⟩, .slice none 0 0, .int .i64 0, .int .u32 0, .int .i64 0, .int .i64 0] 32)).there wb.heap.size 0 6 := hTa
        clear hTa
        have hcs := hBb.size
        generalize wb.alloc (.cells #[.string ⟨#[]⟩, .slice none 0 0, .int .i64 0, .int .u32 0, .int .i64 0, .int .i64 0] 32) = wa at *
        refine held_call (i := 4) rfl (by kernel_rfl) (by rfl) (fun K hK => ?_)
        go_simp; go_at_call 15; refine (K3.out _ hBa).mono ?_; rintro e wc ⟨za, zc, rfl, hFz, hOz, hbc⟩
        have hBc := hBa.trans (hbc.mono hBa.size)
        refine hK.out _ _ ⟨keep_cell p0 hBc (by omega), keep_cell p1 hBc (by omega), keep_cell p2 hBc (by omega), keep_cell p3 hBc (by omega), keep_cell p4 hBc (by omega), keep_cell p5 hBc (by omega), keep_cell x0 hBc hxs, keep_cell x1 hBc hxs, keep_cell x2 hBc hxs, keep_cell x3 hBc hxs, keep_cell x4 hBc hxs, keep_cell x5 hBc hxs, keep_cell l0 hBc (by omega), keep_cell l1 hBc (by omega)⟩ (fun hHeld => ?_)
        clear hK K
        (try simp only [Act.put, List.setIfInBounds_toArray, List.set_cons_zero, List.set_cons_succ])
        refine held_take (i := 5) (v := ?_) rfl rfl (by kernel_rfl) (by kernel_rfl) (by kernel_rfl) (fun _ _ _ h => h) (by rfl) hHeld ?_ ?_
        rotate_left
        · rintro wh ⟨z0, z1, z2, z3, z4, z5, z6, z7, z8, z9, z10, z11, z12, z13⟩
          go_simp
          (try with_reducible rfl)
        simp only [Act.put, List.setIfInBounds_toArray, List.set_cons_zero, List.set_cons_succ]
        refine held_take (i := 6) (v := ?_) rfl rfl (by kernel_rfl) (by kernel_rfl) (by kernel_rfl) (fun _ _ _ h => h) (by rfl) hHeld ?_ ?_
        rotate_left
        · rintro wh ⟨z0, z1, z2, z3, z4, z5, z6, z7, z8, z9, z10, z11, z12, z13⟩
          go_simp
          (try with_reducible rfl)
        simp only [Act.put, List.setIfInBounds_toArray, List.set_cons_zero, List.set_cons_succ]
        refine held_take (i := 7) (v := ?_) rfl rfl (by kernel_rfl) (by kernel_rfl) (by kernel_rfl) (fun _ _ _ h => h) (by rfl) hHeld ?_ ?_
        rotate_left
        · rintro wh ⟨z0, z1, z2, z3, z4, z5, z6, z7, z8, z9, z10, z11, z12, z13⟩
          go_simp
          (try with_reducible rfl)
        simp only [Act.put, List.setIfInBounds_toArray, List.set_cons_zero, List.set_cons_succ]
        have hT := there_later hT hbc hlta
        have f0 := there_free hT 0 (by decide)
        have f1 := there_free hT 1 (by decide)
        have f2 := there_free hT 2 (by decide)
        have f3 := there_free hT 3 (by decide)
        have f4 := there_free hT 4 (by decide)
        have f5 := there_free hT 5 (by decide)
        obtain ⟨y0, hy0⟩ := there_cell hT 0 (by decide)
        obtain ⟨y1, hy1⟩ := there_cell hT 1 (by decide)
        obtain ⟨y2, hy2⟩ := there_cell hT 2 (by decide)
        obtain ⟨y3, hy3⟩ := there_cell hT 3 (by decide)
        obtain ⟨y4, hy4⟩ := there_cell hT 4 (by decide)
        obtain ⟨y5, hy5⟩ := there_cell hT 5 (by decide)
        have hB9 : Below w7.heap.size w7 (wc.setCells wb.heap.size 0 [.string sb, .slice za fb.length zc, .int .i64 lb, .int .u32 cb, .int .i64 frb, .int .i64 tb]) := below_puts (g := wb.heap.size) (o := 0) hBc (by omega) [.string sb, .slice za fb.length zc, .int .i64 lb, .int .u32 cb, .int .i64 frb, .int .i64 tb]
        have hF9 : FldsAt (wc.setCells wb.heap.size 0 [.string sb, .slice za fb.length zc, .int .i64 lb, .int .u32 cb, .int .i64 frb, .int .i64 tb]) (.slice za fb.length zc) fb := rd_puts (g := wb.heap.size) (o := 0) hFz (fun q hq => by have := hOz q hq; omega) [.string sb, .slice za fb.length zc, .int .i64 lb, .int .u32 cb, .int .i64 frb, .int .i64 tb]
        have hZ9 := c6_puts wc wb.heap.size (.string sb) (.slice za fb.length zc) (.int .i64 lb) (.int .u32 cb) (.int .i64 frb) (.int .i64 tb) hT
        have hL9 : wb.heap.size < (wc.setCells wb.heap.size 0 [.string sb, .slice za fb.length zc, .int .i64 lb, .int .u32 cb, .int .i64 frb, .int .i64 tb]).heap.size := Nat.lt_of_lt_of_le (Nat.lt_of_lt_of_le hlta hbc.size) (below_puts_base (g := wb.heap.size) (o := 0) (Below.refl 0 wc) (Nat.zero_le _) [.string sb, .slice za fb.length zc, .int .i64 lb, .int .u32 cb, .int .i64 frb, .int .i64 tb]).size
        have HB9 := Lib.hid hB9
        have HF9 := Lib.hid hF9
        have HZ9 := Lib.hid hZ9
        have HL9 := Lib.hid hL9
        clear hB9 hF9 hZ9 hL9
        refine held_step (i := 9) rfl (by kernel_rfl) (fun K hK => ?_)
        go_simp
        refine hK.out _ _ ⟨keep_cell p0 HB9.out (by omega), keep_cell p1 HB9.out (by omega), keep_cell p2 HB9.out (by omega), keep_cell p3 HB9.out (by omega), keep_cell p4 HB9.out (by omega), keep_cell p5 HB9.out (by omega), keep_cell x0 HB9.out hxs, keep_cell x1 HB9.out hxs, keep_cell x2 HB9.out hxs, keep_cell x3 HB9.out hxs, keep_cell x4 HB9.out hxs, keep_cell x5 HB9.out hxs, keep_cell l0 HB9.out (by omega), keep_cell l1 HB9.out (by omega)⟩ (fun hHeld => ?_)
        clear hK K
        (try simp only [Act.put, List.setIfInBounds_toArray, List.set_cons_zero, List.set_cons_succ])
        refine held_take (i := 10) (v := ?_) rfl rfl (by kernel_rfl) (by kernel_rfl) (by kernel_rfl) (fun _ _ _ h => h) (by rfl) hHeld ?_ ?_
        rotate_left
        · rintro wh ⟨z0, z1, z2, z3, z4, z5, z6, z7, z8, z9, z10, z11, z12, z13⟩
          go_simp
          (try with_reducible rfl)
        simp only [Act.put, List.setIfInBounds_toArray, List.set_cons_zero, List.set_cons_succ]
        refine wpAnyH_done (by kernel_rfl) ?_ _
        go_wp2
        go_meet
        exact ⟨wb.heap.size, za, zc, rfl, rfl, HZ9.out, HF9.out, HL9.out, HB9.out⟩
    · have haa := alloc_below wd (.cells #[.string ⟨#[]⟩, .slice none 0 0, .int .i64 0, .int .u32 0, .int .i64 0, .int .i64 0] 32)
      have hBa := hd.trans (haa.mono hd.size)
      have hTa := box_there (Below.refl (wd.alloc (.cells #[.string ⟨#[]⟩, .slice none 0 0, .int .i64 0, .int .u32 0, .int .i64 0, .int .i64 0] 32)).heap.size (wd.alloc (.cells #[.string ⟨#[]⟩, .slice none 0 0, .int .i64 0, .int .u32 0, .int .i64 0, .int .i64 0] 32)))
      have hlta : wd.heap.size < (wd.alloc (.cells #[.string ⟨#[]⟩, .slice none 0 0, .int .i64 0, .int .u32 0, .int .i64 0, .int .i64 0] 32)).heap.size := by rw [World.size_alloc]; omega
      go_simp
      refine hK.out _ _ ⟨keep_cell p0 hBa (by omega), keep_cell p1 hBa (by omega), keep_cell p2 hBa (by omega), keep_cell p3 hBa (by omega), keep_cell p4 hBa (by omega), keep_cell p5 hBa (by omega), keep_cell x0 hBa hxs, keep_cell x1 hBa hxs, keep_cell x2 hBa hxs, keep_cell x3 hBa hxs, keep_cell x4 hBa hxs, keep_cell x5 hBa hxs, keep_cell l0 hBa (by omega), keep_cell l1 hBa (by omega)⟩ (fun hHeld => ?_)
      clear hK K
      (try simp only [Act.put, List.setIfInBounds_toArray, List.set_cons_zero, List.set_cons_succ])
      have hT : (wd.alloc (.cells #[.string ⟨#[]⟩, .slice none 0 0, .int .i64 0, .int .u32 0, .int .i64 0, .int .i64 0] 32)).there wd.heap.size 0 6 := hTa
      clear hTa
      generalize wd.alloc (.cells #[.string ⟨#[]⟩, .slice none 0 0, .int .i64 0, .int .u32 0, .int .i64 0, .int .i64 0] 32) = wa at *
      refine held_call (i := 2) rfl (by kernel_rfl) (by rfl) (fun K hK => ?_)
      go_simp; go_at_call 16; refine (k2 _).mono ?_; rintro e wb ⟨rfl, hbb⟩
      have hBb := hBa.trans (hbb.mono hBa.size)
      refine hK.out _ _ ⟨keep_cell p0 hBb (by omega), keep_cell p1 hBb (by omega), keep_cell p2 hBb (by omega), keep_cell p3 hBb (by omega), keep_cell p4 hBb (by omega), keep_cell p5 hBb (by omega), keep_cell x0 hBb hxs, keep_cell x1 hBb hxs, keep_cell x2 hBb hxs, keep_cell x3 hBb hxs, keep_cell x4 hBb hxs, keep_cell x5 hBb hxs, keep_cell l0 hBb (by omega), keep_cell l1 hBb (by omega)⟩ (fun hHeld => ?_)
      clear hK K
      (try simp only [Act.put, List.setIfInBounds_toArray, List.set_cons_zero, List.set_cons_succ])
      have hT := there_later hT hbb hlta
      have hltb := Nat.lt_of_lt_of_le hlta hbb.size
      refine held_call (i := 4) rfl (by kernel_rfl) (by rfl) (fun K hK => ?_)
      go_simp; go_at_call 15; refine (K3.out _ hBb).mono ?_; rintro e wc ⟨za, zc, rfl, hFz, hOz, hbc⟩
      have hBc := hBb.trans (hbc.mono hBb.size)
      refine hK.out _ _ ⟨keep_cell p0 hBc (by omega), keep_cell p1 hBc (by omega), keep_cell p2 hBc (by omega), keep_cell p3 hBc (by omega), keep_cell p4 hBc (by omega), keep_cell p5 hBc (by omega), keep_cell x0 hBc hxs, keep_cell x1 hBc hxs, keep_cell x2 hBc hxs, keep_cell x3 hBc hxs, keep_cell x4 hBc hxs, keep_cell x5 hBc hxs, keep_cell l0 hBc (by omega), keep_cell l1 hBc (by omega)⟩ (fun hHeld => ?_)
      clear hK K
      (try simp only [Act.put, List.setIfInBounds_toArray, List.set_cons_zero, List.set_cons_succ])
      refine held_take (i := 5) (v := ?_) rfl rfl (by kernel_rfl) (by kernel_rfl) (by kernel_rfl) (fun _ _ _ h => h) (by rfl) hHeld ?_ ?_
      rotate_left
      · rintro wh ⟨z0, z1, z2, z3, z4, z5, z6, z7, z8, z9, z10, z11, z12, z13⟩
        go_simp
        (try with_reducible rfl)
      simp only [Act.put, List.setIfInBounds_toArray, List.set_cons_zero, List.set_cons_succ]
      refine held_take (i := 6) (v := ?_) rfl rfl (by kernel_rfl) (by kernel_rfl) (by kernel_rfl) (fun _ _ _ h => h) (by rfl) hHeld ?_ ?_
      rotate_left
      · rintro wh ⟨z0, z1, z2, z3, z4, z5, z6, z7, z8, z9, z10, z11, z12, z13⟩
        go_simp
        (try with_reducible rfl)
      simp only [Act.put, List.setIfInBounds_toArray, List.set_cons_zero, List.set_cons_succ]
      refine held_take (i := 7) (v := ?_) rfl rfl (by kernel_rfl) (by kernel_rfl) (by kernel_rfl) (fun _ _ _ h => h) (by rfl) hHeld ?_ ?_
      rotate_left
      · rintro wh ⟨z0, z1, z2, z3, z4, z5, z6, z7, z8, z9, z10, z11, z12, z13⟩
        go_simp
        (try with_reducible rfl)
      simp only [Act.put, List.setIfInBounds_toArray, List.set_cons_zero, List.set_cons_succ]
      have hT := there_later hT hbc hltb
      have f0 := there_free hT 0 (by decide)
      have f1 := there_free hT 1 (by decide)
      have f2 := there_free hT 2 (by decide)
      have f3 := there_free hT 3 (by decide)
      have f4 := there_free hT 4 (by decide)
      have f5 := there_free hT 5 (by decide)
      obtain ⟨y0, hy0⟩ := there_cell hT 0 (by decide)
      obtain ⟨y1, hy1⟩ := there_cell hT 1 (by decide)
      obtain ⟨y2, hy2⟩ := there_cell hT 2 (by decide)
      obtain ⟨y3, hy3⟩ := there_cell hT 3 (by decide)
      obtain ⟨y4, hy4⟩ := there_cell hT 4 (by decide)
      obtain ⟨y5, hy5⟩ := there_cell hT 5 (by decide)
      have hB9 : Below w7.heap.size w7 (wc.setCells wd.heap.size 0 [.string sb, .slice za fb.length zc, .int .i64 lb, .int .u32 cb, .int .i64 frb, .int .i64 tb]) := below_puts (g := wd.heap.size) (o := 0) hBc (by omega) [.string sb, .slice za fb.length zc, .int .i64 lb, .int .u32 cb, .int .i64 frb, .int .i64 tb]
      have hF9 : FldsAt (wc.setCells wd.heap.size 0 [.string sb, .slice za fb.length zc, .int .i64 lb, .int .u32 cb, .int .i64 frb, .int .i64 tb]) (.slice za fb.length zc) fb := rd_puts (g := wd.heap.size) (o := 0) hFz (fun q hq => by have := hOz q hq; omega) [.string sb, .slice za fb.length zc, .int .i64 lb, .int .u32 cb, .int .i64 frb, .int .i64 tb]
      have hZ9 := c6_puts wc wd.heap.size (.string sb) (.slice za fb.length zc) (.int .i64 lb) (.int .u32 cb) (.int .i64 frb) (.int .i64 tb) hT
      have hL9 : wd.heap.size < (wc.setCells wd.heap.size 0 [.string sb, .slice za fb.length zc, .int .i64 lb, .int .u32 cb, .int .i64 frb, .int .i64 tb]).heap.size := Nat.lt_of_lt_of_le (Nat.lt_of_lt_of_le hltb hbc.size) (below_puts_base (g := wd.heap.size) (o := 0) (Below.refl 0 wc) (Nat.zero_le _) [.string sb, .slice za fb.length zc, .int .i64 lb, .int .u32 cb, .int .i64 frb, .int .i64 tb]).size
      have HB9 := Lib.hid hB9
      have HF9 := Lib.hid hF9
      have HZ9 := Lib.hid hZ9
      have HL9 := Lib.hid hL9
      clear hB9 hF9 hZ9 hL9
      refine held_step (i := 9) rfl (by kernel_rfl) (fun K hK => ?_)
      go_simp
      refine hK.out _ _ ⟨keep_cell p0 HB9.out (by omega), keep_cell p1 HB9.out (by omega), keep_cell p2 HB9.out (by omega), keep_cell p3 HB9.out (by omega), keep_cell p4 HB9.out (by omega), keep_cell p5 HB9.out (by omega), keep_cell x0 HB9.out hxs, keep_cell x1 HB9.out hxs, keep_cell x2 HB9.out hxs, keep_cell x3 HB9.out hxs, keep_cell x4 HB9.out hxs, keep_cell x5 HB9.out hxs, keep_cell l0 HB9.out (by omega), keep_cell l1 HB9.out (by omega)⟩ (fun hHeld => ?_)
      clear hK K
      (try simp only [Act.put, List.setIfInBounds_toArray, List.set_cons_zero, List.set_cons_succ])
      refine held_take (i := 10) (v := ?_) rfl rfl (by kernel_rfl) (by kernel_rfl) (by kernel_rfl) (fun _ _ _ h => h) (by rfl) hHeld ?_ ?_
      rotate_left
      · rintro wh ⟨z0, z1, z2, z3, z4, z5, z6, z7, z8, z9, z10, z11, z12, z13⟩
        go_simp
        (try with_reducible rfl)
      simp only [Act.put, List.setIfInBounds_toArray, List.set_cons_zero, List.set_cons_succ]
      refine wpAnyH_done (by kernel_rfl) ?_ _
      go_wp2
      go_meet
      exact ⟨wd.heap.size, za, zc, rfl, rfl, HZ9.out, HF9.out, HL9.out, HB9.out⟩
  case rest =>
    obtain ⟨gz, za, zc, rfl, rfl, hZ, hFz, hltz, hBz⟩ := hcut
    have HFY := Lib.hid (HFb7.out.later hBz)
    have hYc := HY7.out.later hBz HLT7.out
    have HBc := Lib.hid (HB7.out.trans (hBz.mono HB7.out.size))
    have HFz := Lib.hid hFz
    have hgy2 : gy < wc.heap.size := Nat.lt_of_lt_of_le HLT7.out hBz.size
    have k4 := as_any sb ba fb.length bc lb cb frb tb
    have k5 : ∀ W, Below wc.heap.size wc W → Calls Try.prog 17 #[.agg #[.string sb, .slice ba fb.length bc, .int .i64 lb, .int .u32 cb, .int .i64 frb, .int .i64 tb], .agg #[.string sb, .slice za fb.length zc, .int .i64 lb, .int .u32 cb, .int .i64 frb, .int .i64 tb]] W fun e w' => e = .returned (.bool true) ∧ Below W.heap.size W w' := fun W h => by
      have := rsame9_any sb sb fb fb (.slice ba fb.length bc) (.slice za fb.length zc) lb cb frb tb lb cb frb tb W (HFY.out.later h) (HFz.out.later h) (by have := HFB.out; unfold maxLen; omega) (by have := HFB.out; unfold maxLen; omega)
      rw [show sameA sb sb fb fb lb cb frb tb lb cb frb tb = true by unfold sameA; simp] at this
      exact this
    have hoo : (ok == ok) = true := by simp
    have HHZ := Lib.hid hZ
    clear p0 p1 p2 p3 p4 p5 x0 x1 x2 x3 x4 x5 l0 l1 HP7 HX7 HL7 hsm hxs hFz hBz K3 k2
    obtain ⟨p0, p1, p2, p3, p4, p5⟩ := hYc
    obtain ⟨x0, x1, x2, x3, x4, x5⟩ := hZ
    go_upto_region 7 with fail
    refine wp_region_held_drew (S := (fun W => W.cell? ⟨gy, 0, none⟩ = some (.string sb) ∧ W.cell? ⟨gy, 1, none⟩ = some (.slice ba fb.length bc) ∧ W.cell? ⟨gy, 2, none⟩ = some (.int .i64 lb) ∧ W.cell? ⟨gy, 3, none⟩ = some (.int .u32 cb) ∧ W.cell? ⟨gy, 4, none⟩ = some (.int .i64 frb) ∧ W.cell? ⟨gy, 5, none⟩ = some (.int .i64 tb) ∧ W.cell? ⟨gz, 0, none⟩ = some (.string sb) ∧ W.cell? ⟨gz, 1, none⟩ = some (.slice za fb.length zc) ∧ W.cell? ⟨gz, 2, none⟩ = some (.int .i64 lb) ∧ W.cell? ⟨gz, 3, none⟩ = some (.int .u32 cb) ∧ W.cell? ⟨gz, 4, none⟩ = some (.int .i64 frb) ∧ W.cell? ⟨gz, 5, none⟩ = some (.int .i64 tb))) (by kernel_rfl) ⟨p0, p1, p2, p3, p4, p5, x0, x1, x2, x3, x4, x5⟩ (fun hHeld => ?_)
    refine held_take (i := 0) (v := ?_) rfl rfl (by kernel_rfl) (by kernel_rfl) (by kernel_rfl) (fun _ _ _ h => h) (by rfl) hHeld ?_ ?_
    rotate_left
    · rintro wh ⟨z0, z1, z2, z3, z4, z5, z6, z7, z8, z9, z10, z11⟩
      go_simp
      (try with_reducible rfl)
    simp only [Act.put, List.setIfInBounds_toArray, List.set_cons_zero, List.set_cons_succ]
    refine held_take (i := 1) (v := ?_) rfl rfl (by kernel_rfl) (by kernel_rfl) (by kernel_rfl) (fun _ _ _ h => h) (by rfl) hHeld ?_ ?_
    rotate_left
    · rintro wh ⟨z0, z1, z2, z3, z4, z5, z6, z7, z8, z9, z10, z11⟩
      go_simp
      (try with_reducible rfl)
    simp only [Act.put, List.setIfInBounds_toArray, List.set_cons_zero, List.set_cons_succ]
    refine held_take (i := 2) (v := ?_) rfl rfl (by kernel_rfl) (by kernel_rfl) (by kernel_rfl) (fun _ _ _ h => h) (by rfl) hHeld ?_ ?_
    rotate_left
    · rintro wh ⟨z0, z1, z2, z3, z4, z5, z6, z7, z8, z9, z10, z11⟩
      go_simp
      (try with_reducible rfl)
    simp only [Act.put, List.setIfInBounds_toArray, List.set_cons_zero, List.set_cons_succ]
    refine held_take (i := 3) (v := ?_) rfl rfl (by kernel_rfl) (by kernel_rfl) (by kernel_rfl) (fun _ _ _ h => h) (by rfl) hHeld ?_ ?_
    rotate_left
    · rintro wh ⟨z0, z1, z2, z3, z4, z5, z6, z7, z8, z9, z10, z11⟩
      go_simp
      (try with_reducible rfl)
    simp only [Act.put, List.setIfInBounds_toArray, List.set_cons_zero, List.set_cons_succ]
    refine held_take (i := 4) (v := ?_) rfl rfl (by kernel_rfl) (by kernel_rfl) (by kernel_rfl) (fun _ _ _ h => h) (by rfl) hHeld ?_ ?_
    rotate_left
    · rintro wh ⟨z0, z1, z2, z3, z4, z5, z6, z7, z8, z9, z10, z11⟩
      go_simp
      (try with_reducible rfl)
    simp only [Act.put, List.setIfInBounds_toArray, List.set_cons_zero, List.set_cons_succ]
    refine held_take (i := 6) (v := ?_) rfl rfl (by kernel_rfl) (by kernel_rfl) (by kernel_rfl) (fun _ _ _ h => h) (by rfl) hHeld ?_ ?_
    rotate_left
    · rintro wh ⟨z0, z1, z2, z3, z4, z5, z6, z7, z8, z9, z10, z11⟩
      go_simp
      (try with_reducible rfl)
    simp only [Act.put, List.setIfInBounds_toArray, List.set_cons_zero, List.set_cons_succ]
    refine held_call (i := 5) rfl (by kernel_rfl) (by rfl) (fun K hK => ?_)
    (go_simp; go_at_call 16; refine (k4 _).mono ?_; rintro e w4 ⟨rfl, hb4⟩; have hd4 := ((Below.refl _ wc).drew).trans hb4)
    refine hK.out _ _ ⟨keep_cell p0 hd4 hgy2, keep_cell p1 hd4 hgy2, keep_cell p2 hd4 hgy2, keep_cell p3 hd4 hgy2, keep_cell p4 hd4 hgy2, keep_cell p5 hd4 hgy2, keep_cell x0 hd4 hltz, keep_cell x1 hd4 hltz, keep_cell x2 hd4 hltz, keep_cell x3 hd4 hltz, keep_cell x4 hd4 hltz, keep_cell x5 hd4 hltz⟩ (fun hHeld => ?_)
    clear hK K
    (try simp only [Act.put, List.setIfInBounds_toArray, List.set_cons_zero, List.set_cons_succ])
    refine held_call (i := 7) rfl (by kernel_rfl) (by rfl) (fun K hK => ?_)
    (go_simp; go_at_call 17; refine (k5 _ hd4).mono ?_; rintro e w5 ⟨rfl, hb5⟩; have hd5 := hd4.trans (hb5.mono hd4.size))
    refine hK.out _ _ ⟨keep_cell p0 hd5 hgy2, keep_cell p1 hd5 hgy2, keep_cell p2 hd5 hgy2, keep_cell p3 hd5 hgy2, keep_cell p4 hd5 hgy2, keep_cell p5 hd5 hgy2, keep_cell x0 hd5 hltz, keep_cell x1 hd5 hltz, keep_cell x2 hd5 hltz, keep_cell x3 hd5 hltz, keep_cell x4 hd5 hltz, keep_cell x5 hd5 hltz⟩ (fun hHeld => ?_)
    clear hK K
    (try simp only [Act.put, List.setIfInBounds_toArray, List.set_cons_zero, List.set_cons_succ])
    refine held_take (i := 8) (v := ?_) rfl rfl (by kernel_rfl) (by kernel_rfl) (by kernel_rfl) (fun _ _ _ h => h) (by rfl) hHeld ?_ ?_
    rotate_left
    · rintro wh ⟨z0, z1, z2, z3, z4, z5, z6, z7, z8, z9, z10, z11⟩
      go_simp
      (try with_reducible rfl)
    simp only [Act.put, List.setIfInBounds_toArray, List.set_cons_zero, List.set_cons_succ]
    refine held_take (i := 9) (v := ?_) rfl rfl (by kernel_rfl) (by kernel_rfl) (by kernel_rfl) (fun _ _ _ h => h) (by rfl) hHeld ?_ ?_
    rotate_left
    · rintro wh ⟨z0, z1, z2, z3, z4, z5, z6, z7, z8, z9, z10, z11⟩
      go_simp
      (try with_reducible rfl)
    simp only [Act.put, List.setIfInBounds_toArray, List.set_cons_zero, List.set_cons_succ]
    refine wpAnyH_done (by kernel_rfl) ?_ _
    have HB5 := Lib.hid (HBc.out.trans (hd5.mono HBc.out.size))
    clear hd4 hd5 hb4 hb5 p0 p1 p2 p3 p4 p5 x0 x1 x2 x3 x4 x5 k4 k5
    go_wp2
    go_ret
    exact ⟨rfl, HB5.out⟩
theorem walk (v : Value) (p : Pol) (rs : List Nmd) (u : Value) (x : Al) (fv : Value) (t : Value) (l : Int × Nat) (w : World) (h1 : ArgPol w v p rs) (h2 : ArgAl w u x fv) (h3 : ArgLab t l) : Calls Try.prog 3 #[v, u, t] w fun e w' => e = .returned (.bool true) ∧ Below w.heap.size w w' := by
  obtain ⟨rfl, q1, q2, q3⟩ := h1
  obtain ⟨rfl, r2, r3⟩ := h2
  obtain ⟨rfl, s2⟩ := h3
  exact walk0 p.a0 p.a1 p.a2 p.a3 p.a4 p.a5 p.n0 p.n1 p.n2 p.n3 p.n4 p.n5 p.c0 p.c1 p.c2 p.c3 p.c4 p.c5 q1.h0 q1.h1 q1.h2 q1.h3 q1.h4 q1.h5 rs x.src x.fl fv x.lv x.c x.fr x.til l.1 l.2 w r2 r3.len q2 q3 r3.c s2
end lawCuts
end Go.Proofs.Ytnmgfmmjdiephaa
