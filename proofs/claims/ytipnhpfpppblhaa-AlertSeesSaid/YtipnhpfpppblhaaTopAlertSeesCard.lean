/- AlertSees: the card: whatever the arguments, the law returns true and its arguments read as they did. No condition. -/
import Derived.Test.YtipnhpfpppblhaaTopAlertSeesCardP2
import Derived.Test.YtipnhpfpppblhaaCutL
import Derived.Test.YtipnhpfpppblhaaFrame12

/- AlertSees: the walk. -/
namespace Go.Proofs.Ytipnhpfpppblhaa
open Go.RowKit Go.Maps
theorem gTil_gt (f t : Int) : gTil f t = 0 ∨ gFr f < gTil f t := by
  unfold gTil
  split
  · exact .inl rfl
  · right
    have h := (gFr_in t).1
    unfold gFr at h ⊢
    omega
theorem same_selfS (s : ByteArray) (L : List Fld) (lv : Int) (c : Nat) (fr til : Int) : sameA s s L L lv c fr til lv c fr til = true := by unfold sameA; simp
theorem cutAl_len {rs : List Nmd} {x m : Al} {t : Int × Nat} (h : cutAl rs x t = m) : m.fl.length ≤ x.fl.length := by
  rw [← h]
  unfold cutAl
  split
  · exact vis_le _ _ _ _
  · exact Nat.zero_le _
structure SSt (w : World) (v0 v1 v2 v3 v4 v5 : Value) (tl : Int) (tc : Nat) (ul : Int) (uc : Nat) (W : World) : Prop where
  p : C6 w.heap.size v0 v1 v2 v3 v4 v5 W
  t0 : W.cell? ⟨w.heap.size + 1 + 1, 0, none⟩ = some (.int .i64 tl)
  t1 : W.cell? ⟨w.heap.size + 1 + 1, 1, none⟩ = some (.int .u32 tc)
  t2 : W.cell? ⟨w.heap.size + 1 + 1, 2, none⟩ = some (.int .i64 ul)
  t3 : W.cell? ⟨w.heap.size + 1 + 1, 3, none⟩ = some (.int .u32 uc)
  ge : w.heap.size + 1 + 1 < W.heap.size
  below : Below w.heap.size w W
theorem SSt.later {w W W' : World} {v0 v1 v2 v3 v4 v5 : Value} {tl : Int} {tc : Nat} {ul : Int} {uc : Nat} (h : SSt w v0 v1 v2 v3 v4 v5 tl tc ul uc W) (hb : Below W.heap.size W W') : SSt w v0 v1 v2 v3 v4 v5 tl tc ul uc W' := by
  have h1 := h.ge
  exact ⟨h.p.later hb (by omega), keep_cell h.t0 hb h1, keep_cell h.t1 hb h1, keep_cell h.t2 hb h1, keep_cell h.t3 hb h1, Nat.lt_of_lt_of_le h1 hb.size, h.below.trans (hb.mono h.below.size)⟩
namespace lawSees
set_option maxHeartbeats 6400000 in
set_option maxRecDepth 100000 in
theorem walk0 (v : PV) (p : PD) (src : ByteArray) (fl : List Fld) (fv : Value) (lv : Int) (c : Nat) (fr til : Int) (tl : Int) (tc : Nat) (ul : Int) (uc : Nat) (w : World) (hp : PolAt w v p) (hpf : PolFitD p) (hs : src.size ≤ maxLen) (hv : FldsAt w fv fl) (hfit : FldsFit fl) (hl : fl.length ≤ maxLen) (hc : c < 4294967296) (htc : tc < 4294967296) (huc : uc < 4294967296) :
    Calls Try.prog 4 #[v.v, .agg #[.string src, fv, .int .i64 lv, .int .u32 c, .int .i64 fr, .int .i64 til], .agg #[.int .i64 tl, .int .u32 tc, .int .i64 ul, .int .u32 uc]] w fun e w' => e = .returned (.bool true) ∧ Below w.heap.size w w' := by
  have kl := lives_any
  have kg := fun W (h : Below w.heap.size w W) => rgood9_any src fl fv lv c fr til W hs (hv.later h) hfit hl
  have kk := fun W (h : Below w.heap.size w W) => check8_any v p W (hp.later h) hpf
  obtain ⟨v0, v1, v2, v3, v4, v5⟩ := v
  obtain ⟨h0, h1, h2, h3, ⟨h4, _⟩, h5, _⟩ := hp
  dsimp only at h0 h1 h2 h3 h4 h5 kk
  obtain ⟨a0, c0, rfl, _, _⟩ := RdAt.shape h0
  obtain ⟨a1, c1, rfl, _, _⟩ := RdAt.shape h1
  obtain ⟨a2, c2, rfl, _, _⟩ := RdAt.shape h2
  obtain ⟨a3, c3, rfl, _, _⟩ := RdAt.shape h3
  obtain ⟨a4, c4, rfl, _, _⟩ := RdAt.shape h4
  obtain ⟨a5, c5, rfl, _, _⟩ := RdAt.shape h5
  have KCUT : Hid (∀ (x m : Al) (t : Int × Nat) (ok : Bool) (fa : Option Addr) (fc : Nat) (W : World), Below w.heap.size w W → FldsAt W (.slice fa x.fl.length fc) x.fl → x.fl.length ≤ 12 → cutOk p.ra x.fl (x.lv, x.c) t = ok → cutAl p.ra x t = m →
      Calls Try.prog 18 #[.agg #[.slice a0 p.so.length c0, .slice a1 p.re.length c1, .slice a2 p.pe.length c2, .slice a3 p.ra.length c3, .slice a4 p.ro.length c4, .slice a5 p.ih.length c5], .agg #[.string x.src, .slice fa x.fl.length fc, .int .i64 x.lv, .int .u32 x.c, .int .i64 x.fr, .int .i64 x.til], .agg #[.int .i64 t.1, .int .u32 t.2]] W fun e w' =>
        ∃ pa pc, e = .returned (.tuple #[.agg #[.string m.src, .slice pa m.fl.length pc, .int .i64 m.lv, .int .u32 m.c, .int .i64 m.fr, .int .i64 m.til], .bool ok]) ∧ FldsAt w' (.slice pa m.fl.length pc) m.fl ∧ (∀ q, (Value.slice pa m.fl.length pc).ownBlock = some q → W.heap.size ≤ q) ∧ Below W.heap.size W w') :=
    Lib.hid (fun x m t ok fa fc W hW hF hx hok hm => cut_l (a0, p.so.length, c0) (a1, p.re.length, c1) (a2, p.pe.length, c2) (a4, p.ro.length, c4) (a5, p.ih.length, c5) p.ra (.slice a3 p.ra.length c3) x (.slice fa x.fl.length fc) t m ok W (h3.later hW) hpf.h3.1 hF (by omega) hok hm)
  have HT0 := Lib.hid (gTil_gt fr til)
  obtain ⟨fa, fc, rfl, _, _⟩ := RdAt.shape hv
  obtain ⟨L, hL⟩ : ∃ z, goodF fl = z := ⟨_, rfl⟩
  rw [hL] at kg
  generalize gSrc src = src' at *
  generalize gLv lv = lv' at *
  generalize gTil fr til = til' at *
  generalize gFr fr = fr' at *
  obtain ⟨ck, hck⟩ : ∃ z, checkP p = z := ⟨_, rfl⟩
  rw [hck] at kk
  have KG := Lib.hid kg
  have KK := Lib.hid kk
  have HCS := Lib.hid (And.intro hc (And.intro htc huc))
  clear kg kk hv hfit hl hL hs h0 h1 h2 h3 h4 h5 hpf hck hc htc huc
  generalize p.so.length = n0 at *
  generalize p.re.length = n1 at *
  generalize p.pe.length = n2 at *
  generalize p.ra.length = n3 at *
  generalize p.ro.length = n4 at *
  generalize p.ih.length = n5 at *
  obtain ⟨W0, hW0⟩ : ∃ z, ((w.alloc (.cells #[.slice a0 n0 c0, .slice a1 n1 c1, .slice a2 n2 c2, .slice a3 n3 c3, .slice a4 n4 c4, .slice a5 n5 c5] 26)).alloc (.cells #[.string src, .slice fa fl.length fc, .int .i64 lv, .int .u32 c, .int .i64 fr, .int .i64 til] 38)).alloc (.cells #[.int .i64 tl, .int .u32 tc, .int .i64 ul, .int .u32 uc] 50) = z := ⟨_, rfl⟩
  have hb0 : Below w.heap.size w W0 := by rw [← hW0]; exact ((alloc_below _ _).trans ((alloc_below _ _).mono (by simp))).trans ((alloc_below _ _).mono (by simp; omega))
  have hz : w.heap.size + 1 + 1 < W0.heap.size := by rw [← hW0]; simp
  have hbb := (Below.refl W0.heap.size W0)
  rw [← hW0] at hbb
  obtain ⟨g1, g2, g3⟩ := box_cells hbb
  obtain ⟨g4, g5, g6, g7⟩ := box_two g3
  rw [hW0] at g1 g4 g5
  simp only [World.size_alloc] at g1
  have HA : Hid (C6 (w.heap.size + 1) (.string src) (.slice fa fl.length fc) (.int .i64 lv) (.int .u32 c) (.int .i64 fr) (.int .i64 til) W0) := Lib.hid ⟨g5 0 _ rfl, g5 1 _ rfl, g5 2 _ rfl, g5 3 _ rfl, g5 4 _ rfl, g5 5 _ rfl⟩
  have HS : Hid (SSt w (.slice a0 n0 c0) (.slice a1 n1 c1) (.slice a2 n2 c2) (.slice a3 n3 c3) (.slice a4 n4 c4) (.slice a5 n5 c5) tl tc ul uc W0) := Lib.hid ⟨⟨g4 0 _ rfl, g4 1 _ rfl, g4 2 _ rfl, g4 3 _ rfl, g4 4 _ rfl, g4 5 _ rfl⟩, g1 0 _ rfl, g1 1 _ rfl, g1 2 _ rfl, g1 3 _ rfl, hz, hb0⟩
  have HW0 := Lib.hid hW0
  clear g1 g2 g3 g4 g5 g6 g7 hbb hb0 hz hW0
  go_enter Try.func4, Try.ntmps4
  go_upto_region 1 with fail
  rw [HW0.out]
  clear HW0
  go_wp2_with fail
  refine (kl _).mono ?_
  rintro e w1 ⟨rfl, hb1⟩
  have HA1 := Lib.hid (HA.out.later hb1 (by have := HS.out.ge; omega))
  have HS1 := Lib.hid (HS.out.later hb1)
  clear HA HS hb1 kl
  obtain ⟨x0, x1, x2, x3, x4, x5⟩ := HA1.out
  go_wp2_with fail
  refine (KG.out _ HS1.out.below).mono ?_
  rintro e w2 ⟨vg, rfl, hFg, hfitg, hrg, _, hb2⟩
  obtain ⟨ga, gc, rfl, _, _⟩ := RdAt.shape hFg
  have hL8 := Lib.hid (rightF_len hrg)
  have HG3 := Lib.hid (abx_new (src := src') (lv := lv') (c := c) (fr := fr') (til := til') (t := 38) hFg)
  have HS3 := Lib.hid (HS1.out.later (hb2.trans ((alloc_below w2 (.cells #[.string src', .slice ga L.length gc, .int .i64 lv', .int .u32 c, .int .i64 fr', .int .i64 til'] 38)).mono hb2.size)))
  clear x0 x1 x2 x3 x4 x5 HA1 KG hFg hb2 HS1 hfitg hrg
  obtain ⟨sb, hsb⟩ : ∃ z, decide (0 < L.length) = z := ⟨_, rfl⟩
  rw [hsb]
  clear hsb
  go_upto_region 4 with fail
  change Code.wp _ _ _ _ (w2.alloc (.cells #[.string src', .slice ga L.length gc, .int .i64 lv', .int .u32 c, .int .i64 fr', .int .i64 til'] 38))
  generalize w2.alloc (.cells #[.string src', .slice ga L.length gc, .int .i64 lv', .int .u32 c, .int .i64 fr', .int .i64 til'] 38) = w3 at *
  generalize w2.heap.size = gg at *
  cases sb
  · go_wp2
    go_ret
    exact ⟨rfl, HS3.out.below⟩
  · obtain ⟨q0, q1, q2, q3, q4, q5⟩ := HS3.out.p
    go_wp2_with fail
    refine (KK.out _ HS3.out.below).mono ?_
    rintro e w4 ⟨rfl, hb4⟩
    have HS4 := Lib.hid (HS3.out.later hb4)
    have HG4 := Lib.hid (HG3.out.later hb4)
    clear hb4 q0 q1 q2 q3 q4 q5 HS3 HG3 KK
    by_cases hk0 : ck = 0
    · subst hk0
      have t0 := HS4.out.t0
      have t1 := HS4.out.t1
      have kr := rright_any tl tc w4
      cases hr0 : rightL tl
      · rw [hr0] at kr
        clear hr0
        go_wp2_with fail
        refine kr.mono ?_
        rintro e w5 ⟨rfl, hb5⟩
        have HB5 := Lib.hid (HS4.out.below.trans (hb5.mono HS4.out.below.size))
        clear t0 t1 hb5 kr
        go_wp2
        go_ret
        exact ⟨rfl, HB5.out⟩
      · rw [hr0] at kr
        have HR0 := Lib.hid hr0
        clear hr0
        go_wp2_with fail
        refine kr.mono ?_
        rintro e w5 ⟨rfl, hb5⟩
        have HS5 := Lib.hid (HS4.out.later hb5)
        have HG5 := Lib.hid (HG4.out.later hb5)
        clear t0 t1 hb5 kr HS4 HG4
        have t2 := HS5.out.t2
        have t3 := HS5.out.t3
        have kr := rright_any ul uc w5
        cases hr1 : rightL ul
        · rw [hr1] at kr
          clear hr1
          go_wp2_with fail
          refine kr.mono ?_
          rintro e w6 ⟨rfl, hb6⟩
          have HB6 := Lib.hid (HS5.out.below.trans (hb6.mono HS5.out.below.size))
          clear t2 t3 hb6 kr
          go_wp2
          go_ret
          exact ⟨rfl, HB6.out⟩
        · rw [hr1] at kr
          have HR1 := Lib.hid hr1
          clear hr1
          go_wp2_with fail
          refine kr.mono ?_
          rintro e w6 ⟨rfl, hb6⟩
          have HS6 := Lib.hid (HS5.out.later hb6)
          have HG6 := Lib.hid (HG5.out.later hb6)
          clear t2 t3 hb6 kr HS5 HG5
          -- the law, plainly
          obtain ⟨ml, mc, hmt⟩ : ∃ ml mc, meetL (tl, tc) (ul, uc) = (ml, mc) := ⟨_, _, rfl⟩
          have KMT := Lib.hid (fun W => rmeet_any tl tc ul uc W HCS.out.2.1 HCS.out.2.2)
          rw [hmt] at KMT
          have law := sees_law p.ra ⟨src', L, lv', c, fr', til'⟩ (s := (tl, tc)) (t := (ul, uc)) HR0.out HR1.out
          rw [hmt] at law
          obtain ⟨m1, hm1⟩ : ∃ z, cutAl p.ra ⟨src', L, lv', c, fr', til'⟩ (tl, tc) = z := ⟨_, rfl⟩
          obtain ⟨m2, hm2⟩ : ∃ z, cutAl p.ra ⟨src', L, lv', c, fr', til'⟩ (ul, uc) = z := ⟨_, rfl⟩
          obtain ⟨m3, hm3⟩ : ∃ z, cutAl p.ra m1 (ul, uc) = z := ⟨_, rfl⟩
          obtain ⟨m4, hm4⟩ : ∃ z, cutAl p.ra ⟨src', L, lv', c, fr', til'⟩ (ml, mc) = z := ⟨_, rfl⟩
          have hl1 := cutAl_len hm1
          have hl2 := cutAl_len hm2
          have hl3 := cutAl_len hm3
          have hl4 := cutAl_len hm4
          rw [hm1, hm2, hm3, hm4] at law
          obtain ⟨k1, hk1⟩ : ∃ z, cutOk p.ra L (lv', c) (tl, tc) = z := ⟨_, rfl⟩
          obtain ⟨k2, hk2⟩ : ∃ z, cutOk p.ra L (lv', c) (ul, uc) = z := ⟨_, rfl⟩
          obtain ⟨k3, hk3⟩ : ∃ z, cutOk p.ra m1.fl (m1.lv, m1.c) (ul, uc) = z := ⟨_, rfl⟩
          obtain ⟨k4, hk4⟩ : ∃ z, cutOk p.ra L (lv', c) (ml, mc) = z := ⟨_, rfl⟩
          dsimp only at law
          rw [hk1, hk2, hk3, hk4] at law
          obtain ⟨ff, hff⟩ : ∃ z, flowsL tl tc ul uc = z := ⟨_, rfl⟩
          rw [hff] at law
          have KF : Hid (∀ W, Calls Try.prog 19 #[Lab tl tc, Lab ul uc] W fun e w' => e = .returned (.bool ff) ∧ Below W.heap.size W w') := Lib.hid (fun W => hff ▸ rflows_any tl tc ul uc W HCS.out.2.1 HCS.out.2.2)
          have C1 := Lib.hid (fun ga gc W hW hF => KCUT.out ⟨src', L, lv', c, fr', til'⟩ m1 (tl, tc) k1 ga gc W hW hF (Nat.le_trans hL8.out (by decide)) hk1 hm1)
          have C2 := Lib.hid (fun ga gc W hW hF => KCUT.out ⟨src', L, lv', c, fr', til'⟩ m2 (ul, uc) k2 ga gc W hW hF (Nat.le_trans hL8.out (by decide)) hk2 hm2)
          have C3 := Lib.hid (fun ga gc W hW hF => KCUT.out m1 m3 (ul, uc) k3 ga gc W hW hF (Nat.le_trans hl1 (Nat.le_trans hL8.out (by decide))) hk3 hm3)
          have C4 := Lib.hid (fun ga gc W hW hF => KCUT.out ⟨src', L, lv', c, fr', til'⟩ m4 (ml, mc) k4 ga gc W hW hF (Nat.le_trans hL8.out (by decide)) hk4 hm4)
          clear hm1 hm2 hm3 hm4 hk1 hk2 hk3 hk4 hff hmt KCUT HR0 HR1
          obtain ⟨bs, bL, bl, bc, bf, bt⟩ := m1
          obtain ⟨ds, dL, dl, dc, df, dt⟩ := m2
          obtain ⟨es, eL, el, ec, ef, et⟩ := m3
          obtain ⟨us, uL, ql, qc, uf, ut⟩ := m4
          dsimp only at law hl1 hl2 hl3 hl4 C1 C2 C3 C4
          have HLAW := Lib.hid law
          have HLL := Lib.hid (And.intro hl1 (And.intro hl2 (And.intro hl3 hl4)))
          clear law hl1 hl2 hl3 hl4
          -- x
          obtain ⟨x0, x1, x2, x3, x4, x5⟩ := HG6.out.x
          go_upto_region 6 with fail
          go_wp2_with fail
          refine (back_few src' L _ lv' c fr' til' w6 HG6.out.f (Nat.le_trans hL8.out (by decide))).mono ?_
          rintro e w7 ⟨rfl, hb7⟩
          have HX := Lib.hid (abx_new (src := src') (lv := lv') (c := c) (fr := fr') (til := til') (t := 36) (HG6.out.f.later hb7))
          have hbx := hb7.trans ((alloc_below w7 (.cells #[.string src', .slice ga L.length gc, .int .i64 lv', .int .u32 c, .int .i64 fr', .int .i64 til'] 36)).mono hb7.size)
          have HS8 := Lib.hid (HS6.out.later hbx)
          clear x0 x1 x2 x3 x4 x5 hbx hb7 HG6 HS6
          go_upto_region 7 with fail
          change Code.wp _ _ _ _ (w7.alloc (.cells #[.string src', .slice ga L.length gc, .int .i64 lv', .int .u32 c, .int .i64 fr', .int .i64 til'] 36))
          generalize w7.alloc (.cells #[.string src', .slice ga L.length gc, .int .i64 lv', .int .u32 c, .int .i64 fr', .int .i64 til'] 36) = w8 at *
          generalize w7.heap.size = gx at *
          -- b
          obtain ⟨x0, x1, x2, x3, x4, x5⟩ := HX.out.x
          obtain ⟨q0, q1, q2, q3, q4, q5⟩ := HS8.out.p
          have t0 := HS8.out.t0
          have t1 := HS8.out.t1
          go_wp2_with fail
          refine (C1.out ga gc _ HS8.out.below HX.out.f).mono ?_
          rintro e w9 ⟨ba, bd, rfl, hF, _, hb⟩
          have HBx := Lib.hid (abx_new (src := bs) (lv := bl) (c := bc) (fr := bf) (til := bt) (t := 36) hF)
          have hbb := hb.trans ((alloc_below w9 (.cells #[.string bs, .slice ba bL.length bd, .int .i64 bl, .int .u32 bc, .int .i64 bf, .int .i64 bt] 36)).mono hb.size)
          have HS10 := Lib.hid (HS8.out.later hbb)
          replace HX := Lib.hid (HX.out.later hbb)
          clear x0 x1 x2 x3 x4 x5 q0 q1 q2 q3 q4 q5 t0 t1 hF hb hbb C1 HS8
          go_upto_region 8 with fail
          change Code.wp _ _ _ _ (w9.alloc (.cells #[.string bs, .slice ba bL.length bd, .int .i64 bl, .int .u32 bc, .int .i64 bf, .int .i64 bt] 36))
          generalize w9.alloc (.cells #[.string bs, .slice ba bL.length bd, .int .i64 bl, .int .u32 bc, .int .i64 bf, .int .i64 bt] 36) = w10 at *
          generalize w9.heap.size = gb at *
          -- c
          obtain ⟨x0, x1, x2, x3, x4, x5⟩ := HX.out.x
          obtain ⟨q0, q1, q2, q3, q4, q5⟩ := HS10.out.p
          have t2 := HS10.out.t2
          have t3 := HS10.out.t3
          go_wp2_with fail
          refine (C2.out ga gc _ HS10.out.below HX.out.f).mono ?_
          rintro e w11 ⟨da, dd, rfl, hF, _, hb⟩
          have HDx := Lib.hid (abx_new (src := ds) (lv := dl) (c := dc) (fr := df) (til := dt) (t := 36) hF)
          have hbb := hb.trans ((alloc_below w11 (.cells #[.string ds, .slice da dL.length dd, .int .i64 dl, .int .u32 dc, .int .i64 df, .int .i64 dt] 36)).mono hb.size)
          have HS12 := Lib.hid (HS10.out.later hbb)
          replace HX := Lib.hid (HX.out.later hbb)
          replace HBx := Lib.hid (HBx.out.later hbb)
          clear x0 x1 x2 x3 x4 x5 q0 q1 q2 q3 q4 q5 t2 t3 hF hb hbb C2 HS10
          go_upto_region 9 with fail
          change Code.wp _ _ _ _ (w11.alloc (.cells #[.string ds, .slice da dL.length dd, .int .i64 dl, .int .u32 dc, .int .i64 df, .int .i64 dt] 36))
          generalize w11.alloc (.cells #[.string ds, .slice da dL.length dd, .int .i64 dl, .int .u32 dc, .int .i64 df, .int .i64 dt] 36) = w12 at *
          generalize w11.heap.size = gd at *
          have t0 := HS12.out.t0
          have t1 := HS12.out.t1
          have t2 := HS12.out.t2
          have t3 := HS12.out.t3
          go_cut [82] from 62 to 82 (fun s82 wx => s82 = .bool false ∧ Below w12.heap.size w12 wx)
          case first =>
            go_wp2_with fail
            refine (KF.out _).mono ?_
            rintro e w13 ⟨rfl, hb13⟩
            have HB13 := Lib.hid hb13
            obtain ⟨b0, b1, b2, b3, b4, b5⟩ := HBx.out.x.later hb13 HBx.out.lt
            obtain ⟨d0, d1, d2, d3, d4, d5⟩ := HDx.out.x.later hb13 HDx.out.lt
            clear t0 t1 t2 t3 hb13
            cases ff
            · go_wp2
              go_meet
              exact ⟨rfl, HB13.out⟩
            · cases k1
              · go_wp2
                go_meet
                exact ⟨rfl, HB13.out⟩
              · obtain ⟨hy, hle⟩ := HLAW.out.1 rfl rfl
                subst hy
                have hno : decide (dL.length < bL.length) = false := decide_eq_false (by omega)
                go_wp2
                go_meet
                exact ⟨rfl, HB13.out⟩
          case rest =>
            obtain ⟨rfl, hB⟩ := hcut
            replace HX := Lib.hid (HX.out.later hB)
            replace HBx := Lib.hid (HBx.out.later hB)
            have HS13 := Lib.hid (HS12.out.later hB)
            clear t0 t1 t2 t3 hB HS12 HDx KF
            go_upto_region 11 with fail
            -- d
            obtain ⟨b0, b1, b2, b3, b4, b5⟩ := HBx.out.x
            obtain ⟨q0, q1, q2, q3, q4, q5⟩ := HS13.out.p
            have t2 := HS13.out.t2
            have t3 := HS13.out.t3
            go_wp2_with fail
            refine (C3.out ba bd _ HS13.out.below HBx.out.f).mono ?_
            rintro e w14 ⟨ea, ed, rfl, hF, _, hb⟩
            have HEx := Lib.hid (abx_new (src := es) (lv := el) (c := ec) (fr := ef) (til := et) (t := 36) hF)
            have hbb := hb.trans ((alloc_below w14 (.cells #[.string es, .slice ea eL.length ed, .int .i64 el, .int .u32 ec, .int .i64 ef, .int .i64 et] 36)).mono hb.size)
            have HS15 := Lib.hid (HS13.out.later hbb)
            replace HX := Lib.hid (HX.out.later hbb)
            replace HBx := Lib.hid (HBx.out.later hbb)
            clear b0 b1 b2 b3 b4 b5 q0 q1 q2 q3 q4 q5 t2 t3 hF hb hbb C3 HS13
            go_upto_region 12 with fail
            change Code.wp _ _ _ _ (w14.alloc (.cells #[.string es, .slice ea eL.length ed, .int .i64 el, .int .u32 ec, .int .i64 ef, .int .i64 et] 36))
            generalize w14.alloc (.cells #[.string es, .slice ea eL.length ed, .int .i64 el, .int .u32 ec, .int .i64 ef, .int .i64 et] 36) = w15 at *
            generalize w14.heap.size = ge at *
            obtain ⟨x0, x1, x2, x3, x4, x5⟩ := HX.out.x
            obtain ⟨q0, q1, q2, q3, q4, q5⟩ := HS15.out.p
            have t0 := HS15.out.t0
            have t1 := HS15.out.t1
            have t2 := HS15.out.t2
            have t3 := HS15.out.t3
            have hlx := HX.out.lt
            have hlt := HS15.out.ge
            have hlq : w.heap.size < w15.heap.size := by omega
            have CM : Hid (∀ W, Below w15.heap.size w15 W → Calls Try.prog 18 #[.agg #[.slice a0 n0 c0, .slice a1 n1 c1, .slice a2 n2 c2, .slice a3 n3 c3, .slice a4 n4 c4, .slice a5 n5 c5], .agg #[.string src', .slice ga L.length gc, .int .i64 lv', .int .u32 c, .int .i64 fr', .int .i64 til'], .agg #[.int .i64 ml, .int .u32 mc]] W fun e w' =>
                ∃ pa pc, e = .returned (.tuple #[.agg #[.string us, .slice pa uL.length pc, .int .i64 ql, .int .u32 qc, .int .i64 uf, .int .i64 ut], .bool k4]) ∧ FldsAt w' (.slice pa uL.length pc) uL ∧ (∀ q, (Value.slice pa uL.length pc).ownBlock = some q → W.heap.size ≤ q) ∧ Below W.heap.size W w') :=
              Lib.hid (fun W h => C4.out ga gc W (HS15.out.below.trans (h.mono HS15.out.below.size)) (HX.out.f.later h))
            go_cut [16, 17] from 92 to 101 (fun s16 s17 wx => ∃ gu ua ud, s16 = .pointer (some ⟨gu, 0, none⟩) ∧ s17 = .bool k4 ∧ C6 gu (.string us) (.slice ua uL.length ud) (.int .i64 ql) (.int .u32 qc) (.int .i64 uf) (.int .i64 ut) wx ∧ FldsAt wx (.slice ua uL.length ud) uL ∧ gu < wx.heap.size ∧ Below w15.heap.size w15 wx)
            case first =>
              refine wp_region_held_drew (S := (fun W => W.cell? ⟨w.heap.size, 0, none⟩ = some (.slice a0 n0 c0) ∧ W.cell? ⟨w.heap.size, 1, none⟩ = some (.slice a1 n1 c1) ∧ W.cell? ⟨w.heap.size, 2, none⟩ = some (.slice a2 n2 c2) ∧ W.cell? ⟨w.heap.size, 3, none⟩ = some (.slice a3 n3 c3) ∧ W.cell? ⟨w.heap.size, 4, none⟩ = some (.slice a4 n4 c4) ∧ W.cell? ⟨w.heap.size, 5, none⟩ = some (.slice a5 n5 c5) ∧ W.cell? ⟨gx, 0, none⟩ = some (.string src') ∧ W.cell? ⟨gx, 1, none⟩ = some (.slice ga L.length gc) ∧ W.cell? ⟨gx, 2, none⟩ = some (.int .i64 lv') ∧ W.cell? ⟨gx, 3, none⟩ = some (.int .u32 c) ∧ W.cell? ⟨gx, 4, none⟩ = some (.int .i64 fr') ∧ W.cell? ⟨gx, 5, none⟩ = some (.int .i64 til') ∧ W.cell? ⟨w.heap.size + 1 + 1, 0, none⟩ = some (.int .i64 tl) ∧ W.cell? ⟨w.heap.size + 1 + 1, 1, none⟩ = some (.int .u32 tc) ∧ W.cell? ⟨w.heap.size + 1 + 1, 2, none⟩ = some (.int .i64 ul) ∧ W.cell? ⟨w.heap.size + 1 + 1, 3, none⟩ = some (.int .u32 uc))) (by kernel_rfl) ⟨q0, q1, q2, q3, q4, q5, x0, x1, x2, x3, x4, x5, t0, t1, t2, t3⟩ (fun hHeld => ?_)
              have hd : Below w15.heap.size w15 w15.drew := (Below.refl _ _).drew
              generalize w15.drew = wd at *
              refine held_take (i := 0) (v := ?_) rfl rfl (by kernel_rfl) (by kernel_rfl) (by kernel_rfl) (fun _ _ _ h => h) (by rfl) hHeld ?_ ?_
              rotate_left
              · rintro wh ⟨z0, z1, z2, z3, z4, z5, z6, z7, z8, z9, z10, z11, z12, z13, z14, z15⟩
                go_simp
                (try with_reducible rfl)
              simp only [Act.put, List.setIfInBounds_toArray, List.set_cons_zero, List.set_cons_succ]
              refine held_take (i := 1) (v := ?_) rfl rfl (by kernel_rfl) (by kernel_rfl) (by kernel_rfl) (fun _ _ _ h => h) (by rfl) hHeld ?_ ?_
              rotate_left
              · rintro wh ⟨z0, z1, z2, z3, z4, z5, z6, z7, z8, z9, z10, z11, z12, z13, z14, z15⟩
                go_simp
                (try with_reducible rfl)
              simp only [Act.put, List.setIfInBounds_toArray, List.set_cons_zero, List.set_cons_succ]
              refine held_take (i := 2) (v := ?_) rfl rfl (by kernel_rfl) (by kernel_rfl) (by kernel_rfl) (fun _ _ _ h => h) (by rfl) hHeld ?_ ?_
              rotate_left
              · rintro wh ⟨z0, z1, z2, z3, z4, z5, z6, z7, z8, z9, z10, z11, z12, z13, z14, z15⟩
                go_simp
                (try with_reducible rfl)
              simp only [Act.put, List.setIfInBounds_toArray, List.set_cons_zero, List.set_cons_succ]
              refine held_take (i := 3) (v := ?_) rfl rfl (by kernel_rfl) (by kernel_rfl) (by kernel_rfl) (fun _ _ _ h => h) (by rfl) hHeld ?_ ?_
              rotate_left
              · rintro wh ⟨z0, z1, z2, z3, z4, z5, z6, z7, z8, z9, z10, z11, z12, z13, z14, z15⟩
                go_simp
                (try with_reducible rfl)
              simp only [Act.put, List.setIfInBounds_toArray, List.set_cons_zero, List.set_cons_succ]
              refine held_take (i := 4) (v := ?_) rfl rfl (by kernel_rfl) (by kernel_rfl) (by kernel_rfl) (fun _ _ _ h => h) (by rfl) hHeld ?_ ?_
              rotate_left
              · rintro wh ⟨z0, z1, z2, z3, z4, z5, z6, z7, z8, z9, z10, z11, z12, z13, z14, z15⟩
                go_simp
                (try with_reducible rfl)
              simp only [Act.put, List.setIfInBounds_toArray, List.set_cons_zero, List.set_cons_succ]
              refine held_take (i := 5) (v := ?_) rfl rfl (by kernel_rfl) (by kernel_rfl) (by kernel_rfl) (fun _ _ _ h => h) (by rfl) hHeld ?_ ?_
              rotate_left
              · rintro wh ⟨z0, z1, z2, z3, z4, z5, z6, z7, z8, z9, z10, z11, z12, z13, z14, z15⟩
                go_simp
                (try with_reducible rfl)
              simp only [Act.put, List.setIfInBounds_toArray, List.set_cons_zero, List.set_cons_succ]
              refine held_two (i := 6) (j := 11) rfl rfl (by kernel_rfl) (fun K hK => ?_) (fun K hK => ?_)
              · go_simp; go_at_call 20; refine (KMT.out _).mono ?_; rintro e w_1 ⟨rfl, hb_1⟩
                have hB_1 := hd.trans (hb_1.mono hd.size)
                refine hK.out _ _ ⟨keep_cell q0 hB_1 hlq, keep_cell q1 hB_1 hlq, keep_cell q2 hB_1 hlq, keep_cell q3 hB_1 hlq, keep_cell q4 hB_1 hlq, keep_cell q5 hB_1 hlq, keep_cell x0 hB_1 hlx, keep_cell x1 hB_1 hlx, keep_cell x2 hB_1 hlx, keep_cell x3 hB_1 hlx, keep_cell x4 hB_1 hlx, keep_cell x5 hB_1 hlx, keep_cell t0 hB_1 hlt, keep_cell t1 hB_1 hlt, keep_cell t2 hB_1 hlt, keep_cell t3 hB_1 hlt⟩ (fun hHeld => ?_)
                clear hK K
                (try simp only [Act.put, List.setIfInBounds_toArray, List.set_cons_zero, List.set_cons_succ])
                refine held_two (i := 7) (j := 11) rfl rfl (by kernel_rfl) (fun K hK => ?_) (fun K hK => ?_)
                · go_simp; go_at_call 18; refine (CM.out _ hB_1).mono ?_; rintro e w_2 ⟨ua, ud, rfl, hF_2, hO_2, hb_2⟩
                  have hB_2 := hB_1.trans (hb_2.mono hB_1.size)
                  refine hK.out _ _ ⟨keep_cell q0 hB_2 hlq, keep_cell q1 hB_2 hlq, keep_cell q2 hB_2 hlq, keep_cell q3 hB_2 hlq, keep_cell q4 hB_2 hlq, keep_cell q5 hB_2 hlq, keep_cell x0 hB_2 hlx, keep_cell x1 hB_2 hlx, keep_cell x2 hB_2 hlx, keep_cell x3 hB_2 hlx, keep_cell x4 hB_2 hlx, keep_cell x5 hB_2 hlx, keep_cell t0 hB_2 hlt, keep_cell t1 hB_2 hlt, keep_cell t2 hB_2 hlt, keep_cell t3 hB_2 hlt⟩ (fun hHeld => ?_)
                  clear hK K
                  (try simp only [Act.put, List.setIfInBounds_toArray, List.set_cons_zero, List.set_cons_succ])
                  refine held_take (i := 8) (v := ?_) rfl rfl (by kernel_rfl) (by kernel_rfl) (by kernel_rfl) (fun _ _ _ h => h) (by rfl) hHeld ?_ ?_
                  rotate_left
                  · rintro wh ⟨z0, z1, z2, z3, z4, z5, z6, z7, z8, z9, z10, z11, z12, z13, z14, z15⟩
                    go_simp
                    (try with_reducible rfl)
                  simp only [Act.put, List.setIfInBounds_toArray, List.set_cons_zero, List.set_cons_succ]
                  refine held_take (i := 9) (v := ?_) rfl rfl (by kernel_rfl) (by kernel_rfl) (by kernel_rfl) (fun _ _ _ h => h) (by rfl) hHeld ?_ ?_
                  rotate_left
                  · rintro wh ⟨z0, z1, z2, z3, z4, z5, z6, z7, z8, z9, z10, z11, z12, z13, z14, z15⟩
                    go_simp
                    (try with_reducible rfl)
                  simp only [Act.put, List.setIfInBounds_toArray, List.set_cons_zero, List.set_cons_succ]
                  refine held_take (i := 10) (v := ?_) rfl rfl (by kernel_rfl) (by kernel_rfl) (by kernel_rfl) (fun _ _ _ h => h) (by rfl) hHeld ?_ ?_
                  rotate_left
                  · rintro wh ⟨z0, z1, z2, z3, z4, z5, z6, z7, z8, z9, z10, z11, z12, z13, z14, z15⟩
                    go_simp
                    (try with_reducible rfl)
                  simp only [Act.put, List.setIfInBounds_toArray, List.set_cons_zero, List.set_cons_succ]
                  refine held_step (i := 11) rfl (by kernel_rfl) (fun K hK => ?_)
                  have hb_3 := alloc_below w_2 (.cells #[.string ⟨#[]⟩, .slice none 0 0, .int .i64 0, .int .u32 0, .int .i64 0, .int .i64 0] 36)
                  have hT_3 := box_there (Below.refl (w_2.alloc (.cells #[.string ⟨#[]⟩, .slice none 0 0, .int .i64 0, .int .u32 0, .int .i64 0, .int .i64 0] 36)).heap.size (w_2.alloc (.cells #[.string ⟨#[]⟩, .slice none 0 0, .int .i64 0, .int .u32 0, .int .i64 0, .int .i64 0] 36)))
                  have hL_3 : w_2.heap.size < (w_2.alloc (.cells #[.string ⟨#[]⟩, .slice none 0 0, .int .i64 0, .int .u32 0, .int .i64 0, .int .i64 0] 36)).heap.size := by rw [World.size_alloc]; omega
                  have hG_3 := hB_2.size
                  have hB_3 := hB_2.trans (hb_3.mono hB_2.size)
                  have hP_3 := hF_2.later (below_puts (g := w_2.heap.size) (o := 0) hb_3 (Nat.le_refl _) [.string us, .slice ua uL.length ud, .int .i64 ql, .int .u32 qc, .int .i64 uf, .int .i64 ut])
                  go_simp
                  refine hK.out _ _ ⟨keep_cell q0 hB_3 hlq, keep_cell q1 hB_3 hlq, keep_cell q2 hB_3 hlq, keep_cell q3 hB_3 hlq, keep_cell q4 hB_3 hlq, keep_cell q5 hB_3 hlq, keep_cell x0 hB_3 hlx, keep_cell x1 hB_3 hlx, keep_cell x2 hB_3 hlx, keep_cell x3 hB_3 hlx, keep_cell x4 hB_3 hlx, keep_cell x5 hB_3 hlx, keep_cell t0 hB_3 hlt, keep_cell t1 hB_3 hlt, keep_cell t2 hB_3 hlt, keep_cell t3 hB_3 hlt⟩ (fun hHeld => ?_)
                  clear hK K
                  (try simp only [Act.put, List.setIfInBounds_toArray, List.set_cons_zero, List.set_cons_succ])
                  generalize w_2.alloc (.cells #[.string ⟨#[]⟩, .slice none 0 0, .int .i64 0, .int .u32 0, .int .i64 0, .int .i64 0] 36) = w_3 at *
                  have r0 := there_free hT_3 0 (by decide)
                  have r1 := there_free hT_3 1 (by decide)
                  have r2 := there_free hT_3 2 (by decide)
                  have r3 := there_free hT_3 3 (by decide)
                  have r4 := there_free hT_3 4 (by decide)
                  have r5 := there_free hT_3 5 (by decide)
                  obtain ⟨y0, hy0⟩ := there_cell hT_3 0 (by decide)
                  obtain ⟨y1, hy1⟩ := there_cell hT_3 1 (by decide)
                  obtain ⟨y2, hy2⟩ := there_cell hT_3 2 (by decide)
                  obtain ⟨y3, hy3⟩ := there_cell hT_3 3 (by decide)
                  obtain ⟨y4, hy4⟩ := there_cell hT_3 4 (by decide)
                  obtain ⟨y5, hy5⟩ := there_cell hT_3 5 (by decide)
                  have HB_4 : Hid (Below w15.heap.size w15 (w_3.setCells w_2.heap.size 0 [.string us, .slice ua uL.length ud, .int .i64 ql, .int .u32 qc, .int .i64 uf, .int .i64 ut])) := Lib.hid (below_puts (g := w_2.heap.size) (o := 0) hB_3 hG_3 [.string us, .slice ua uL.length ud, .int .i64 ql, .int .u32 qc, .int .i64 uf, .int .i64 ut])
                  have HZ_4 := Lib.hid (below_puts_base (g := w_2.heap.size) (o := 0) (Below.refl 0 w_3) (Nat.zero_le _) [.string us, .slice ua uL.length ud, .int .i64 ql, .int .u32 qc, .int .i64 uf, .int .i64 ut]).size
                  have HC_4 := Lib.hid (c6_puts w_3 w_2.heap.size (.string us) (.slice ua uL.length ud) (.int .i64 ql) (.int .u32 qc) (.int .i64 uf) (.int .i64 ut) hT_3)
                  have HF_4 : Hid (FldsAt (w_3.setCells w_2.heap.size 0 [.string us, .slice ua uL.length ud, .int .i64 ql, .int .u32 qc, .int .i64 uf, .int .i64 ut]) (.slice ua uL.length ud) uL) := Lib.hid hP_3
                  refine held_step (i := 12) rfl (by kernel_rfl) (fun K hK => ?_)
                  go_simp
                  refine hK.out _ (w_3.setCells w_2.heap.size 0 [.string us, .slice ua uL.length ud, .int .i64 ql, .int .u32 qc, .int .i64 uf, .int .i64 ut]) ⟨keep_cell q0 HB_4.out hlq, keep_cell q1 HB_4.out hlq, keep_cell q2 HB_4.out hlq, keep_cell q3 HB_4.out hlq, keep_cell q4 HB_4.out hlq, keep_cell q5 HB_4.out hlq, keep_cell x0 HB_4.out hlx, keep_cell x1 HB_4.out hlx, keep_cell x2 HB_4.out hlx, keep_cell x3 HB_4.out hlx, keep_cell x4 HB_4.out hlx, keep_cell x5 HB_4.out hlx, keep_cell t0 HB_4.out hlt, keep_cell t1 HB_4.out hlt, keep_cell t2 HB_4.out hlt, keep_cell t3 HB_4.out hlt⟩ (fun hHeld => ?_)
                  clear hK K
                  (try simp only [Act.put, List.setIfInBounds_toArray, List.set_cons_zero, List.set_cons_succ])
                  generalize (w_3.setCells w_2.heap.size 0 [.string us, .slice ua uL.length ud, .int .i64 ql, .int .u32 qc, .int .i64 uf, .int .i64 ut]) = w_4 at *
                  refine held_take (i := 13) (v := ?_) rfl rfl (by kernel_rfl) (by kernel_rfl) (by kernel_rfl) (fun _ _ _ h => h) (by rfl) hHeld ?_ ?_
                  rotate_left
                  · rintro wh ⟨z0, z1, z2, z3, z4, z5, z6, z7, z8, z9, z10, z11, z12, z13, z14, z15⟩
                    go_simp
                    (try with_reducible rfl)
                  simp only [Act.put, List.setIfInBounds_toArray, List.set_cons_zero, List.set_cons_succ]
                  refine wpAnyH_done (by kernel_rfl) ?_ _
                  go_wp2
                  go_meet
                  exact ⟨w_2.heap.size, ua, ud, rfl, rfl, HC_4.out, HF_4.out, Nat.lt_of_lt_of_le hL_3 HZ_4.out, HB_4.out⟩
                · have hb_5 := alloc_below w_1 (.cells #[.string ⟨#[]⟩, .slice none 0 0, .int .i64 0, .int .u32 0, .int .i64 0, .int .i64 0] 36)
                  have hT_5 := box_there (Below.refl (w_1.alloc (.cells #[.string ⟨#[]⟩, .slice none 0 0, .int .i64 0, .int .u32 0, .int .i64 0, .int .i64 0] 36)).heap.size (w_1.alloc (.cells #[.string ⟨#[]⟩, .slice none 0 0, .int .i64 0, .int .u32 0, .int .i64 0, .int .i64 0] 36)))
                  have hL_5 : w_1.heap.size < (w_1.alloc (.cells #[.string ⟨#[]⟩, .slice none 0 0, .int .i64 0, .int .u32 0, .int .i64 0, .int .i64 0] 36)).heap.size := by rw [World.size_alloc]; omega
                  have hG_5 := hB_1.size
                  have hB_5 := hB_1.trans (hb_5.mono hB_1.size)
                  go_simp
                  refine hK.out _ _ ⟨keep_cell q0 hB_5 hlq, keep_cell q1 hB_5 hlq, keep_cell q2 hB_5 hlq, keep_cell q3 hB_5 hlq, keep_cell q4 hB_5 hlq, keep_cell q5 hB_5 hlq, keep_cell x0 hB_5 hlx, keep_cell x1 hB_5 hlx, keep_cell x2 hB_5 hlx, keep_cell x3 hB_5 hlx, keep_cell x4 hB_5 hlx, keep_cell x5 hB_5 hlx, keep_cell t0 hB_5 hlt, keep_cell t1 hB_5 hlt, keep_cell t2 hB_5 hlt, keep_cell t3 hB_5 hlt⟩ (fun hHeld => ?_)
                  clear hK K
                  (try simp only [Act.put, List.setIfInBounds_toArray, List.set_cons_zero, List.set_cons_succ])
                  generalize w_1.alloc (.cells #[.string ⟨#[]⟩, .slice none 0 0, .int .i64 0, .int .u32 0, .int .i64 0, .int .i64 0] 36) = w_5 at *
                  refine held_step (i := 7) rfl (by kernel_rfl) (fun K hK => ?_)
                  go_simp; go_at_call 18; refine (CM.out _ hB_5).mono ?_; rintro e w_6 ⟨ua, ud, rfl, hF_6, hO_6, hb_6⟩
                  have hB_6 := hB_5.trans (hb_6.mono hB_5.size)
                  have hTA_6 := there_later hT_5 hb_6 hL_5
                  have hLA_6 := Nat.lt_of_lt_of_le hL_5 hb_6.size
                  have hFar_6 : ∀ q, (Value.slice ua uL.length ud).ownBlock = some q → q ≠ w_1.heap.size := fun q hq => by have := hO_6 q hq; have := hL_5; omega
                  refine hK.out _ _ ⟨keep_cell q0 hB_6 hlq, keep_cell q1 hB_6 hlq, keep_cell q2 hB_6 hlq, keep_cell q3 hB_6 hlq, keep_cell q4 hB_6 hlq, keep_cell q5 hB_6 hlq, keep_cell x0 hB_6 hlx, keep_cell x1 hB_6 hlx, keep_cell x2 hB_6 hlx, keep_cell x3 hB_6 hlx, keep_cell x4 hB_6 hlx, keep_cell x5 hB_6 hlx, keep_cell t0 hB_6 hlt, keep_cell t1 hB_6 hlt, keep_cell t2 hB_6 hlt, keep_cell t3 hB_6 hlt⟩ (fun hHeld => ?_)
                  clear hK K
                  (try simp only [Act.put, List.setIfInBounds_toArray, List.set_cons_zero, List.set_cons_succ])
                  refine held_take (i := 8) (v := ?_) rfl rfl (by kernel_rfl) (by kernel_rfl) (by kernel_rfl) (fun _ _ _ h => h) (by rfl) hHeld ?_ ?_
                  rotate_left
                  · rintro wh ⟨z0, z1, z2, z3, z4, z5, z6, z7, z8, z9, z10, z11, z12, z13, z14, z15⟩
                    go_simp
                    (try with_reducible rfl)
                  simp only [Act.put, List.setIfInBounds_toArray, List.set_cons_zero, List.set_cons_succ]
                  refine held_take (i := 9) (v := ?_) rfl rfl (by kernel_rfl) (by kernel_rfl) (by kernel_rfl) (fun _ _ _ h => h) (by rfl) hHeld ?_ ?_
                  rotate_left
                  · rintro wh ⟨z0, z1, z2, z3, z4, z5, z6, z7, z8, z9, z10, z11, z12, z13, z14, z15⟩
                    go_simp
                    (try with_reducible rfl)
                  simp only [Act.put, List.setIfInBounds_toArray, List.set_cons_zero, List.set_cons_succ]
                  refine held_take (i := 10) (v := ?_) rfl rfl (by kernel_rfl) (by kernel_rfl) (by kernel_rfl) (fun _ _ _ h => h) (by rfl) hHeld ?_ ?_
                  rotate_left
                  · rintro wh ⟨z0, z1, z2, z3, z4, z5, z6, z7, z8, z9, z10, z11, z12, z13, z14, z15⟩
                    go_simp
                    (try with_reducible rfl)
                  simp only [Act.put, List.setIfInBounds_toArray, List.set_cons_zero, List.set_cons_succ]
                  have r0 := there_free hTA_6 0 (by decide)
                  have r1 := there_free hTA_6 1 (by decide)
                  have r2 := there_free hTA_6 2 (by decide)
                  have r3 := there_free hTA_6 3 (by decide)
                  have r4 := there_free hTA_6 4 (by decide)
                  have r5 := there_free hTA_6 5 (by decide)
                  obtain ⟨y0, hy0⟩ := there_cell hTA_6 0 (by decide)
                  obtain ⟨y1, hy1⟩ := there_cell hTA_6 1 (by decide)
                  obtain ⟨y2, hy2⟩ := there_cell hTA_6 2 (by decide)
                  obtain ⟨y3, hy3⟩ := there_cell hTA_6 3 (by decide)
                  obtain ⟨y4, hy4⟩ := there_cell hTA_6 4 (by decide)
                  obtain ⟨y5, hy5⟩ := there_cell hTA_6 5 (by decide)
                  have HB_7 : Hid (Below w15.heap.size w15 (w_6.setCells w_1.heap.size 0 [.string us, .slice ua uL.length ud, .int .i64 ql, .int .u32 qc, .int .i64 uf, .int .i64 ut])) := Lib.hid (below_puts (g := w_1.heap.size) (o := 0) hB_6 hG_5 [.string us, .slice ua uL.length ud, .int .i64 ql, .int .u32 qc, .int .i64 uf, .int .i64 ut])
                  have HZ_7 := Lib.hid (below_puts_base (g := w_1.heap.size) (o := 0) (Below.refl 0 w_6) (Nat.zero_le _) [.string us, .slice ua uL.length ud, .int .i64 ql, .int .u32 qc, .int .i64 uf, .int .i64 ut]).size
                  have HC_7 := Lib.hid (c6_puts w_6 w_1.heap.size (.string us) (.slice ua uL.length ud) (.int .i64 ql) (.int .u32 qc) (.int .i64 uf) (.int .i64 ut) hTA_6)
                  have HF_7 : Hid (FldsAt (w_6.setCells w_1.heap.size 0 [.string us, .slice ua uL.length ud, .int .i64 ql, .int .u32 qc, .int .i64 uf, .int .i64 ut]) (.slice ua uL.length ud) uL) := Lib.hid (rd_puts hF_6 hFar_6 [.string us, .slice ua uL.length ud, .int .i64 ql, .int .u32 qc, .int .i64 uf, .int .i64 ut])
                  refine held_step (i := 12) rfl (by kernel_rfl) (fun K hK => ?_)
                  go_simp
                  refine hK.out _ (w_6.setCells w_1.heap.size 0 [.string us, .slice ua uL.length ud, .int .i64 ql, .int .u32 qc, .int .i64 uf, .int .i64 ut]) ⟨keep_cell q0 HB_7.out hlq, keep_cell q1 HB_7.out hlq, keep_cell q2 HB_7.out hlq, keep_cell q3 HB_7.out hlq, keep_cell q4 HB_7.out hlq, keep_cell q5 HB_7.out hlq, keep_cell x0 HB_7.out hlx, keep_cell x1 HB_7.out hlx, keep_cell x2 HB_7.out hlx, keep_cell x3 HB_7.out hlx, keep_cell x4 HB_7.out hlx, keep_cell x5 HB_7.out hlx, keep_cell t0 HB_7.out hlt, keep_cell t1 HB_7.out hlt, keep_cell t2 HB_7.out hlt, keep_cell t3 HB_7.out hlt⟩ (fun hHeld => ?_)
                  clear hK K
                  (try simp only [Act.put, List.setIfInBounds_toArray, List.set_cons_zero, List.set_cons_succ])
                  generalize (w_6.setCells w_1.heap.size 0 [.string us, .slice ua uL.length ud, .int .i64 ql, .int .u32 qc, .int .i64 uf, .int .i64 ut]) = w_7 at *
                  refine held_take (i := 13) (v := ?_) rfl rfl (by kernel_rfl) (by kernel_rfl) (by kernel_rfl) (fun _ _ _ h => h) (by rfl) hHeld ?_ ?_
                  rotate_left
                  · rintro wh ⟨z0, z1, z2, z3, z4, z5, z6, z7, z8, z9, z10, z11, z12, z13, z14, z15⟩
                    go_simp
                    (try with_reducible rfl)
                  simp only [Act.put, List.setIfInBounds_toArray, List.set_cons_zero, List.set_cons_succ]
                  refine wpAnyH_done (by kernel_rfl) ?_ _
                  go_wp2
                  go_meet
                  exact ⟨w_1.heap.size, ua, ud, rfl, rfl, HC_7.out, HF_7.out, Nat.lt_of_lt_of_le hLA_6 HZ_7.out, HB_7.out⟩
              · have hb_8 := alloc_below wd (.cells #[.string ⟨#[]⟩, .slice none 0 0, .int .i64 0, .int .u32 0, .int .i64 0, .int .i64 0] 36)
                have hT_8 := box_there (Below.refl (wd.alloc (.cells #[.string ⟨#[]⟩, .slice none 0 0, .int .i64 0, .int .u32 0, .int .i64 0, .int .i64 0] 36)).heap.size (wd.alloc (.cells #[.string ⟨#[]⟩, .slice none 0 0, .int .i64 0, .int .u32 0, .int .i64 0, .int .i64 0] 36)))
                have hL_8 : wd.heap.size < (wd.alloc (.cells #[.string ⟨#[]⟩, .slice none 0 0, .int .i64 0, .int .u32 0, .int .i64 0, .int .i64 0] 36)).heap.size := by rw [World.size_alloc]; omega
                have hG_8 := hd.size
                have hB_8 := hd.trans (hb_8.mono hd.size)
                go_simp
                refine hK.out _ _ ⟨keep_cell q0 hB_8 hlq, keep_cell q1 hB_8 hlq, keep_cell q2 hB_8 hlq, keep_cell q3 hB_8 hlq, keep_cell q4 hB_8 hlq, keep_cell q5 hB_8 hlq, keep_cell x0 hB_8 hlx, keep_cell x1 hB_8 hlx, keep_cell x2 hB_8 hlx, keep_cell x3 hB_8 hlx, keep_cell x4 hB_8 hlx, keep_cell x5 hB_8 hlx, keep_cell t0 hB_8 hlt, keep_cell t1 hB_8 hlt, keep_cell t2 hB_8 hlt, keep_cell t3 hB_8 hlt⟩ (fun hHeld => ?_)
                clear hK K
                (try simp only [Act.put, List.setIfInBounds_toArray, List.set_cons_zero, List.set_cons_succ])
                generalize wd.alloc (.cells #[.string ⟨#[]⟩, .slice none 0 0, .int .i64 0, .int .u32 0, .int .i64 0, .int .i64 0] 36) = w_8 at *
                refine held_step (i := 6) rfl (by kernel_rfl) (fun K hK => ?_)
                go_simp; go_at_call 20; refine (KMT.out _).mono ?_; rintro e w_9 ⟨rfl, hb_9⟩
                have hB_9 := hB_8.trans (hb_9.mono hB_8.size)
                have hTA_9 := there_later hT_8 hb_9 hL_8
                have hLA_9 := Nat.lt_of_lt_of_le hL_8 hb_9.size
                refine hK.out _ _ ⟨keep_cell q0 hB_9 hlq, keep_cell q1 hB_9 hlq, keep_cell q2 hB_9 hlq, keep_cell q3 hB_9 hlq, keep_cell q4 hB_9 hlq, keep_cell q5 hB_9 hlq, keep_cell x0 hB_9 hlx, keep_cell x1 hB_9 hlx, keep_cell x2 hB_9 hlx, keep_cell x3 hB_9 hlx, keep_cell x4 hB_9 hlx, keep_cell x5 hB_9 hlx, keep_cell t0 hB_9 hlt, keep_cell t1 hB_9 hlt, keep_cell t2 hB_9 hlt, keep_cell t3 hB_9 hlt⟩ (fun hHeld => ?_)
                clear hK K
                (try simp only [Act.put, List.setIfInBounds_toArray, List.set_cons_zero, List.set_cons_succ])
                refine held_step (i := 7) rfl (by kernel_rfl) (fun K hK => ?_)
                go_simp; go_at_call 18; refine (CM.out _ hB_9).mono ?_; rintro e w_10 ⟨ua, ud, rfl, hF_10, hO_10, hb_10⟩
                have hB_10 := hB_9.trans (hb_10.mono hB_9.size)
                have hTA_10 := there_later hTA_9 hb_10 hLA_9
                have hLA_10 := Nat.lt_of_lt_of_le hLA_9 hb_10.size
                have hFar_10 : ∀ q, (Value.slice ua uL.length ud).ownBlock = some q → q ≠ wd.heap.size := fun q hq => by have := hO_10 q hq; have := hLA_9; omega
                refine hK.out _ _ ⟨keep_cell q0 hB_10 hlq, keep_cell q1 hB_10 hlq, keep_cell q2 hB_10 hlq, keep_cell q3 hB_10 hlq, keep_cell q4 hB_10 hlq, keep_cell q5 hB_10 hlq, keep_cell x0 hB_10 hlx, keep_cell x1 hB_10 hlx, keep_cell x2 hB_10 hlx, keep_cell x3 hB_10 hlx, keep_cell x4 hB_10 hlx, keep_cell x5 hB_10 hlx, keep_cell t0 hB_10 hlt, keep_cell t1 hB_10 hlt, keep_cell t2 hB_10 hlt, keep_cell t3 hB_10 hlt⟩ (fun hHeld => ?_)
                clear hK K
                (try simp only [Act.put, List.setIfInBounds_toArray, List.set_cons_zero, List.set_cons_succ])
                refine held_take (i := 8) (v := ?_) rfl rfl (by kernel_rfl) (by kernel_rfl) (by kernel_rfl) (fun _ _ _ h => h) (by rfl) hHeld ?_ ?_
                rotate_left
                · rintro wh ⟨z0, z1, z2, z3, z4, z5, z6, z7, z8, z9, z10, z11, z12, z13, z14, z15⟩
                  go_simp
                  (try with_reducible rfl)
                simp only [Act.put, List.setIfInBounds_toArray, List.set_cons_zero, List.set_cons_succ]
                refine held_take (i := 9) (v := ?_) rfl rfl (by kernel_rfl) (by kernel_rfl) (by kernel_rfl) (fun _ _ _ h => h) (by rfl) hHeld ?_ ?_
                rotate_left
                · rintro wh ⟨z0, z1, z2, z3, z4, z5, z6, z7, z8, z9, z10, z11, z12, z13, z14, z15⟩
                  go_simp
                  (try with_reducible rfl)
                simp only [Act.put, List.setIfInBounds_toArray, List.set_cons_zero, List.set_cons_succ]
                refine held_take (i := 10) (v := ?_) rfl rfl (by kernel_rfl) (by kernel_rfl) (by kernel_rfl) (fun _ _ _ h => h) (by rfl) hHeld ?_ ?_
                rotate_left
                · rintro wh ⟨z0, z1, z2, z3, z4, z5, z6, z7, z8, z9, z10, z11, z12, z13, z14, z15⟩
                  go_simp
                  (try with_reducible rfl)
                simp only [Act.put, List.setIfInBounds_toArray, List.set_cons_zero, List.set_cons_succ]
                have r0 := there_free hTA_10 0 (by decide)
                have r1 := there_free hTA_10 1 (by decide)
                have r2 := there_free hTA_10 2 (by decide)
                have r3 := there_free hTA_10 3 (by decide)
                have r4 := there_free hTA_10 4 (by decide)
                have r5 := there_free hTA_10 5 (by decide)
                obtain ⟨y0, hy0⟩ := there_cell hTA_10 0 (by decide)
                obtain ⟨y1, hy1⟩ := there_cell hTA_10 1 (by decide)
                obtain ⟨y2, hy2⟩ := there_cell hTA_10 2 (by decide)
                obtain ⟨y3, hy3⟩ := there_cell hTA_10 3 (by decide)
                obtain ⟨y4, hy4⟩ := there_cell hTA_10 4 (by decide)
                obtain ⟨y5, hy5⟩ := there_cell hTA_10 5 (by decide)
                have HB_11 : Hid (Below w15.heap.size w15 (w_10.setCells wd.heap.size 0 [.string us, .slice ua uL.length ud, .int .i64 ql, .int .u32 qc, .int .i64 uf, .int .i64 ut])) := Lib.hid (below_puts (g := wd.heap.size) (o := 0) hB_10 hG_8 [.string us, .slice ua uL.length ud, .int .i64 ql, .int .u32 qc, .int .i64 uf, .int .i64 ut])
                have HZ_11 := Lib.hid (below_puts_base (g := wd.heap.size) (o := 0) (Below.refl 0 w_10) (Nat.zero_le _) [.string us, .slice ua uL.length ud, .int .i64 ql, .int .u32 qc, .int .i64 uf, .int .i64 ut]).size
                have HC_11 := Lib.hid (c6_puts w_10 wd.heap.size (.string us) (.slice ua uL.length ud) (.int .i64 ql) (.int .u32 qc) (.int .i64 uf) (.int .i64 ut) hTA_10)
                have HF_11 : Hid (FldsAt (w_10.setCells wd.heap.size 0 [.string us, .slice ua uL.length ud, .int .i64 ql, .int .u32 qc, .int .i64 uf, .int .i64 ut]) (.slice ua uL.length ud) uL) := Lib.hid (rd_puts hF_10 hFar_10 [.string us, .slice ua uL.length ud, .int .i64 ql, .int .u32 qc, .int .i64 uf, .int .i64 ut])
                refine held_step (i := 12) rfl (by kernel_rfl) (fun K hK => ?_)
                go_simp
                refine hK.out _ (w_10.setCells wd.heap.size 0 [.string us, .slice ua uL.length ud, .int .i64 ql, .int .u32 qc, .int .i64 uf, .int .i64 ut]) ⟨keep_cell q0 HB_11.out hlq, keep_cell q1 HB_11.out hlq, keep_cell q2 HB_11.out hlq, keep_cell q3 HB_11.out hlq, keep_cell q4 HB_11.out hlq, keep_cell q5 HB_11.out hlq, keep_cell x0 HB_11.out hlx, keep_cell x1 HB_11.out hlx, keep_cell x2 HB_11.out hlx, keep_cell x3 HB_11.out hlx, keep_cell x4 HB_11.out hlx, keep_cell x5 HB_11.out hlx, keep_cell t0 HB_11.out hlt, keep_cell t1 HB_11.out hlt, keep_cell t2 HB_11.out hlt, keep_cell t3 HB_11.out hlt⟩ (fun hHeld => ?_)
                clear hK K
                (try simp only [Act.put, List.setIfInBounds_toArray, List.set_cons_zero, List.set_cons_succ])
                generalize (w_10.setCells wd.heap.size 0 [.string us, .slice ua uL.length ud, .int .i64 ql, .int .u32 qc, .int .i64 uf, .int .i64 ut]) = w_11 at *
                refine held_take (i := 13) (v := ?_) rfl rfl (by kernel_rfl) (by kernel_rfl) (by kernel_rfl) (fun _ _ _ h => h) (by rfl) hHeld ?_ ?_
                rotate_left
                · rintro wh ⟨z0, z1, z2, z3, z4, z5, z6, z7, z8, z9, z10, z11, z12, z13, z14, z15⟩
                  go_simp
                  (try with_reducible rfl)
                simp only [Act.put, List.setIfInBounds_toArray, List.set_cons_zero, List.set_cons_succ]
                refine wpAnyH_done (by kernel_rfl) ?_ _
                go_wp2
                go_meet
                exact ⟨wd.heap.size, ua, ud, rfl, rfl, HC_11.out, HF_11.out, Nat.lt_of_lt_of_le hLA_10 HZ_11.out, HB_11.out⟩
            case rest =>
              obtain ⟨gu, ua, ud, rfl, rfl, hU, hUF, hUl, hB⟩ := hcut
              replace HX := Lib.hid (HX.out.later hB)
              replace HBx := Lib.hid (HBx.out.later hB)
              replace HEx := Lib.hid (HEx.out.later hB)
              have HBW := Lib.hid (HS15.out.below.trans (hB.mono HS15.out.below.size))
              clear x0 x1 x2 x3 x4 x5 q0 q1 q2 q3 q4 q5 t0 t1 t2 t3 hlx hlt hlq CM C4 KMT hB HS15
              have HUF := Lib.hid hUF
              obtain ⟨u0, u1, u2, u3, u4, u5⟩ := hU
              obtain ⟨e0, e1, e2, e3, e4, e5⟩ := HEx.out.x
              obtain ⟨b0, b1, b2, b3, b4, b5⟩ := HBx.out.x
              obtain ⟨x0, x1, x2, x3, x4, x5⟩ := HX.out.x
              clear hUF
              go_upto_region 13 with fail
              obtain ⟨L1, L2, L3, L4⟩ := HLAW.out
              clear HLAW L1
              cases k1
              · obtain rfl : k4 = false := by rw [← L2]; rfl
                clear L2 L3 L4
                go_wp2
                go_ret
                exact ⟨rfl, HBW.out⟩
              · obtain ⟨rfl, rfl, rfl, rfl⟩ := L4 rfl
                clear L4
                have hfe : (decide (bf ≤ bf) && (decide (bt = 0) || decide (bf < bt))) = true := by
                  rw [decide_eq_true (Int.le_refl bf), Bool.true_and, Bool.or_eq_true, decide_eq_true_eq, decide_eq_true_eq]
                  exact HT0.out
                have KFI : Hid (∀ W, Calls Try.prog 22 #[.agg #[.string bs, .slice ba bL.length bd, .int .i64 bl, .int .u32 bc, .int .i64 bf, .int .i64 bt], .int .i64 bf] W fun e w' => e = .returned (.bool true) ∧ Below W.heap.size W w') := Lib.hid (fun W => hfe ▸ fires_any bs ba bL.length bd bl bc bf bt bf W)
                have hbl : (bl == bl) = true := by simp
                have hbc : ((bc : Int) == (bc : Int)) = true := by simp
                clear hfe
                cases k4
                · obtain rfl : k3 = false := by simpa using L2
                  clear L2 L3
                  go_wp2_with fail
                  refine (KFI.out _).mono ?_
                  rintro e w17 ⟨rfl, hb17⟩
                  have HB17 := Lib.hid (HBW.out.trans (hb17.mono HBW.out.size))
                  clear hb17 u0 u1 u2 u3 u4 u5 e0 e1 e2 e3 e4 e5 b0 b1 b2 b3 b4 b5 x0 x1 x2 x3 x4 x5
                  go_wp2
                  go_ret
                  exact ⟨rfl, HB17.out⟩
                · obtain rfl : k3 = true := by simpa using L2
                  have L5 := L3 rfl
                  simp only [Al.mk.injEq] at L5
                  obtain ⟨rfl, rfl, rfl, rfl, rfl, rfl⟩ := L5
                  clear L2 L3
                  have ks := asame_any es es eL eL (.slice ea eL.length ed) (.slice ua eL.length ud) el ec ef et el ec ef et wc HEx.out.f HUF.out (by have := HLL.out.2.2.1; have := HLL.out.1; have := hL8.out; unfold maxLen; omega) (by have := HLL.out.2.2.1; have := HLL.out.1; have := hL8.out; unfold maxLen; omega)
                  rw [same_selfS] at ks
                  go_wp2_with fail
                  refine ks.mono ?_
                  rintro e w16 ⟨rfl, hb16⟩
                  have HB16 := Lib.hid (HBW.out.trans (hb16.mono HBW.out.size))
                  obtain ⟨B0, B1, B2, B3, B4, B5⟩ := HBx.out.x.later hb16 HBx.out.lt
                  obtain ⟨X0, X1, X2, X3, X4, X5⟩ := HX.out.x.later hb16 HX.out.lt
                  clear hb16 u0 u1 u2 u3 u4 u5 e0 e1 e2 e3 e4 e5 b0 b1 b2 b3 b4 b5 x0 x1 x2 x3 x4 x5 ks
                  go_wp2_with fail
                  refine (KFI.out _).mono ?_
                  rintro e w17 ⟨rfl, hb17⟩
                  have HB17 := Lib.hid (HB16.out.trans (hb17.mono HB16.out.size))
                  clear hb17 B0 B1 B2 B3 B4 B5 X0 X1 X2 X3 X4 X5
                  go_wp2
                  go_ret
                  exact ⟨rfl, HB17.out⟩
    · have hne : (ck != 0) = true := by rw [bne_iff_ne]; exact hk0
      clear hk0
      go_wp2
      go_ret
      exact ⟨rfl, HS4.out.below⟩
theorem walk (v : Value) (x : PV) (p : PD) (u : Value) (y : Al) (fv : Value) (t : Value) (l : (Int × Nat) × (Int × Nat)) (w : World) (h1 : ArgPolD w v x p) (h2 : ArgAl w u y fv) (h3 : ArgLabs2 t l) : Calls Try.prog 4 #[v, u, t] w fun e w' => e = .returned (.bool true) ∧ Below w.heap.size w w' := by
  obtain ⟨rfl, p2, p3⟩ := h1
  obtain ⟨rfl, r2, r3⟩ := h2
  obtain ⟨rfl, s2, s3⟩ := h3
  exact walk0 x p y.src y.fl fv y.lv y.c y.fr y.til l.1.1 l.1.2 l.2.1 l.2.2 w p2 p3 r3.src r2 r3.fl r3.len r3.c s2 s3
end lawSees
end Go.Proofs.Ytipnhpfpppblhaa

/- AlertSees: the card: whatever the arguments, the law returns true and its arguments read as they did. No condition. -/
namespace Go.Proofs.Ytipnhpfpppblhaa.lawSees
open Go.ChangeShapes Go.WideShapes Go.ChangeAt Go.RowKit
open Go.ChangeMaps (open_string)
set_option maxRecDepth 100000 in
theorem contract (H : Type) (enc : TypeId × Value → H) (W : World) (base : Nat) (args : Array Value) (ds gs : List (DataW H)) (before : List MemPlace)
    (hval : ∀ (j : Nat) t v, Try.f4.params[j]? = some t → args[j]? = some v → Value.okWide Try.prog W .any base t v)
    (hW : DataW.Whole enc Try.prog Try.f4.params.toList Rows.alertSeesSpec.vars false W args.toList ds gs before) :
    Calls Try.prog 4 args W fun e W' => ∃ v, e = .returned v ∧ Rows.alertSeesSpec.post enc Try.prog Try.f4 false true false false W args v W' := by
  have hW' := hW
  obtain ⟨p, q, hA0, hV, rfl, hfz, hnd⟩ := hW
  have hA : DataW.TrodAll enc Try.prog W 0 (fun _ => true) true Try.f4.params.toList args.toList ds p := hA0
  rw [Try.params4] at hA hval
  obtain ⟨v0, vs0, d0, ds0, p0, q0, hargs, rfl, rfl, h0, r0⟩ := trodAll_cons hA
  obtain ⟨v1, vs1, d1, ds1, p1, q1, rfl, rfl, rfl, h1, r1⟩ := trodAll_cons r0
  obtain ⟨v2, vs2, d2, ds2, p2, q2, rfl, rfl, rfl, h2, r2⟩ := trodAll_cons r1
  obtain ⟨rfl, rfl, rfl⟩ := trodAll_nil r2
  obtain rfl : args = #[v0, v1, v2] := by cases args; simp_all
  obtain ⟨rfl, rfl⟩ := trodVars_none hV
  obtain ⟨x0, y0, hx0⟩ := polD_of_arg (hval 0 26 v0 rfl rfl) h0
  obtain ⟨x1, y1, hx1⟩ := al_of_arg (hval 1 38 v1 rfl rfl) h1
  obtain ⟨x2, hx2⟩ := labs2_of_arg (hval 2 50 v2 rfl rfl) h2
  clear hA0
  refine (walk v0 x0 y0 v1 x1 y1 v2 x2 W hx0 hx1 hx2).mono ?_
  rintro e W' ⟨rfl, hb⟩
  exact ⟨_, rfl, law_post laidOut Try.underlying4 rfl rfl (by kernel_rfl) hW' rfl rfl rfl hb⟩
theorem laid_met (os : Os) : laidMet Try.prog Rows.alertSeesRow.laid ((laidWorld os).forCall (fun _ _ => 0) ⟨#[], #[.agg #[.slice none 0 0, .slice none 0 0, .slice none 0 0, .slice none 0 0, .slice none 0 0, .slice none 0 0], .agg #[.string ⟨#[]⟩, .slice none 0 0, .int .i64 0, .int .u32 0, .int .i64 0, .int .i64 0], .agg #[.int .i64 0, .int .u32 0, .int .i64 0, .int .u32 0]], []⟩).memory :=
  ⟨[], rfl, List.nodup_nil, fun _ _ h => by cases h⟩
theorem reads (os : Os) {H : Type} (enc : TypeId × Value → H) : ∃ places, DataW.whole enc Try.prog ((laidWorld os).forCall (fun _ _ => 0) ⟨#[], #[.agg #[.slice none 0 0, .slice none 0 0, .slice none 0 0, .slice none 0 0, .slice none 0 0, .slice none 0 0], .agg #[.string ⟨#[]⟩, .slice none 0 0, .int .i64 0, .int .u32 0, .int .i64 0, .int .i64 0], .agg #[.int .i64 0, .int .u32 0, .int .i64 0, .int .u32 0]], []⟩).memory Try.f4.params.toList Rows.alertSeesSpec.vars false (#[.agg #[.slice none 0 0, .slice none 0 0, .slice none 0 0, .slice none 0 0, .slice none 0 0, .slice none 0 0], .agg #[.string ⟨#[]⟩, .slice none 0 0, .int .i64 0, .int .u32 0, .int .i64 0, .int .i64 0], .agg #[.int .i64 0, .int .u32 0, .int .i64 0, .int .u32 0]] : Array Value).toList 8 = some ([.agg [.nil, .nil, .nil, .nil, .nil, .nil], .agg [.lit (.string []), .nil, .agg [.lit (.int .i64 0), .lit (.int .u32 0)], .lit (.int .i64 0), .lit (.int .i64 0)], .agg [.agg [.lit (.int .i64 0), .lit (.int .u32 0)], .agg [.lit (.int .i64 0), .lit (.int .u32 0)]]], [], places) :=
  ⟨[], by kernel_rfl⟩
set_option maxRecDepth 100000 in
theorem lifted (os : Os) (started : os.Started) (H : Type) (enc : TypeId × Value → H) (F : Stop.Interp) :
    ReturnsInHanded {} Try.checked os 4 .any ((OpenSpec.ofChange Rows.alertSeesSpec).preRow enc Try.prog Try.f4 Rows.alertSeesRow.domain false Rows.alertSeesRow.laid) (((OpenSpec.ofChange Rows.alertSeesSpec).at F).post enc Try.prog Try.f4 false true false false) := by
  obtain ⟨places, hx⟩ := reads os enc
  refine returnsInHanded_of_row (C := Try.checked) (s := OpenSpec.ofChange Rows.alertSeesSpec) ownNone started (by kernel_rfl) Try.func4
    (witness_row_at (enc := enc) (C := Try.checked) false (laidWorld os) #[.agg #[.slice none 0 0, .slice none 0 0, .slice none 0 0, .slice none 0 0, .slice none 0 0, .slice none 0 0], .agg #[.string ⟨#[]⟩, .slice none 0 0, .int .i64 0, .int .u32 0, .int .i64 0, .int .i64 0], .agg #[.int .i64 0, .int .u32 0, .int .i64 0, .int .u32 0]] rfl (by kernel_rfl) (by kernel_rfl) (by kernel_rfl)
      (OpenSpec.preRow_of_cond 8 hx (by kernel_rfl) (fun k hk => by cases hk) (by kernel_rfl) (laid_met os))) ?_
  intro W base args ds gs before hval hW _ _ _ _ _ _
  exact contract H enc W base args ds gs before hval hW
theorem said : Rows.AlertSeesSaid :=
  OpenClaim.holds_of_cond 4 Try.f4 rfl rfl rfl rfl rfl rfl rfl ⟨rfl, rfl, rfl, rfl, rfl⟩ rfl rfl rfl rfl rfl (by kernel_rfl) Try.func4 (by kernel_rfl)
    (of_decide_eq_true (by kernel_rfl)) (by unfold Func.isWrapper; first | (rw [if_pos (by decide +kernel)]; kernel_rfl) | (rw [if_neg (by decide +kernel)]; exact ⟨rfl, rfl⟩))
    (fun os started H enc _ F => by rw [OpenClaim.pre_eq_preRow]; exact lifted os started H enc F)
end Go.Proofs.Ytipnhpfpppblhaa.lawSees

