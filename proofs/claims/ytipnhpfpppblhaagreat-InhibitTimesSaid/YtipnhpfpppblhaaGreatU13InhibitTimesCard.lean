/- InhibitTimes: the card: whatever the arguments, the law returns true and its arguments read as they did. No condition. -/
import Derived.Test.YtipnhpfpppblhaaGreatU13P5
import Derived.Test.YtipnhpfpppblhaaGreatFrame12

/- InhibitTimes: the walk. -/
namespace Go.Proofs.YtipnhpfpppblhaaGreat
open Go.RowKit Go.Maps

namespace lawTimes
set_option maxHeartbeats 6400000 in
set_option maxRecDepth 100000 in
theorem walk0 (x : PA) (p : PD) (l : List (Al × Value)) (v : Value) (now : Int) (w : World) (hp : PolAt w (x.pv p) p) (hc : PCap (x.pv p)) (hpf : PolFitD p) (ha : AlsAt w v l) (hl : l.length ≤ maxLen) :
  Calls Tryz.prog 7 #[(x.pv p).v, v, .int .i64 now] w fun e w' => e = .returned (.bool true) ∧ Below w.heap.size w w' := by
 have kl := lives_any
 have kc := fun W (h : Below w.heap.size w W) => rcutD_any x p W (hp.later h) hc
 have kfew := fun W (h : Below w.heap.size w W) => few13_any l v W (ha.later h) hl
 have hq := pol_cut hp
 have hqf := cutD_fit hpf
 have h14 : p.cut.ih.length ≤ 14 := by unfold PD.cut; exact List.length_take_le _ _
 generalize p.cut = q at *
 obtain ⟨a0, c0, a1, c1, a2, c2, a3, c3, a4, c4, a5, c5⟩ := x
 have KLF := Lib.hid (fun (L : List (Al × Value)) (u : Value) (tl : Int) (tc : Nat) (nw : Int) (W : World) (h : Below w.heap.size w W) (hL : AlsAt W u L) (hn : L.length ≤ 1000000) (h12 : ∀ y ∈ L, y.1.fl.length ≤ 12) => ileft_any _ q L u tl tc nw W (hq.later h) hqf hL hn h12)
 have KQT := Lib.hid (fun (L : List (Al × Value)) (u : Value) (k : Int) (tl : Int) (tc : Nat) (nw : Int) (W : World) (h : Below w.heap.size w W) (hL : AlsAt W u L) (hn : L.length ≤ maxLen) => iquiet_any _ q L u k tl tc nw W (hq.later h) hqf hL hn)
 have KBT := Lib.hid (fun (L : List (Al × Value)) (u : Value) (tl : Int) (tc : Nat) (nw : Int) (W : World) (h : Below w.heap.size w W) (hL : AlsAt W u L) (hn : L.length ≤ 1000000) (h12 : ∀ y ∈ L, y.1.fl.length ≤ 12) => ibits_any _ q L u tl tc nw W (hq.later h) hqf hL hn h12 h14)
 have KCH := Lib.hid (fun (W : World) (h : Below w.heap.size w W) => check8_any _ q W (hq.later h) hqf)
 have KCT : Hid (∀ (y m : Al) (ok : Bool) (fa : Option Addr) (fc : Nat) (tl : Int) (tc : Nat) (W : World), Below w.heap.size w W → FldsAt W (.slice fa y.fl.length fc) y.fl → y.fl.length ≤ 12 → cutOk q.ra y.fl (y.lv, y.c) (tl, tc) = ok → cutAl q.ra y (tl, tc) = m →
   Calls Tryz.prog 20 #[.agg #[.slice a0 q.so.length c0, .slice a1 q.re.length c1, .slice a2 q.pe.length c2, .slice a3 q.ra.length c3, .slice a4 q.ro.length c4, .slice a5 q.ih.length c5], .agg #[.string y.src, .slice fa y.fl.length fc, .int .i64 y.lv, .int .u32 y.c, .int .i64 y.fr, .int .i64 y.til], Lab tl tc] W fun e w' =>
    ∃ pa pc, e = .returned (.tuple #[.agg #[.string m.src, .slice pa m.fl.length pc, .int .i64 m.lv, .int .u32 m.c, .int .i64 m.fr, .int .i64 m.til], .bool ok]) ∧ FldsAt w' (.slice pa m.fl.length pc) m.fl ∧ (∀ q, (Value.slice pa m.fl.length pc).ownBlock = some q → W.heap.size ≤ q) ∧ Below W.heap.size W w') :=
  Lib.hid (fun y m ok fa fc tl tc W hW hF hx hok hm => cut_l (a0, q.so.length, c0) (a1, q.re.length, c1) (a2, q.pe.length, c2) (a4, q.ro.length, c4) (a5, q.ih.length, c5) q.ra (.slice a3 q.ra.length c3) y (.slice fa y.fl.length fc) (tl, tc) m ok W (hq.h3.later hW) hqf.h3.1 hF (by omega) hok hm)
 have HQP := Lib.hid hq
 have HQF := Lib.hid hqf
 dsimp only [PA.pv, PV.v] at *
 generalize p.so.length = n0 at *
 generalize p.re.length = n1 at *
 generalize p.pe.length = n2 at *
 generalize p.ra.length = n3 at *
 generalize p.ro.length = n4 at *
 generalize p.ih.length = n5 at *
 obtain ⟨m0, hm0⟩ : ∃ z, q.so.length = z := ⟨_, rfl⟩
 obtain ⟨m1, hm1⟩ : ∃ z, q.re.length = z := ⟨_, rfl⟩
 obtain ⟨m2, hm2⟩ : ∃ z, q.pe.length = z := ⟨_, rfl⟩
 obtain ⟨m3, hm3⟩ : ∃ z, q.ra.length = z := ⟨_, rfl⟩
 obtain ⟨m4, hm4⟩ : ∃ z, q.ro.length = z := ⟨_, rfl⟩
 obtain ⟨m5, hm5⟩ : ∃ z, q.ih.length = z := ⟨_, rfl⟩
 rw [hm0, hm1, hm2, hm3, hm4, hm5] at KLF KQT KBT KCH KCT kc HQP
 have HM5 := Lib.hid hm5
 have H14 := Lib.hid h14
 have KC := Lib.hid kc
 have KFEW := Lib.hid kfew
 have HA := Lib.hid ha
 clear kc kfew hp hc hpf ha hq hqf hl h14 hm0 hm1 hm2 hm3 hm4 hm5
 obtain ⟨W0, hW0⟩ : ∃ z, w.alloc (.cells #[.slice a0 n0 c0, .slice a1 n1 c1, .slice a2 n2 c2, .slice a3 n3 c3, .slice a4 n4 c4, .slice a5 n5 c5] 26) = z := ⟨_, rfl⟩
 have hb0 : Below w.heap.size w W0 := by rw [← hW0]; exact alloc_below _ _
 have hz : w.heap.size < W0.heap.size := by rw [← hW0]; simp
 have hT : W0.there w.heap.size 0 6 := hW0 ▸ box_there (Below.refl _ _)
 have hP : C6 w.heap.size (.slice a0 n0 c0) (.slice a1 n1 c1) (.slice a2 n2 c2) (.slice a3 n3 c3) (.slice a4 n4 c4) (.slice a5 n5 c5) W0 := hW0 ▸ alc6 w _ _ _ _ _ _ _
 have HP := Lib.hid hP
 have HT := Lib.hid hT
 have HB0 := Lib.hid hb0
 have HZ := Lib.hid hz
 have HW0 := Lib.hid hW0
 obtain ⟨va, vc, rfl, _, _⟩ := RdAt.shape HA.out.row
 clear hb0 hz hT hP hW0
 go_enter Tryz.func7, Tryz.ntmps7
 go_upto_region 1 with fail
 rw [HW0.out]
 clear HW0
 go_wp2_with fail
 refine (kl _).mono ?_
 rintro e w1 ⟨rfl, hb1⟩
 have HB1 := Lib.hid (HB0.out.trans (hb1.mono HB0.out.size))
 have HT1 := Lib.hid (there_later HT.out hb1 HZ.out)
 have HZ1 := Lib.hid (Nat.lt_of_lt_of_le HZ.out hb1.size)
 obtain ⟨p0, p1, p2, p3, p4, p5⟩ := HP.out.later hb1 HZ.out
 clear hb1 kl HB0 HP HT HZ
 go_wp2_with fail
 refine (KC.out _ HB1.out).mono ?_
 rintro e w2 ⟨rfl, hb2⟩
 have HB2 := Lib.hid (HB1.out.trans (hb2.mono HB1.out.size))
 have HT2 := Lib.hid (there_later HT1.out hb2 HZ1.out)
 have HZ2 := Lib.hid (Nat.lt_of_lt_of_le HZ1.out hb2.size)
 have P0 := keep_cell p0 hb2 HZ1.out
 have P1 := keep_cell p1 hb2 HZ1.out
 have P2 := keep_cell p2 hb2 HZ1.out
 have P3 := keep_cell p3 hb2 HZ1.out
 have P4 := keep_cell p4 hb2 HZ1.out
 have P5 := keep_cell p5 hb2 HZ1.out
 clear hb2 p0 p1 p2 p3 p4 p5 KC HB1 HT1 HZ1
 have f0 := there_free HT2.out 0 (by decide)
 have f1 := there_free HT2.out 1 (by decide)
 have f2 := there_free HT2.out 2 (by decide)
 have f3 := there_free HT2.out 3 (by decide)
 have f4 := there_free HT2.out 4 (by decide)
 have f5 := there_free HT2.out 5 (by decide)
 go_upto_region 4 with fail
 change Code.wp _ _ _ _ (w2.setCells w.heap.size 0 [.slice a0 m0 c0, .slice a1 m1 c1, .slice a2 m2 c2, .slice a3 m3 c3, .slice a4 m4 c4, .slice a5 m5 c5])
 have hP3 := c6_puts w2 w.heap.size (.slice a0 m0 c0) (.slice a1 m1 c1) (.slice a2 m2 c2) (.slice a3 m3 c3) (.slice a4 m4 c4) (.slice a5 m5 c5) HT2.out
 have hB3 := below_puts (g := w.heap.size) (o := 0) HB2.out (Nat.le_refl _) [.slice a0 m0 c0, .slice a1 m1 c1, .slice a2 m2 c2, .slice a3 m3 c3, .slice a4 m4 c4, .slice a5 m5 c5]
 have hZ3 := Nat.lt_of_lt_of_le HZ2.out (below_puts_base (g := w.heap.size) (o := 0) (Below.refl 0 w2) (Nat.zero_le _) [.slice a0 m0 c0, .slice a1 m1 c1, .slice a2 m2 c2, .slice a3 m3 c3, .slice a4 m4 c4, .slice a5 m5 c5]).size
 generalize w2.setCells w.heap.size 0 [.slice a0 m0 c0, .slice a1 m1 c1, .slice a2 m2 c2, .slice a3 m3 c3, .slice a4 m4 c4, .slice a5 m5 c5] = w3 at *
 clear f0 f1 f2 f3 f4 f5 P0 P1 P2 P3 P4 P5 HB2 HT2 HZ2
 have HP3 := Lib.hid hP3
 have HB3 := Lib.hid hB3
 have HZ3 := Lib.hid hZ3
 clear hP3 hB3 hZ3
 have kf := KFEW.out w3 HB3.out
 clear KFEW HA
 go_wp2_with fail
 refine kf.mono ?_
 rintro e w4 ⟨u1, u2, L, rfl, hb4, hO, hD, hmap⟩
 have h10 : L.length ≤ 10 := by
  have := congrArg List.length hmap
  rw [List.length_map, List.length_map, List.length_take] at this
  omega
 have H12 : Hid (∀ y ∈ L, y.1.fl.length ≤ 12) := Lib.hid (fun y hy => by
  have hm : y.1 ∈ (l.take 10).map (fun p => cutA p.1) := hmap ▸ List.mem_map_of_mem hy
  obtain ⟨z, _, hz⟩ := List.mem_map.1 hm
  rw [← hz]
  exact List.length_take_le _ _)
 obtain ⟨oa, oc, rfl, hoc, hor⟩ := RdAt.shape hO.row
 obtain ⟨da, dc, rfl, hdc, _⟩ := RdAt.shape hD.row
 have HB4 := Lib.hid (HB3.out.trans (hb4.mono HB3.out.size))
 have HP4 := Lib.hid (HP3.out.later hb4 HZ3.out)
 have HZ4 := Lib.hid (Nat.lt_of_lt_of_le HZ3.out hb4.size)
 have HO4 := Lib.hid hO
 have HD4 := Lib.hid hD
 clear kf hb4 hO hD hmap hor HB3 HP3 HZ3
 go_upto_region 6 with fail
 change Code.wp _ _ _ _ (w4.alloc (.cells #[.int .i64 4, .int .u32 3] 36))
 obtain ⟨s5, b5, c5'⟩ := alloc_facts w4 [.int .i64 4, .int .u32 3] 36 _ rfl
 generalize hw5 : w4.alloc (.cells [.int .i64 4, .int .u32 3].toArray 36) = w5 at *
 clear hw5
 have HB5 := Lib.hid (HB4.out.trans (b5.mono HB4.out.size))
 have HP5 := Lib.hid (HP4.out.later b5 HZ4.out)
 have HO5 := Lib.hid (HO4.out.later b5)
 have HD5 := Lib.hid (HD4.out.later b5)
 have HT5 := Lib.hid (And.intro (c5' 0 _ rfl) (c5' 1 _ rfl))
 have hgl : w4.heap.size < w5.heap.size := by omega
 have hgw : w.heap.size < w5.heap.size := by have := HZ4.out; omega
 generalize w4.heap.size = gl at *
 clear b5 c5' HB4 HP4 HO4 HD4 s5
 have hocm : l.length ≤ l.length := Nat.le_refl _
 have kl1 := KLF.out L _ 4 3 now w5 HB5.out HO5.out (by omega) H12.out
 have HMEM : Hid (∀ y ∈ leftL q L (4, 3) now, ∃ (j : Nat) (hj : j < L.length), y = (j : Int) ∧ toldA q.ra (4, 3) now L[j] = true ∧ quietK q L (j : Int) (4, 3) now = []) := Lib.hid (fun y hy => left_mem hy)
 have HFI : Hid ((leftL q (L.filter (fireF now)) (4, 3) now).length = (leftL q L (4, 3) now).length) := Lib.hid (left_fire q L (4, 3) now)
 have hll := left_len q L (4, 3) now
 generalize leftL q L (4, 3) now = A at *
 obtain ⟨q0, q1, q2, q3, q4, q5⟩ := HP5.out
 obtain ⟨t0, t1⟩ := HT5.out
 go_wp2_with fail
 refine kl1.mono ?_
 rintro e w6 ⟨r1, rfl, hI, hb6⟩
 obtain ⟨ya, yc, rfl, _, hry⟩ := RdAt.shape hI
 have HRY := Lib.hid hry
 have HB6 := Lib.hid (HB5.out.trans (hb6.mono HB5.out.size))
 have HP6 := Lib.hid (HP5.out.later hb6 hgw)
 have HT6 := Lib.hid (And.intro (keep_cell HT5.out.1 hb6 hgl) (keep_cell HT5.out.2 hb6 hgl))
 have HO6 := Lib.hid (HO5.out.later hb6)
 have hgl6 : gl < w6.heap.size := Nat.lt_of_lt_of_le hgl hb6.size
 have hgw6 : w.heap.size < w6.heap.size := Nat.lt_of_lt_of_le hgw hb6.size
 clear kl1 hb6 hI hry q0 q1 q2 q3 q4 q5 t0 t1 HB5 HP5 HT5 HO5 hgl hgw HD5
 obtain ⟨ob, oo, hoa⟩ : ∃ b o, L.length = 0 ∨ oa = some ⟨b, o, none⟩ := by
  obtain ⟨la', lc', hsh, _, hor⟩ := RdAt.shape HO6.out.row
  simp only [Value.slice.injEq] at hsh
  obtain ⟨rfl, _, _⟩ := hsh
  rcases Nat.eq_zero_or_pos L.length with h0 | h0
  ·exact ⟨0, 0, .inl h0⟩
  ·obtain ⟨b, o, hb, _, _⟩ := hor (by omega)
   exact ⟨b, o, .inr hb⟩
 have HOA := Lib.hid hoa
 clear hoa
 go_wp2
 go_loopw [11] (fun i wr => ∃ (n : Nat), i = .int .i64 n ∧ n ≤ A.length ∧ Hid (Below w6.heap.size w6 wr)) (fun i _ => A.length - (intOf i).toNat)
 case atStart => exact ⟨0, rfl, Nat.zero_le _, Lib.hid (Below.refl _ _)⟩
 case round =>
  obtain ⟨n, rfl, hn, HB⟩ := hrel
  by_cases hnl : n < A.length
  ·obtain ⟨j, hj, hAj, htold, hquiet⟩ := HMEM.out A[n] (List.getElem_mem hnl)
   obtain ⟨yb, yo, rfl, hyb, hyc⟩ := HRY.out (by omega)
   have y0 := keep_cell (hyc n _ (by rw [List.getElem?_map, List.getElem?_eq_getElem hnl, hAj]; rfl)) HB.out hyb
   have hBw := HB6.out.trans (HB.out.mono HB6.out.size)
   have hOw := HO6.out.later HB.out
   obtain ⟨la', lc', hsh, _, hor⟩ := RdAt.shape hOw.row
   obtain ⟨b, o, hb, hbl, hcell⟩ := hor (by omega)
   simp only [Value.slice.injEq] at hsh
   obtain ⟨hsh1, _, hsh3⟩ := hsh
   subst hsh1
   subst hsh3
   subst hb
   have hat := alCells_at L j hj
   have p0 := hcell _ _ (hat 0 _ rfl)
   have p1 := hcell _ _ (hat 1 _ rfl)
   have p2 := hcell _ _ (hat 2 _ rfl)
   have p3 := hcell _ _ (hat 3 _ rfl)
   have p4 := hcell _ _ (hat 4 _ rfl)
   have p5 := hcell _ _ (hat 5 _ rfl)
   rw [Nat.add_zero] at p0
   rw [← Nat.add_assoc] at p1 p2 p3 p4 p5
   have hmem := List.getElem_mem hj
   obtain ⟨hfk, hfit⟩ := hOw.fld _ hmem
   have hf12 := H12.out _ hmem
   have KQ := Lib.hid (fun W (h : Below wr.heap.size wr W) => KQT.out L _ (j : Int) 4 3 now W (hBw.trans (h.mono hBw.size)) (hOw.later h) (by unfold maxLen; omega))
   rw [hquiet] at KQ
   have htold' : (cutOk q.ra L[j].1.fl (L[j].1.lv, L[j].1.c) (4, 3) && rightA L[j].1 && firesA L[j].1 now) = true := htold
   simp only [Bool.and_eq_true] at htold'
   obtain ⟨⟨hcut, _⟩, hfire⟩ := htold'
   clear hAj htold hquiet hmem hat hcell hor hyc HFI
   generalize L[j] = y at *
   obtain ⟨⟨src, fl, alv, ac, fr, til⟩, fv⟩ := y
   dsimp only at *
   obtain ⟨fa, fc, rfl, hfc, _⟩ := RdAt.shape hfk
   obtain ⟨m, hm⟩ : ∃ m, cutAl q.ra ⟨src, fl, alv, ac, fr, til⟩ (4, 3) = m := ⟨_, rfl⟩
   have CM := Lib.hid (fun W (h : Below wr.heap.size wr W) => KCT.out ⟨src, fl, alv, ac, fr, til⟩ m true fa fc 4 3 W (hBw.trans (h.mono hBw.size)) (hfk.later h) hf12 hcut hm)
   obtain ⟨us, uL, ql, qc, uf, ut⟩ := m
   dsimp only at CM
   have KF := Lib.hid (fun V => fires_any src fa fl.length fc alv ac fr til now V)
   have hF : firesA ⟨src, fl, alv, ac, fr, til⟩ now = (decide (fr ≤ now) && (decide (til = 0) || decide (now < til))) := rfl
   rw [← hF, hfire] at KF
   obtain ⟨q0, q1, q2, q3, q4, q5⟩ := HP6.out.later HB.out hgw6
   have t0 := keep_cell HT6.out.1 HB.out hgl6
   have t1 := keep_cell HT6.out.2 HB.out hgl6
   have ltq : w.heap.size < wr.heap.size := Nat.lt_of_lt_of_le hgw6 HB.out.size
   have ltt : gl < wr.heap.size := Nat.lt_of_lt_of_le hgl6 HB.out.size
   have lty : yb < wr.heap.size := Nat.lt_of_lt_of_le hyb HB.out.size
   have ltb : b < wr.heap.size := hbl
   have hi0 : (0 : Int) ≤ (n : Int) := by omega
   have hi1 : (n : Int) < (A.length : Int) := by omega
   have hi2 : (0 : Int) ≤ (j : Int) := by omega
   have hi3 : (j : Int) < (L.length : Int) := by omega
   have HBW := Lib.hid hBw
   clear hm hF hfire hcut hfk hfit hOw hBw
   go_upto_region 10 with fail
   go_cut [12, 13] (fun s12 s13 wx => s13 = .bool true ∧ Below wr.heap.size wr wx)
   case first =>
    refine wp_region_held_drew (S := (fun W => W.cell? ⟨w.heap.size, 0, none⟩ = some (.slice a0 m0 c0) ∧ W.cell? ⟨w.heap.size, 1, none⟩ = some (.slice a1 m1 c1) ∧ W.cell? ⟨w.heap.size, 2, none⟩ = some (.slice a2 m2 c2) ∧ W.cell? ⟨w.heap.size, 3, none⟩ = some (.slice a3 m3 c3) ∧ W.cell? ⟨w.heap.size, 4, none⟩ = some (.slice a4 m4 c4) ∧ W.cell? ⟨w.heap.size, 5, none⟩ = some (.slice a5 m5 c5) ∧ W.cell? ⟨gl, 0, none⟩ = some (.int .i64 4) ∧ W.cell? ⟨gl, 1, none⟩ = some (.int .u32 3) ∧ W.cell? ⟨yb, yo + n, none⟩ = some (.int .i64 (j : Int)) ∧ W.cell? ⟨b, o + j * 6, none⟩ = some (.string src) ∧ W.cell? ⟨b, o + j * 6 + 1, none⟩ = some (.slice fa fl.length fc) ∧ W.cell? ⟨b, o + j * 6 + 2, none⟩ = some (.int .i64 alv) ∧ W.cell? ⟨b, o + j * 6 + 3, none⟩ = some (.int .u32 ac) ∧ W.cell? ⟨b, o + j * 6 + 4, none⟩ = some (.int .i64 fr) ∧ W.cell? ⟨b, o + j * 6 + 5, none⟩ = some (.int .i64 til))) (by kernel_rfl) ⟨q0, q1, q2, q3, q4, q5, t0, t1, y0, p0, p1, p2, p3, p4, p5⟩ (fun hHeld => ?_)
    have hd : Below wr.heap.size wr wr.drew := (Below.refl _ _).drew
    generalize wr.drew = wd at *
    refine hT (i := 0) (v := ?_) rfl rfl hHeld ?_ ?_
    rotate_left
    ·intro wh hz; iterate 14 obtain ⟨_, hz⟩ := hz
     go_simp
     (try with_reducible rfl)
    simp only [Act.put, List.setIfInBounds_toArray, List.set_cons_zero, List.set_cons_succ]
    refine hT (i := 1) (v := ?_) rfl rfl hHeld ?_ ?_
    rotate_left
    ·intro wh hz; iterate 14 obtain ⟨_, hz⟩ := hz
     go_simp
     (try with_reducible rfl)
    simp only [Act.put, List.setIfInBounds_toArray, List.set_cons_zero, List.set_cons_succ]
    refine hT (i := 2) (v := ?_) rfl rfl hHeld ?_ ?_
    rotate_left
    ·intro wh hz; iterate 14 obtain ⟨_, hz⟩ := hz
     go_simp
     (try with_reducible rfl)
    simp only [Act.put, List.setIfInBounds_toArray, List.set_cons_zero, List.set_cons_succ]
    refine hT (i := 3) (v := ?_) rfl rfl hHeld ?_ ?_
    rotate_left
    ·intro wh hz; iterate 14 obtain ⟨_, hz⟩ := hz
     go_simp
     (try with_reducible rfl)
    simp only [Act.put, List.setIfInBounds_toArray, List.set_cons_zero, List.set_cons_succ]
    refine hT (i := 4) (v := ?_) rfl rfl hHeld ?_ ?_
    rotate_left
    ·intro wh hz; iterate 14 obtain ⟨_, hz⟩ := hz
     go_simp
     (try with_reducible rfl)
    simp only [Act.put, List.setIfInBounds_toArray, List.set_cons_zero, List.set_cons_succ]
    refine hT (i := 5) (v := ?_) rfl rfl hHeld ?_ ?_
    rotate_left
    ·intro wh hz; iterate 14 obtain ⟨_, hz⟩ := hz
     go_simp
     (try with_reducible rfl)
    simp only [Act.put, List.setIfInBounds_toArray, List.set_cons_zero, List.set_cons_succ]
    refine hT (i := 6) (v := ?_) rfl rfl hHeld ?_ ?_
    rotate_left
    ·intro wh hz; iterate 14 obtain ⟨_, hz⟩ := hz
     go_simp
     (try with_reducible rfl)
    simp only [Act.put, List.setIfInBounds_toArray, List.set_cons_zero, List.set_cons_succ]
    refine hT (i := 7) (v := ?_) rfl rfl hHeld ?_ ?_
    rotate_left
    ·intro wh hz; iterate 14 obtain ⟨_, hz⟩ := hz
     go_simp
     (try with_reducible rfl)
    simp only [Act.put, List.setIfInBounds_toArray, List.set_cons_zero, List.set_cons_succ]
    refine hT (i := 8) (v := ?_) rfl rfl hHeld ?_ ?_
    rotate_left
    ·intro wh hz; iterate 14 obtain ⟨_, hz⟩ := hz
     go_simp
     (try with_reducible rfl)
    simp only [Act.put, List.setIfInBounds_toArray, List.set_cons_zero, List.set_cons_succ]
    refine held_two (i := 9) (j := 13) rfl rfl (by kernel_rfl) (fun K hK => ?_) (fun K hK => ?_)
    ·go_simp; go_at_call 20; refine (CM.out _ hd).mono ?_; rintro e w_1 ⟨ua, ud, rfl, hF_1, hO_1, hb_1⟩
     have hB_1 := hd.trans (hb_1.mono hd.size)
     refine hK.out _ _ ⟨keep_cell q0 hB_1 ltq, keep_cell q1 hB_1 ltq, keep_cell q2 hB_1 ltq, keep_cell q3 hB_1 ltq, keep_cell q4 hB_1 ltq, keep_cell q5 hB_1 ltq, keep_cell t0 hB_1 ltt, keep_cell t1 hB_1 ltt, keep_cell y0 hB_1 lty, keep_cell p0 hB_1 ltb, keep_cell p1 hB_1 ltb, keep_cell p2 hB_1 ltb, keep_cell p3 hB_1 ltb, keep_cell p4 hB_1 ltb, keep_cell p5 hB_1 ltb⟩ (fun hHeld => ?_)
     clear hK K
     (try simp only [Act.put, List.setIfInBounds_toArray, List.set_cons_zero, List.set_cons_succ])
     refine hT (i := 10) (v := ?_) rfl rfl hHeld ?_ ?_
     rotate_left
     ·intro wh hz; iterate 14 obtain ⟨_, hz⟩ := hz
      go_simp
      (try with_reducible rfl)
     simp only [Act.put, List.setIfInBounds_toArray, List.set_cons_zero, List.set_cons_succ]
     refine hT (i := 11) (v := ?_) rfl rfl hHeld ?_ ?_
     rotate_left
     ·intro wh hz; iterate 14 obtain ⟨_, hz⟩ := hz
      go_simp
      (try with_reducible rfl)
     simp only [Act.put, List.setIfInBounds_toArray, List.set_cons_zero, List.set_cons_succ]
     refine hT (i := 12) (v := ?_) rfl rfl hHeld ?_ ?_
     rotate_left
     ·intro wh hz; iterate 14 obtain ⟨_, hz⟩ := hz
      go_simp
      (try with_reducible rfl)
     simp only [Act.put, List.setIfInBounds_toArray, List.set_cons_zero, List.set_cons_succ]
     refine held_step (i := 13) rfl (by kernel_rfl) (fun K hK => ?_)
     have hb_2 := alloc_below w_1 (.cells #[.string ⟨#[]⟩, .slice none 0 0, .int .i64 0, .int .u32 0, .int .i64 0, .int .i64 0] 54)
     have hT_2 := box_there (Below.refl (w_1.alloc (.cells #[.string ⟨#[]⟩, .slice none 0 0, .int .i64 0, .int .u32 0, .int .i64 0, .int .i64 0] 54)).heap.size (w_1.alloc (.cells #[.string ⟨#[]⟩, .slice none 0 0, .int .i64 0, .int .u32 0, .int .i64 0, .int .i64 0] 54)))
     have hL_2 : w_1.heap.size < (w_1.alloc (.cells #[.string ⟨#[]⟩, .slice none 0 0, .int .i64 0, .int .u32 0, .int .i64 0, .int .i64 0] 54)).heap.size := by rw [World.size_alloc]; omega
     have hG_2 := hB_1.size
     have hB_2 := hB_1.trans (hb_2.mono hB_1.size)
     go_simp
     refine hK.out _ _ ⟨keep_cell q0 hB_2 ltq, keep_cell q1 hB_2 ltq, keep_cell q2 hB_2 ltq, keep_cell q3 hB_2 ltq, keep_cell q4 hB_2 ltq, keep_cell q5 hB_2 ltq, keep_cell t0 hB_2 ltt, keep_cell t1 hB_2 ltt, keep_cell y0 hB_2 lty, keep_cell p0 hB_2 ltb, keep_cell p1 hB_2 ltb, keep_cell p2 hB_2 ltb, keep_cell p3 hB_2 ltb, keep_cell p4 hB_2 ltb, keep_cell p5 hB_2 ltb⟩ (fun hHeld => ?_)
     clear hK K
     (try simp only [Act.put, List.setIfInBounds_toArray, List.set_cons_zero, List.set_cons_succ])
     generalize w_1.alloc (.cells #[.string ⟨#[]⟩, .slice none 0 0, .int .i64 0, .int .u32 0, .int .i64 0, .int .i64 0] 54) = w_2 at *
     have rv_0 := there_free hT_2 0 (by decide)
     have rv_1 := there_free hT_2 1 (by decide)
     have rv_2 := there_free hT_2 2 (by decide)
     have rv_3 := there_free hT_2 3 (by decide)
     have rv_4 := there_free hT_2 4 (by decide)
     have rv_5 := there_free hT_2 5 (by decide)
     obtain ⟨yv_0, hyv_0⟩ := there_cell hT_2 0 (by decide)
     obtain ⟨yv_1, hyv_1⟩ := there_cell hT_2 1 (by decide)
     obtain ⟨yv_2, hyv_2⟩ := there_cell hT_2 2 (by decide)
     obtain ⟨yv_3, hyv_3⟩ := there_cell hT_2 3 (by decide)
     obtain ⟨yv_4, hyv_4⟩ := there_cell hT_2 4 (by decide)
     obtain ⟨yv_5, hyv_5⟩ := there_cell hT_2 5 (by decide)
     have HB_3 : Hid (Below wr.heap.size wr (w_2.setCells w_1.heap.size 0 [.string us, .slice ua uL.length ud, .int .i64 ql, .int .u32 qc, .int .i64 uf, .int .i64 ut])) := Lib.hid (below_puts (g := w_1.heap.size) (o := 0) hB_2 hG_2 [.string us, .slice ua uL.length ud, .int .i64 ql, .int .u32 qc, .int .i64 uf, .int .i64 ut])
     refine held_step (i := 14) rfl (by kernel_rfl) (fun K hK => ?_)
     go_simp
     refine hK.out _ (w_2.setCells w_1.heap.size 0 [.string us, .slice ua uL.length ud, .int .i64 ql, .int .u32 qc, .int .i64 uf, .int .i64 ut]) ⟨keep_cell q0 HB_3.out ltq, keep_cell q1 HB_3.out ltq, keep_cell q2 HB_3.out ltq, keep_cell q3 HB_3.out ltq, keep_cell q4 HB_3.out ltq, keep_cell q5 HB_3.out ltq, keep_cell t0 HB_3.out ltt, keep_cell t1 HB_3.out ltt, keep_cell y0 HB_3.out lty, keep_cell p0 HB_3.out ltb, keep_cell p1 HB_3.out ltb, keep_cell p2 HB_3.out ltb, keep_cell p3 HB_3.out ltb, keep_cell p4 HB_3.out ltb, keep_cell p5 HB_3.out ltb⟩ (fun hHeld => ?_)
     clear hK K
     (try simp only [Act.put, List.setIfInBounds_toArray, List.set_cons_zero, List.set_cons_succ])
     generalize (w_2.setCells w_1.heap.size 0 [.string us, .slice ua uL.length ud, .int .i64 ql, .int .u32 qc, .int .i64 uf, .int .i64 ut]) = w_3 at *
     refine hT (i := 15) (v := ?_) rfl rfl hHeld ?_ ?_
     rotate_left
     ·intro wh hz; iterate 14 obtain ⟨_, hz⟩ := hz
      go_simp
      (try with_reducible rfl)
     simp only [Act.put, List.setIfInBounds_toArray, List.set_cons_zero, List.set_cons_succ]
     refine wpAnyH_done (by kernel_rfl) ?_ _
     go_wp2
     go_meet
     exact ⟨rfl, HB_3.out⟩
    ·have hb_4 := alloc_below wd (.cells #[.string ⟨#[]⟩, .slice none 0 0, .int .i64 0, .int .u32 0, .int .i64 0, .int .i64 0] 54)
     have hT_4 := box_there (Below.refl (wd.alloc (.cells #[.string ⟨#[]⟩, .slice none 0 0, .int .i64 0, .int .u32 0, .int .i64 0, .int .i64 0] 54)).heap.size (wd.alloc (.cells #[.string ⟨#[]⟩, .slice none 0 0, .int .i64 0, .int .u32 0, .int .i64 0, .int .i64 0] 54)))
     have hL_4 : wd.heap.size < (wd.alloc (.cells #[.string ⟨#[]⟩, .slice none 0 0, .int .i64 0, .int .u32 0, .int .i64 0, .int .i64 0] 54)).heap.size := by rw [World.size_alloc]; omega
     have hG_4 := hd.size
     have hB_4 := hd.trans (hb_4.mono hd.size)
     go_simp
     refine hK.out _ _ ⟨keep_cell q0 hB_4 ltq, keep_cell q1 hB_4 ltq, keep_cell q2 hB_4 ltq, keep_cell q3 hB_4 ltq, keep_cell q4 hB_4 ltq, keep_cell q5 hB_4 ltq, keep_cell t0 hB_4 ltt, keep_cell t1 hB_4 ltt, keep_cell y0 hB_4 lty, keep_cell p0 hB_4 ltb, keep_cell p1 hB_4 ltb, keep_cell p2 hB_4 ltb, keep_cell p3 hB_4 ltb, keep_cell p4 hB_4 ltb, keep_cell p5 hB_4 ltb⟩ (fun hHeld => ?_)
     clear hK K
     (try simp only [Act.put, List.setIfInBounds_toArray, List.set_cons_zero, List.set_cons_succ])
     generalize wd.alloc (.cells #[.string ⟨#[]⟩, .slice none 0 0, .int .i64 0, .int .u32 0, .int .i64 0, .int .i64 0] 54) = w_4 at *
     refine held_step (i := 9) rfl (by kernel_rfl) (fun K hK => ?_)
     go_simp; go_at_call 20; refine (CM.out _ hB_4).mono ?_; rintro e w_5 ⟨ua, ud, rfl, hF_5, hO_5, hb_5⟩
     have hB_5 := hB_4.trans (hb_5.mono hB_4.size)
     have hTA_5 := there_later hT_4 hb_5 hL_4
     have hLA_5 := Nat.lt_of_lt_of_le hL_4 hb_5.size
     refine hK.out _ _ ⟨keep_cell q0 hB_5 ltq, keep_cell q1 hB_5 ltq, keep_cell q2 hB_5 ltq, keep_cell q3 hB_5 ltq, keep_cell q4 hB_5 ltq, keep_cell q5 hB_5 ltq, keep_cell t0 hB_5 ltt, keep_cell t1 hB_5 ltt, keep_cell y0 hB_5 lty, keep_cell p0 hB_5 ltb, keep_cell p1 hB_5 ltb, keep_cell p2 hB_5 ltb, keep_cell p3 hB_5 ltb, keep_cell p4 hB_5 ltb, keep_cell p5 hB_5 ltb⟩ (fun hHeld => ?_)
     clear hK K
     (try simp only [Act.put, List.setIfInBounds_toArray, List.set_cons_zero, List.set_cons_succ])
     refine hT (i := 10) (v := ?_) rfl rfl hHeld ?_ ?_
     rotate_left
     ·intro wh hz; iterate 14 obtain ⟨_, hz⟩ := hz
      go_simp
      (try with_reducible rfl)
     simp only [Act.put, List.setIfInBounds_toArray, List.set_cons_zero, List.set_cons_succ]
     refine hT (i := 11) (v := ?_) rfl rfl hHeld ?_ ?_
     rotate_left
     ·intro wh hz; iterate 14 obtain ⟨_, hz⟩ := hz
      go_simp
      (try with_reducible rfl)
     simp only [Act.put, List.setIfInBounds_toArray, List.set_cons_zero, List.set_cons_succ]
     refine hT (i := 12) (v := ?_) rfl rfl hHeld ?_ ?_
     rotate_left
     ·intro wh hz; iterate 14 obtain ⟨_, hz⟩ := hz
      go_simp
      (try with_reducible rfl)
     simp only [Act.put, List.setIfInBounds_toArray, List.set_cons_zero, List.set_cons_succ]
     have rv_0 := there_free hTA_5 0 (by decide)
     have rv_1 := there_free hTA_5 1 (by decide)
     have rv_2 := there_free hTA_5 2 (by decide)
     have rv_3 := there_free hTA_5 3 (by decide)
     have rv_4 := there_free hTA_5 4 (by decide)
     have rv_5 := there_free hTA_5 5 (by decide)
     obtain ⟨yv_0, hyv_0⟩ := there_cell hTA_5 0 (by decide)
     obtain ⟨yv_1, hyv_1⟩ := there_cell hTA_5 1 (by decide)
     obtain ⟨yv_2, hyv_2⟩ := there_cell hTA_5 2 (by decide)
     obtain ⟨yv_3, hyv_3⟩ := there_cell hTA_5 3 (by decide)
     obtain ⟨yv_4, hyv_4⟩ := there_cell hTA_5 4 (by decide)
     obtain ⟨yv_5, hyv_5⟩ := there_cell hTA_5 5 (by decide)
     have HB_6 : Hid (Below wr.heap.size wr (w_5.setCells wd.heap.size 0 [.string us, .slice ua uL.length ud, .int .i64 ql, .int .u32 qc, .int .i64 uf, .int .i64 ut])) := Lib.hid (below_puts (g := wd.heap.size) (o := 0) hB_5 hG_4 [.string us, .slice ua uL.length ud, .int .i64 ql, .int .u32 qc, .int .i64 uf, .int .i64 ut])
     refine held_step (i := 14) rfl (by kernel_rfl) (fun K hK => ?_)
     go_simp
     refine hK.out _ (w_5.setCells wd.heap.size 0 [.string us, .slice ua uL.length ud, .int .i64 ql, .int .u32 qc, .int .i64 uf, .int .i64 ut]) ⟨keep_cell q0 HB_6.out ltq, keep_cell q1 HB_6.out ltq, keep_cell q2 HB_6.out ltq, keep_cell q3 HB_6.out ltq, keep_cell q4 HB_6.out ltq, keep_cell q5 HB_6.out ltq, keep_cell t0 HB_6.out ltt, keep_cell t1 HB_6.out ltt, keep_cell y0 HB_6.out lty, keep_cell p0 HB_6.out ltb, keep_cell p1 HB_6.out ltb, keep_cell p2 HB_6.out ltb, keep_cell p3 HB_6.out ltb, keep_cell p4 HB_6.out ltb, keep_cell p5 HB_6.out ltb⟩ (fun hHeld => ?_)
     clear hK K
     (try simp only [Act.put, List.setIfInBounds_toArray, List.set_cons_zero, List.set_cons_succ])
     generalize (w_5.setCells wd.heap.size 0 [.string us, .slice ua uL.length ud, .int .i64 ql, .int .u32 qc, .int .i64 uf, .int .i64 ut]) = w_6 at *
     refine hT (i := 15) (v := ?_) rfl rfl hHeld ?_ ?_
     rotate_left
     ·intro wh hz; iterate 14 obtain ⟨_, hz⟩ := hz
      go_simp
      (try with_reducible rfl)
     simp only [Act.put, List.setIfInBounds_toArray, List.set_cons_zero, List.set_cons_succ]
     refine wpAnyH_done (by kernel_rfl) ?_ _
     go_wp2
     go_meet
     exact ⟨rfl, HB_6.out⟩
   case rest =>
    obtain ⟨rfl, hbu⟩ := hcut
    have p0 := keep_cell p0 hbu ltb
    have p1 := keep_cell p1 hbu ltb
    have p2 := keep_cell p2 hbu ltb
    have p3 := keep_cell p3 hbu ltb
    have p4 := keep_cell p4 hbu ltb
    have p5 := keep_cell p5 hbu ltb
    have q0 := keep_cell q0 hbu ltq
    have q1 := keep_cell q1 hbu ltq
    have q2 := keep_cell q2 hbu ltq
    have q3 := keep_cell q3 hbu ltq
    have q4 := keep_cell q4 hbu ltq
    have q5 := keep_cell q5 hbu ltq
    have t0 := keep_cell t0 hbu ltt
    have t1 := keep_cell t1 hbu ltt
    have y0 := keep_cell y0 hbu lty
    have ltqc := Nat.lt_of_lt_of_le ltq hbu.size
    have lttc := Nat.lt_of_lt_of_le ltt hbu.size
    have ltyc := Nat.lt_of_lt_of_le lty hbu.size
    have ltbc := Nat.lt_of_lt_of_le ltb hbu.size
    have KQ2 := Lib.hid (fun W (h : Below wc.heap.size wc W) => KQ.out W (hbu.trans (h.mono hbu.size)))
    have HBU := Lib.hid (HB.out.trans (hbu.mono HB.out.size))
    clear CM KQ hbu HBW HB ltq ltt lty ltb
    go_upto_region 11 with fail
    refine wp_region_held_drew (S := (fun W => W.cell? ⟨w.heap.size, 0, none⟩ = some (.slice a0 m0 c0) ∧ W.cell? ⟨w.heap.size, 1, none⟩ = some (.slice a1 m1 c1) ∧ W.cell? ⟨w.heap.size, 2, none⟩ = some (.slice a2 m2 c2) ∧ W.cell? ⟨w.heap.size, 3, none⟩ = some (.slice a3 m3 c3) ∧ W.cell? ⟨w.heap.size, 4, none⟩ = some (.slice a4 m4 c4) ∧ W.cell? ⟨w.heap.size, 5, none⟩ = some (.slice a5 m5 c5) ∧ W.cell? ⟨gl, 0, none⟩ = some (.int .i64 4) ∧ W.cell? ⟨gl, 1, none⟩ = some (.int .u32 3) ∧ W.cell? ⟨yb, yo + n, none⟩ = some (.int .i64 (j : Int)) ∧ W.cell? ⟨b, o + j * 6, none⟩ = some (.string src) ∧ W.cell? ⟨b, o + j * 6 + 1, none⟩ = some (.slice fa fl.length fc) ∧ W.cell? ⟨b, o + j * 6 + 2, none⟩ = some (.int .i64 alv) ∧ W.cell? ⟨b, o + j * 6 + 3, none⟩ = some (.int .u32 ac) ∧ W.cell? ⟨b, o + j * 6 + 4, none⟩ = some (.int .i64 fr) ∧ W.cell? ⟨b, o + j * 6 + 5, none⟩ = some (.int .i64 til))) (by kernel_rfl) ⟨q0, q1, q2, q3, q4, q5, t0, t1, y0, p0, p1, p2, p3, p4, p5⟩ (fun hHeld => ?_)
    have hd : Below wc.heap.size wc wc.drew := (Below.refl _ _).drew
    refine hT (i := 0) (v := ?_) rfl rfl hHeld ?_ ?_
    rotate_left
    ·intro wh hz; iterate 14 obtain ⟨_, hz⟩ := hz
     go_simp
     (try with_reducible rfl)
    simp only [Act.put, List.setIfInBounds_toArray, List.set_cons_zero, List.set_cons_succ]
    refine hT (i := 1) (v := ?_) rfl rfl hHeld ?_ ?_
    rotate_left
    ·intro wh hz; iterate 14 obtain ⟨_, hz⟩ := hz
     go_simp
     (try with_reducible rfl)
    simp only [Act.put, List.setIfInBounds_toArray, List.set_cons_zero, List.set_cons_succ]
    refine hT (i := 2) (v := ?_) rfl rfl hHeld ?_ ?_
    rotate_left
    ·intro wh hz; iterate 14 obtain ⟨_, hz⟩ := hz
     go_simp
     (try with_reducible rfl)
    simp only [Act.put, List.setIfInBounds_toArray, List.set_cons_zero, List.set_cons_succ]
    refine hT (i := 3) (v := ?_) rfl rfl hHeld ?_ ?_
    rotate_left
    ·intro wh hz; iterate 14 obtain ⟨_, hz⟩ := hz
     go_simp
     (try with_reducible rfl)
    simp only [Act.put, List.setIfInBounds_toArray, List.set_cons_zero, List.set_cons_succ]
    refine hT (i := 4) (v := ?_) rfl rfl hHeld ?_ ?_
    rotate_left
    ·intro wh hz; iterate 14 obtain ⟨_, hz⟩ := hz
     go_simp
     (try with_reducible rfl)
    simp only [Act.put, List.setIfInBounds_toArray, List.set_cons_zero, List.set_cons_succ]
    refine hT (i := 5) (v := ?_) rfl rfl hHeld ?_ ?_
    rotate_left
    ·intro wh hz; iterate 14 obtain ⟨_, hz⟩ := hz
     go_simp
     (try with_reducible rfl)
    simp only [Act.put, List.setIfInBounds_toArray, List.set_cons_zero, List.set_cons_succ]
    refine hT (i := 6) (v := ?_) rfl rfl hHeld ?_ ?_
    rotate_left
    ·intro wh hz; iterate 14 obtain ⟨_, hz⟩ := hz
     go_simp
     (try with_reducible rfl)
    simp only [Act.put, List.setIfInBounds_toArray, List.set_cons_zero, List.set_cons_succ]
    refine hT (i := 7) (v := ?_) rfl rfl hHeld ?_ ?_
    rotate_left
    ·intro wh hz; iterate 14 obtain ⟨_, hz⟩ := hz
     go_simp
     (try with_reducible rfl)
    simp only [Act.put, List.setIfInBounds_toArray, List.set_cons_zero, List.set_cons_succ]
    refine hT (i := 8) (v := ?_) rfl rfl hHeld ?_ ?_
    rotate_left
    ·intro wh hz; iterate 14 obtain ⟨_, hz⟩ := hz
     go_simp
     (try with_reducible rfl)
    simp only [Act.put, List.setIfInBounds_toArray, List.set_cons_zero, List.set_cons_succ]
    refine hT (i := 9) (v := ?_) rfl rfl hHeld ?_ ?_
    rotate_left
    ·intro wh hz; iterate 14 obtain ⟨_, hz⟩ := hz
     go_simp
     (try with_reducible rfl)
    simp only [Act.put, List.setIfInBounds_toArray, List.set_cons_zero, List.set_cons_succ]
    refine hT (i := 10) (v := ?_) rfl rfl hHeld ?_ ?_
    rotate_left
    ·intro wh hz; iterate 14 obtain ⟨_, hz⟩ := hz
     go_simp
     (try with_reducible rfl)
    simp only [Act.put, List.setIfInBounds_toArray, List.set_cons_zero, List.set_cons_succ]
    refine held_call (i := 11) rfl (by kernel_rfl) (by rfl) (fun K hK => ?_)
    (go_simp; go_at_call 22; refine (KF.out _).mono ?_; rintro e w8 ⟨rfl, hb8⟩; have hB8 := hd.trans (hb8.mono hd.size))
    refine hK.out _ _ ⟨keep_cell q0 hB8 ltqc, keep_cell q1 hB8 ltqc, keep_cell q2 hB8 ltqc, keep_cell q3 hB8 ltqc, keep_cell q4 hB8 ltqc, keep_cell q5 hB8 ltqc, keep_cell t0 hB8 lttc, keep_cell t1 hB8 lttc, keep_cell y0 hB8 ltyc, keep_cell p0 hB8 ltbc, keep_cell p1 hB8 ltbc, keep_cell p2 hB8 ltbc, keep_cell p3 hB8 ltbc, keep_cell p4 hB8 ltbc, keep_cell p5 hB8 ltbc⟩ (fun hHeld => ?_)
    clear hK K
    (try simp only [Act.put, List.setIfInBounds_toArray, List.set_cons_zero, List.set_cons_succ])
    refine hT (i := 12) (v := ?_) rfl rfl hHeld ?_ ?_
    rotate_left
    ·intro wh hz; iterate 14 obtain ⟨_, hz⟩ := hz
     go_simp
     (try with_reducible rfl)
    simp only [Act.put, List.setIfInBounds_toArray, List.set_cons_zero, List.set_cons_succ]
    refine hT (i := 13) (v := ?_) rfl rfl hHeld ?_ ?_
    rotate_left
    ·intro wh hz; iterate 14 obtain ⟨_, hz⟩ := hz
     go_simp
     (try with_reducible rfl)
    simp only [Act.put, List.setIfInBounds_toArray, List.set_cons_zero, List.set_cons_succ]
    refine hT (i := 14) (v := ?_) rfl rfl hHeld ?_ ?_
    rotate_left
    ·intro wh hz; iterate 14 obtain ⟨_, hz⟩ := hz
     go_simp
     (try with_reducible rfl)
    simp only [Act.put, List.setIfInBounds_toArray, List.set_cons_zero, List.set_cons_succ]
    refine hT (i := 15) (v := ?_) rfl rfl hHeld ?_ ?_
    rotate_left
    ·intro wh hz; iterate 14 obtain ⟨_, hz⟩ := hz
     go_simp
     (try with_reducible rfl)
    simp only [Act.put, List.setIfInBounds_toArray, List.set_cons_zero, List.set_cons_succ]
    refine hT (i := 16) (v := ?_) rfl rfl hHeld ?_ ?_
    rotate_left
    ·intro wh hz; iterate 14 obtain ⟨_, hz⟩ := hz
     go_simp
     (try with_reducible rfl)
    simp only [Act.put, List.setIfInBounds_toArray, List.set_cons_zero, List.set_cons_succ]
    refine hT (i := 17) (v := ?_) rfl rfl hHeld ?_ ?_
    rotate_left
    ·intro wh hz; iterate 14 obtain ⟨_, hz⟩ := hz
     go_simp
     (try with_reducible rfl)
    simp only [Act.put, List.setIfInBounds_toArray, List.set_cons_zero, List.set_cons_succ]
    refine hT (i := 18) (v := ?_) rfl rfl hHeld ?_ ?_
    rotate_left
    ·intro wh hz; iterate 14 obtain ⟨_, hz⟩ := hz
     go_simp
     (try with_reducible rfl)
    simp only [Act.put, List.setIfInBounds_toArray, List.set_cons_zero, List.set_cons_succ]
    refine hT (i := 19) (v := ?_) rfl rfl hHeld ?_ ?_
    rotate_left
    ·intro wh hz; iterate 14 obtain ⟨_, hz⟩ := hz
     go_simp
     (try with_reducible rfl)
    simp only [Act.put, List.setIfInBounds_toArray, List.set_cons_zero, List.set_cons_succ]
    refine hT (i := 20) (v := ?_) rfl rfl hHeld ?_ ?_
    rotate_left
    ·intro wh hz; iterate 14 obtain ⟨_, hz⟩ := hz
     go_simp
     (try with_reducible rfl)
    simp only [Act.put, List.setIfInBounds_toArray, List.set_cons_zero, List.set_cons_succ]
    refine hT (i := 21) (v := ?_) rfl rfl hHeld ?_ ?_
    rotate_left
    ·intro wh hz; iterate 14 obtain ⟨_, hz⟩ := hz
     go_simp
     (try with_reducible rfl)
    simp only [Act.put, List.setIfInBounds_toArray, List.set_cons_zero, List.set_cons_succ]
    refine hT (i := 22) (v := ?_) rfl rfl hHeld ?_ ?_
    rotate_left
    ·intro wh hz; iterate 14 obtain ⟨_, hz⟩ := hz
     go_simp
     (try with_reducible rfl)
    simp only [Act.put, List.setIfInBounds_toArray, List.set_cons_zero, List.set_cons_succ]
    refine held_call (i := 23) rfl (by kernel_rfl) (by rfl) (fun K hK => ?_)
    (go_simp; go_at_call 13; refine (KQ2.out _ hB8).mono ?_; rintro e w9 ⟨r3, rfl, hI3, hb9⟩; have hB9 := hB8.trans (hb9.mono hB8.size); obtain ⟨ea, ec, rfl, _, _⟩ := RdAt.shape (RdAt.own hI3))
    refine hK.out _ _ ⟨keep_cell q0 hB9 ltqc, keep_cell q1 hB9 ltqc, keep_cell q2 hB9 ltqc, keep_cell q3 hB9 ltqc, keep_cell q4 hB9 ltqc, keep_cell q5 hB9 ltqc, keep_cell t0 hB9 lttc, keep_cell t1 hB9 lttc, keep_cell y0 hB9 ltyc, keep_cell p0 hB9 ltbc, keep_cell p1 hB9 ltbc, keep_cell p2 hB9 ltbc, keep_cell p3 hB9 ltbc, keep_cell p4 hB9 ltbc, keep_cell p5 hB9 ltbc⟩ (fun hHeld => ?_)
    clear hK K
    (try simp only [Act.put, List.setIfInBounds_toArray, List.set_cons_zero, List.set_cons_succ])
    refine hT (i := 24) (v := ?_) rfl rfl hHeld ?_ ?_
    rotate_left
    ·intro wh hz; iterate 14 obtain ⟨_, hz⟩ := hz
     go_simp
     (try with_reducible rfl)
    simp only [Act.put, List.setIfInBounds_toArray, List.set_cons_zero, List.set_cons_succ]
    refine hT (i := 25) (v := ?_) rfl rfl hHeld ?_ ?_
    rotate_left
    ·intro wh hz; iterate 14 obtain ⟨_, hz⟩ := hz
     go_simp
     (try with_reducible rfl)
    simp only [Act.put, List.setIfInBounds_toArray, List.set_cons_zero, List.set_cons_succ]
    refine hT (i := 26) (v := ?_) rfl rfl hHeld ?_ ?_
    rotate_left
    ·intro wh hz; iterate 14 obtain ⟨_, hz⟩ := hz
     go_simp
     (try with_reducible rfl)
    simp only [Act.put, List.setIfInBounds_toArray, List.set_cons_zero, List.set_cons_succ]
    refine wpAnyH_done (by kernel_rfl) ?_ _
    have HB9 := Lib.hid (HBU.out.trans (hB9.mono HBU.out.size))
    clear q0 q1 q2 q3 q4 q5 t0 t1 y0 p0 p1 p2 p3 p4 p5 KQ2 KF hB8 hB9 hb8 hb9 hI3 hd
    go_wp2
    go_roundw
    case rel => exact ⟨n + 1, by go_num, by omega, HB9⟩
    case measure => (simp [intOf]; try omega)
  ·obtain rfl : n = A.length := by omega
   obtain ⟨w7, hw7⟩ : ∃ z, z = wr := ⟨_, rfl⟩
   have HB7 := Lib.hid (HB6.out.trans (HB.out.mono HB6.out.size))
   have HP7 := Lib.hid (HP6.out.later HB.out hgw6)
   have HT7 := Lib.hid (And.intro (keep_cell HT6.out.1 HB.out hgl6) (keep_cell HT6.out.2 HB.out hgl6))
   have HO7 := Lib.hid (HO6.out.later HB.out)
   have hgl7 : gl < wr.heap.size := Nat.lt_of_lt_of_le hgl6 HB.out.size
   have hgw7 : w.heap.size < wr.heap.size := Nat.lt_of_lt_of_le hgw6 HB.out.size
   clear HB HB6 HP6 HT6 HO6 hgl6 hgw6 HRY
   subst hw7
   obtain ⟨i0, hi, hz0, hz1, hz2⟩ := info_parts info_al
   go_wp2
   go_loopw [14, 15] (fun s14 i wr => ∃ (n : Nat), i = .int .i64 n ∧ n ≤ L.length ∧ Hid (wr.ownsRow w7.heap.size 54 6 s14 ((L.take n).filter (fireF now)).length (alCells ((L.take n).filter (fireF now)))) ∧ Hid (Below w7.heap.size w7 wr)) (fun _ i _ => L.length - (intOf i).toNat)
   case atStart => exact ⟨0, rfl, Nat.zero_le _, Lib.hid (World.ownsRow_nil _ _ _ _), Lib.hid (Below.refl _ _)⟩
   case round =>
    obtain ⟨n, rfl, hn, HO, HB⟩ := hrel
    by_cases hnl : n < L.length
    ·have hBw := HB7.out.trans (HB.out.mono HB7.out.size)
     have hOw := HO7.out.later HB.out
     obtain ⟨la', lc', hsh, _, hor⟩ := RdAt.shape hOw.row
     obtain ⟨b, o, hb, hbl, hcell⟩ := hor (by omega)
     simp only [Value.slice.injEq] at hsh
     obtain ⟨hsh1, _, hsh3⟩ := hsh
     subst hsh1
     subst hsh3
     subst hb
     have hat := alCells_at L n hnl
     have p0 := hcell _ _ (hat 0 _ rfl)
     have p1 := hcell _ _ (hat 1 _ rfl)
     have p2 := hcell _ _ (hat 2 _ rfl)
     have p3 := hcell _ _ (hat 3 _ rfl)
     have p4 := hcell _ _ (hat 4 _ rfl)
     have p5 := hcell _ _ (hat 5 _ rfl)
     rw [Nat.add_zero] at p0
     rw [← Nat.add_assoc] at p1 p2 p3 p4 p5
     have hmem := List.getElem_mem hnl
     obtain ⟨hfk, hfit⟩ := hOw.fld _ hmem
     have HTK : Hid (L.take (n + 1) = L.take n ++ [L[n]]) := Lib.hid (List.take_succ_eq_append_getElem hnl)
     have HFL2 : Hid (((L.take n).filter (fireF now)).length ≤ n) := Lib.hid (Nat.le_trans (List.length_filter_le _ _) (by rw [List.length_take]; omega))
     have HFM : Hid (∀ p ∈ (L.take n).filter (fireF now), FldsAt wr p.2 p.1.fl) := Lib.hid (fun p hp => (hOw.fld p (List.mem_of_mem_take (List.mem_filter.1 hp).1)).1)
     have hFE : fireF now L[n] = firesA L[n].1 now := rfl
     have HFF : Hid ((L.take (n + 1)).filter (fireF now) = (L.take n).filter (fireF now) ++ (if fireF now L[n] then [L[n]] else [])) := Lib.hid (by rw [HTK.out, List.filter_append]; congr 1; rw [List.filter_cons, List.filter_nil])
     generalize (L.take n).filter (fireF now) = F at *
     generalize L[n] = y at *
     obtain ⟨⟨src, fl, alv, ac, fr, til⟩, fv⟩ := y
     dsimp only at *
     obtain ⟨fa, fc, rfl, hfc, _⟩ := RdAt.shape hfk
     have kf := fires_any src fa fl.length fc alv ac fr til now wr
     have hF : firesA ⟨src, fl, alv, ac, fr, til⟩ now = (decide (fr ≤ now) && (decide (til = 0) || decide (now < til))) := rfl
     rw [← hF] at kf
     rw [hFE] at HFF
     generalize firesA ⟨src, fl, alv, ac, fr, til⟩ now = FI at *
     have hi0 : (0 : Int) ≤ (n : Int) := by omega
     have hi1 : (n : Int) < (L.length : Int) := by omega
     have HBL := Lib.hid hbl
     clear hF hfk hfit hOw hBw hmem hat hcell hor HTK hFE HFM
     go_wp2_with fail
     refine kf.mono ?_
     rintro e w8 ⟨rfl, hb8⟩
     have HB8 := Lib.hid (HB.out.trans (hb8.mono HB.out.size))
     have HO8 := Lib.hid (own_later HO.out hb8)
     have p0 := keep_cell p0 hb8 HBL.out
     have p1 := keep_cell p1 hb8 HBL.out
     have p2 := keep_cell p2 hb8 HBL.out
     have p3 := keep_cell p3 hb8 HBL.out
     have p4 := keep_cell p4 hb8 HBL.out
     have p5 := keep_cell p5 hb8 HBL.out
     clear kf hb8 HO HB
     cases FI
     ·have HN : Hid ((L.take (n + 1)).filter (fireF now) = F) := Lib.hid (by rw [HFF.out]; simp)
      clear HFF
      go_wp2
      go_roundw
      case rel => exact ⟨n + 1, by go_num, by omega, Lib.hid (by rw [HN.out]; exact HO8.out), HB8⟩
      case measure => (simp [intOf]; try omega)
     ·have HN : Hid ((L.take (n + 1)).filter (fireF now) = F ++ [(⟨src, fl, alv, ac, fr, til⟩, .slice fa fl.length fc)]) := Lib.hid (by rw [HFF.out]; rfl)
      have hfl2 := HFL2.out
      have hr1 := row6 w8 (.string src) (.slice fa fl.length fc) (.int .i64 alv) (.int .u32 ac) (.int .i64 fr) (.int .i64 til) 54
      have ho1 := HO8.out.alloc (.cells #[.string src, .slice fa fl.length fc, .int .i64 alv, .int .u32 ac, .int .i64 fr, .int .i64 til] 54)
      have hb1 := alloc_below w8 (.cells #[.string src, .slice fa fl.length fc, .int .i64 alv, .int .u32 ac, .int .i64 fr, .int .i64 til] 54)
      have hs1 := World.size_alloc w8 (.cells #[.string src, .slice fa fl.length fc, .int .i64 alv, .int .u32 ac, .int .i64 fr, .int .i64 til] 54)
      have h1s := all6 (a := .string src) (b := .slice fa fl.length fc) (c := .int .i64 alv) (d := .int .u32 ac) (e := .int .i64 fr) (f := .int .i64 til) rfl rfl rfl rfl rfl rfl
      have hz8 := HB8.out.size
      have P1 := Lib.hid (And.intro ho1 (And.intro hr1 (And.intro hb1 hs1)))
      have P3 := Lib.hid hz8
      clear ho1 hr1 hb1 hs1 hz8
      go_wp2_with (at_builtin; (refine wpList_append_rd2 rfl (.tmp 89) (.tmp 94) 31 rfl w7.heap.size 54 i0 (.agg #[.string ⟨#[]⟩, .slice none 0 0, .int .i64 0, .int .u32 0, .int .i64 0, .int .i64 0]) 6 72 Tryz.underlying31 hi hz0 hz1 hz2 rfl (by decide) _ F.length (alCells F) rfl P1.out.1 _ 1 [.string src, .slice fa fl.length fc, .int .i64 alv, .int .u32 ac, .int .i64 fr, .int .i64 til] rfl P1.out.2.1 h1s (by unfold maxLen; omega) (by omega) (by have := P3.out; have := P1.out.2.2.2; omega) ?_); intro v' W3 hown' hgrow' hcase')
      have HB9 := Lib.hid ((HB8.out.trans (P1.out.2.2.1.mono P3.out)).grown hgrow' (by have := P3.out; have := P1.out.2.2.2; omega) (fun j e => (P1.out.1.lt j e).1))
      have HO9 : Hid (W3.ownsRow w7.heap.size 54 6 v' ((L.take (n + 1)).filter (fireF now)).length (alCells ((L.take (n + 1)).filter (fireF now)))) := Lib.hid (by rw [HN.out, alC_snoc, List.length_append]; exact hown')
      clear hown' hgrow' hcase' P1 P3
      go_wp2
      go_roundw
      case rel => exact ⟨n + 1, by go_num, by omega, HO9, HB9⟩
      case measure => (simp [intOf]; try omega)
    ·obtain rfl : n = L.length := by omega
     obtain ⟨w8, hw8⟩ : ∃ z, z = wr := ⟨_, rfl⟩
     have HTL : Hid ((L.take L.length).filter (fireF now) = L.filter (fireF now)) := Lib.hid (by rw [List.take_length])
     rw [HTL.out] at HO
     have HFL2 : Hid ((L.filter (fireF now)).length ≤ L.length) := Lib.hid (List.length_filter_le _ _)
     have hA : AlsAt wr u14 (L.filter (fireF now)) := ⟨RdAt.own HO.out, fun p hp => (HO7.out.later HB.out).fld p (List.mem_filter.1 hp).1⟩
     have kl2 := KLF.out (L.filter (fireF now)) _ 4 3 now wr (HB7.out.trans (HB.out.mono HB7.out.size)) hA (by have := HFL2.out; omega) (fun y hy => H12.out y (List.mem_filter.1 hy).1)
     obtain ⟨fa, fc, rfl, _, _⟩ := RdAt.shape hA.row
     obtain ⟨q0, q1, q2, q3, q4, q5⟩ := HP7.out.later HB.out hgw7
     have t0 := keep_cell HT7.out.1 HB.out hgl7
     have t1 := keep_cell HT7.out.2 HB.out hgl7
     have hfi := HFI.out
     generalize leftL q (L.filter (fireF now)) (4, 3) now = C at *
     clear hA HTL HO HMEM
     go_wp2_with fail
     refine kl2.mono ?_
     rintro e w9 ⟨r3, rfl, hI3, hb9⟩
     obtain ⟨za, zc, rfl, _, _⟩ := RdAt.shape hI3
     have HB9 := Lib.hid (HB7.out.trans ((HB.out.trans (hb9.mono HB.out.size)).mono HB7.out.size))
     clear kl2 hb9 q0 q1 q2 q3 q4 q5 t0 t1 hI3
     go_wp2
     go_ret
     exact ⟨rfl, HB9.out⟩
end lawTimes
end Go.Proofs.YtipnhpfpppblhaaGreat
/- InhibitTimes: the walk, of its arguments. -/
namespace Go.Proofs.YtipnhpfpppblhaaGreat
open Go.RowKit
namespace lawTimes
theorem walk (v : Value) (x : PV) (p : PD) (u : Value) (l : List (Al × Value)) (now : Int) (w : World) (h1 : ArgPolC w v x p) (h2 : ArgAls w u l) : Calls Tryz.prog 7 #[v, u, .int .i64 now] w fun e w' => e = .returned (.bool true) ∧ Below w.heap.size w w' := by
 obtain ⟨⟨rfl, p2, p3⟩, p4⟩ := h1
 obtain ⟨y, rfl, _⟩ := pol_shape p2
 exact walk0 y p l u now w p2 p4 p3 h2.1 h2.2
end lawTimes
end Go.Proofs.YtipnhpfpppblhaaGreat
/- InhibitTimes: the card: whatever the arguments, the law returns true and its arguments read as they did. No condition. -/
namespace Go.Proofs.YtipnhpfpppblhaaGreat.lawTimes
open Go.ChangeShapes Go.WideShapes Go.ChangeAt Go.RowKit
open Go.ChangeMaps (open_string)

set_option maxRecDepth 100000 in
theorem contract (H : Type) (enc : TypeId × Value → H) (W : World) (base : Nat) (args : Array Value) (ds gs : List (DataW H)) (before : List MemPlace)
  (hval : ∀ (j : Nat) t v, Tryz.f7.params[j]? = some t → args[j]? = some v → Value.okWide Tryz.prog W .any base t v)
  (hW : DataW.Whole enc Tryz.prog Tryz.f7.params.toList Rows.inhibitTimesSpec.vars false W args.toList ds gs before) :
  Calls Tryz.prog 7 args W fun e W' => ∃ v, e = .returned v ∧ Rows.inhibitTimesSpec.post enc Tryz.prog Tryz.f7 false true false false W args v W' := by
 have hW' := hW
 obtain ⟨p, q, hA0, hV, rfl, hfz, hnd⟩ := hW
 have hA : DataW.TrodAll enc Tryz.prog W 0 (fun _ => true) true Tryz.f7.params.toList args.toList ds p := hA0
 rw [Tryz.params7] at hA hval
 obtain ⟨v0, vs0, d0, ds0, p0, q0, hargs, rfl, rfl, h0, r0⟩ := trodAll_cons hA
 obtain ⟨v1, vs1, d1, ds1, p1, q1, rfl, rfl, rfl, h1, r1⟩ := trodAll_cons r0
 obtain ⟨v2, vs2, d2, ds2, p2, q2, rfl, rfl, rfl, h2, r2⟩ := trodAll_cons r1
 obtain ⟨rfl, rfl, rfl⟩ := trodAll_nil r2
 obtain rfl : args = #[v0, v1, v2] := by cases args; simp_all
 obtain ⟨rfl, rfl⟩ := trodVars_none hV
 obtain ⟨x0, y0, hx0⟩ := polC_of_arg (hval 0 26 v0 rfl rfl) h0
 obtain ⟨x1, hx1⟩ := alsG_of_arg (hval 1 27 v1 rfl rfl) h1
 obtain ⟨x2, rfl, rfl, rfl, wx2⟩ := open_int Tryz.underlying3 (hval 2 3 v2 rfl rfl) h2
 clear hA0
 refine (walk v0 x0 y0 v1 x1 x2 W hx0 hx1).mono ?_
 rintro e W' ⟨rfl, hb⟩
 exact ⟨_, rfl, law_post laidOut Tryz.underlying4 rfl rfl (by kernel_rfl) hW' rfl rfl rfl hb⟩

theorem laid_met (os : Os) : laidMet Tryz.prog Rows.inhibitTimesRow.laid ((laidWorld os).forCall (fun _ _ => 0) ⟨#[], #[.agg #[.slice none 0 0, .slice none 0 0, .slice none 0 0, .slice none 0 0, .slice none 0 0, .slice none 0 0], .slice none 0 0, .int .i64 0], []⟩).memory :=
 ⟨[], rfl, List.nodup_nil, fun _ _ h => by cases h⟩
theorem reads (os : Os) {H : Type} (enc : TypeId × Value → H) : ∃ places, DataW.whole enc Tryz.prog ((laidWorld os).forCall (fun _ _ => 0) ⟨#[], #[.agg #[.slice none 0 0, .slice none 0 0, .slice none 0 0, .slice none 0 0, .slice none 0 0, .slice none 0 0], .slice none 0 0, .int .i64 0], []⟩).memory Tryz.f7.params.toList Rows.inhibitTimesSpec.vars false (#[.agg #[.slice none 0 0, .slice none 0 0, .slice none 0 0, .slice none 0 0, .slice none 0 0, .slice none 0 0], .slice none 0 0, .int .i64 0] : Array Value).toList 8 = some ([.agg [.nil, .nil, .nil, .nil, .nil, .nil], .nil, .lit (.int .i64 0)], [], places) :=
 ⟨[], by kernel_rfl⟩

set_option maxRecDepth 100000 in
theorem lifted (os : Os) (started : os.Started) (H : Type) (enc : TypeId × Value → H) (F : Stop.Interp) :
  ReturnsInHanded {} Tryz.checked os 7 .any ((OpenSpec.ofChange Rows.inhibitTimesSpec).preRow enc Tryz.prog Tryz.f7 Rows.inhibitTimesRow.domain false Rows.inhibitTimesRow.laid) (((OpenSpec.ofChange Rows.inhibitTimesSpec).at F).post enc Tryz.prog Tryz.f7 false true false false) := by
 obtain ⟨places, hx⟩ := reads os enc
 refine returnsInHanded_of_row (C := Tryz.checked) (s := OpenSpec.ofChange Rows.inhibitTimesSpec) ownNone started (by kernel_rfl) Tryz.func7
  (witness_row_at (enc := enc) (C := Tryz.checked) false (laidWorld os) #[.agg #[.slice none 0 0, .slice none 0 0, .slice none 0 0, .slice none 0 0, .slice none 0 0, .slice none 0 0], .slice none 0 0, .int .i64 0] rfl (by kernel_rfl) (by kernel_rfl) (by kernel_rfl)
   (OpenSpec.preRow_of_cond 8 hx (by kernel_rfl) (fun k hk => by cases hk) (by kernel_rfl) (laid_met os))) ?_
 intro W base args ds gs before hval hW _ _ _ _ _ _
 exact contract H enc W base args ds gs before hval hW

theorem said : Rows.InhibitTimesSaid :=
 OpenClaim.holds_of_cond 7 Tryz.f7 rfl rfl rfl rfl rfl rfl rfl ⟨rfl, rfl, rfl, rfl, rfl⟩ rfl rfl rfl rfl rfl (by kernel_rfl) Tryz.func7 (by kernel_rfl)
  (of_decide_eq_true (by kernel_rfl)) (by unfold Func.isWrapper; first | (rw [if_pos (by decide +kernel)]; kernel_rfl) | (rw [if_neg (by decide +kernel)]; exact ⟨rfl, rfl⟩))
  (fun os started H enc _ F => by rw [OpenClaim.pre_eq_preRow]; exact lifted os started H enc F)

end Go.Proofs.YtipnhpfpppblhaaGreat.lawTimes
