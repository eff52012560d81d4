/- InhibitBits: the card: whatever the arguments, the law returns true and its arguments read as they did. No condition. -/
import Derived.Test.YtipnhpfpppblhaaGreatU13P5
import Derived.Deep.LoopGhost
import Derived.Lib.Hide
import Derived.Test.YtipnhpfpppblhaaGreatFrame12

/- A box beside the policy's: what stands in it stays. No program in sight but types. -/
namespace Go.Proofs.YtipnhpfpppblhaaGreat
open Go.RowKit

/-- a box, and its cells -/
structure BxAt (b : Nat) (cs : List Value) (W : World) : Prop where
 lt : b < W.heap.size
 get : ∀ (j : Nat) (v : Value), cs[j]? = some v → W.cell? ⟨b, j, none⟩ = some v
theorem BxAt.later {b : Nat} {cs : List Value} {W W' : World} (h : BxAt b cs W) (hb : Below W.heap.size W W') : BxAt b cs W' :=
 ⟨Nat.lt_of_lt_of_le h.lt hb.size, fun j v hj => keep_cell (h.get j v hj) hb h.lt⟩
theorem BxAt.puts {b : Nat} {cs : List Value} {W : World} (h : BxAt b cs W) {g o : Nat} (hne : b ≠ g) (vs : List Value) : BxAt b cs (W.setCells g o vs) :=
 ⟨Nat.lt_of_lt_of_le h.lt (below_puts_base (g := g) (o := o) (Below.refl 0 W) (Nat.zero_le _) vs).size, fun j v hj => by
  rw [World.cell?_setCells_out _ _ _ _ _ (fun hb _ => absurd hb hne)]
  exact h.get j v hj⟩
theorem two_boxes (w : World) (v0 v1 v2 v3 v4 v5 : Value) (cs : List Value) (s t : TypeId) (W : World) (h : (w.alloc (.cells #[v0, v1, v2, v3, v4, v5] s)).alloc (.cells cs.toArray t) = W) :
  C6 w.heap.size v0 v1 v2 v3 v4 v5 W ∧ W.there w.heap.size 0 6 ∧ BxAt (w.heap.size + 1) cs W ∧ Below w.heap.size w W ∧ w.heap.size < W.heap.size := by
 subst h
 obtain ⟨W1, h1⟩ : ∃ z, w.alloc (.cells #[v0, v1, v2, v3, v4, v5] s) = z := ⟨_, rfl⟩
 rw [h1]
 have s1 : W1.heap.size = w.heap.size + 1 := by rw [← h1, World.size_alloc]
 have b1 : Below w.heap.size w W1 := by rw [← h1]; exact alloc_below _ _
 have x6 : C6 w.heap.size v0 v1 v2 v3 v4 v5 W1 := by rw [← h1]; exact box6n w _ _ _ _ _ _ _
 have ht : W1.there w.heap.size 0 6 := h1 ▸ box_there (Below.refl _ _)
 obtain ⟨s2, b2, c2⟩ := alloc_facts W1 cs t _ rfl
 refine ⟨x6.later b2 (by omega), there_later ht b2 (by omega), ⟨by omega, fun j v hj => ?_⟩, b1.trans (b2.mono (by omega)), by omega⟩
 rw [← s1]
 exact c2 j v hj
theorem c6_put3 {w : World} {g : Nat} {a b c d e f : Value} (x : Value) (h : C6 g a b c d e f w) (ht : w.there g 0 6) : C6 g a b c x e f (w.setCells g 3 [x]) := by
 obtain ⟨h0, h1, h2, h3, h4, h5⟩ := h
 have ht' : w.there g 3 1 := fun j hj => by
  have := ht (3 + j) (by omega)
  rwa [Nat.zero_add] at this
 have h3' : (w.setCells g 3 [x]).cell? ⟨g, 3, none⟩ = some x := by
  have := World.rangeAt_setCells_same w g 3 [x] ht' 0 x rfl
  simpa using this
 refine ⟨?_, ?_, ?_, h3', ?_, ?_⟩
 ·rw [World.cell?_setCells_out _ _ _ _ _ (fun _ _ => by first | (left; simp; done) | (right; simp; done))]; exact h0
 ·rw [World.cell?_setCells_out _ _ _ _ _ (fun _ _ => by first | (left; simp; done) | (right; simp; done))]; exact h1
 ·rw [World.cell?_setCells_out _ _ _ _ _ (fun _ _ => by first | (left; simp; done) | (right; simp; done))]; exact h2
 ·rw [World.cell?_setCells_out _ _ _ _ _ (fun _ _ => by first | (left; simp; done) | (right; simp; done))]; exact h4
 ·rw [World.cell?_setCells_out _ _ _ _ _ (fun _ _ => by first | (left; simp; done) | (right; simp; done))]; exact h5
end Go.Proofs.YtipnhpfpppblhaaGreat
/- lychgateref01.SameInts. -/
namespace Go.Proofs.YtipnhpfpppblhaaGreat
open Go.RowKit

set_option maxHeartbeats 1600000 in
set_option maxRecDepth 100000 in
theorem same_ints (xs ys : List Int) (w : World) (u v : Value) (hx : IntsAt w u xs) (hy : IntsAt w v ys) (hl : xs.length ≤ 1000) (hl2 : ys.length ≤ 1000) :
  Calls Tryz.prog 12 #[u, v] w fun e w' => e = .returned (.bool (decide (xs = ys))) ∧ Below w.heap.size w w' := by
 obtain ⟨a, c, rfl, hc, hr⟩ := RdAt.shape hx
 obtain ⟨a', c', rfl, hc', hr'⟩ := RdAt.shape hy
 have HR := Lib.hid hr
 have HR' := Lib.hid hr'
 clear hr hr' hx hy
 by_cases hlen : xs.length = ys.length
 ·have hlen' : (xs.length : Int) = (ys.length : Int) := by omega
  have hb0 : ((xs.length : Int) != (ys.length : Int)) = false := by simp [hlen]
  have HLEN := Lib.hid hlen
  clear hlen hlen'
  go_enter Tryz.func12, Tryz.ntmps12
  go_wp2
  go_loopw [5] (fun i wr => ∃ k : Nat, k ≤ xs.length ∧ i = .int .i64 k ∧ Hid (xs.take k = ys.take k) ∧ Below w.heap.size w wr) (fun i _ => xs.length - (intOf i).toNat)
  case atStart => exact ⟨0, Nat.zero_le _, rfl, Lib.hid rfl, Below.refl _ _⟩
  case round =>
   obtain ⟨k, hk, rfl, HT, hbr⟩ := hrel
   by_cases hkl : k < xs.length
   ·have hkl2 : k < ys.length := by have := HLEN.out; omega
    obtain ⟨x, hxe⟩ : ∃ x, xs[k] = x := ⟨_, rfl⟩
    obtain ⟨y, hye⟩ : ∃ y, ys[k] = y := ⟨_, rfl⟩
    obtain ⟨b0, o0, rfl, hb0', hcell⟩ := HR.out (by omega)
    obtain ⟨b1, o1, rfl, hb1', hcell'⟩ := HR'.out (by omega)
    have hcr : wr.cell? ⟨b0, o0 + k, none⟩ = some (.int .i64 x) := (hbr.cell (p := ⟨b0, o0 + k, none⟩) hb0').trans (hcell k _ (by rw [List.getElem?_map, List.getElem?_eq_getElem hkl, hxe]; rfl))
    have hcr' : wr.cell? ⟨b1, o1 + k, none⟩ = some (.int .i64 y) := (hbr.cell (p := ⟨b1, o1 + k, none⟩) hb1').trans (hcell' k _ (by rw [List.getElem?_map, List.getElem?_eq_getElem hkl2, hye]; rfl))
    clear hcell hcell'
    by_cases hxy : x = y
    ·have HN : Hid (xs.take (k + 1) = ys.take (k + 1)) := take_step HT.out hkl hkl2 (by rw [hxe, hye, hxy])
     have hbx : (x != y) = false := by simp [hxy]
     clear hxy hxe hye
     go_wp2_with fail
     go_region
     all_goals go_wp2
     go_roundw
     case rel => exact ⟨k + 1, by omega, by go_num, HN, bl_drewN hbr 1⟩
     case measure => simp [intOf]; omega
    ·have hbx : (x != y) = true := by simp [hxy]
     have HN : Hid (xs ≠ ys) := ne_at hkl hkl2 (by rw [hxe, hye]; exact hxy)
     clear hxy hxe hye
     go_wp2_with fail
     go_region
     all_goals go_wp2
     go_ret
     exact ⟨by rw [decide_eq_false HN.out]; rfl, bl_drewN hbr 1⟩
   ·obtain rfl : k = xs.length := by omega
    have HN : Hid (xs = ys) := take_done HLEN.out HT.out
    clear HT
    go_wp2
    go_ret
    exact ⟨by rw [decide_eq_true HN.out]; rfl, hbr⟩
 ·have hlen' : ¬ (xs.length : Int) = (ys.length : Int) := by omega
  go_enter Tryz.func12, Tryz.ntmps12
  go_wp2
  go_ret
  exact ⟨by rw [decide_eq_false (fun h => hlen (by rw [h]))]; rfl, Below.refl _ _⟩
end Go.Proofs.YtipnhpfpppblhaaGreat
/- InhibitBits: the walk. -/
namespace Go.Proofs.YtipnhpfpppblhaaGreat
open Go.RowKit Go.Maps

namespace lawBits
set_option maxHeartbeats 6400000 in
set_option maxRecDepth 100000 in
theorem walk0 (x : PA) (p : PD) (l : List (Al × Value)) (v : Value) (xsrc : ByteArray) (xfl : List Fld) (xa : Option Addr) (xcap : Nat) (xlv : Int) (xc : Nat) (xfr xtil : Int) (w : World) (hp : PolAt w (x.pv p) p) (hc : PCap (x.pv p)) (hpf : PolFitD p) (ha : AlsAt w v l) (hl : l.length ≤ maxLen) (hxf : FldsAt w (.slice xa xfl.length xcap) xfl) (hxfit : AlFit ⟨xsrc, xfl, xlv, xc, xfr, xtil⟩) :
  Calls Tryz.prog 5 #[(x.pv p).v, v, .agg #[.string xsrc, .slice xa xfl.length xcap, .int .i64 xlv, .int .u32 xc, .int .i64 xfr, .int .i64 xtil]] w fun e w' => e = .returned (.bool true) ∧ Below w.heap.size w w' := by
 have kl := lives_any
 have kc := fun W (h : Below w.heap.size w W) => rcutD_any x p W (hp.later h) hc
 have kfew := fun W (h : Below w.heap.size w W) => few13_any l v W (ha.later h) hl
 have hq := pol_cut hp
 have hqf := cutD_fit hpf
 have h14 : p.cut.ih.length ≤ 14 := by unfold PD.cut; exact List.length_take_le _ _
 generalize p.cut = q at *
 obtain ⟨a0, c0, a1, c1, a2, c2, a3, c3, a4, c4, a5, c5⟩ := x
 have KLF := Lib.hid (fun (L : List (Al × Value)) (u : Value) (tl : Int) (tc : Nat) (nw : Int) (W : World) (h : Below w.heap.size w W) (hL : AlsAt W u L) (hn : L.length ≤ 1000000) (h12 : ∀ y ∈ L, y.1.fl.length ≤ 12) => ileft_any _ q L u tl tc nw W (hq.later h) hqf hL hn h12)
 have KQT := Lib.hid (fun (L : List (Al × Value)) (u : Value) (k : Int) (tl : Int) (tc : Nat) (nw : Int) (W : World) (h : Below w.heap.size w W) (hL : AlsAt W u L) (hn : L.length ≤ maxLen) => iquiet_any _ q L u k tl tc nw W (hq.later h) hqf hL hn)
 have KBT := Lib.hid (fun (L : List (Al × Value)) (u : Value) (tl : Int) (tc : Nat) (nw : Int) (W : World) (h : Below w.heap.size w W) (hL : AlsAt W u L) (hn : L.length ≤ 1000000) (h12 : ∀ y ∈ L, y.1.fl.length ≤ 12) => ibits_any _ q L u tl tc nw W (hq.later h) hqf hL hn h12 h14)
 have KCH := Lib.hid (fun (W : World) (h : Below w.heap.size w W) => check8_any _ q W (hq.later h) hqf)
 have KCT : Hid (∀ (y m : Al) (ok : Bool) (fa : Option Addr) (fc : Nat) (tl : Int) (tc : Nat) (W : World), Below w.heap.size w W → FldsAt W (.slice fa y.fl.length fc) y.fl → y.fl.length ≤ 12 → cutOk q.ra y.fl (y.lv, y.c) (tl, tc) = ok → cutAl q.ra y (tl, tc) = m →
   Calls Tryz.prog 20 #[.agg #[.slice a0 q.so.length c0, .slice a1 q.re.length c1, .slice a2 q.pe.length c2, .slice a3 q.ra.length c3, .slice a4 q.ro.length c4, .slice a5 q.ih.length c5], .agg #[.string y.src, .slice fa y.fl.length fc, .int .i64 y.lv, .int .u32 y.c, .int .i64 y.fr, .int .i64 y.til], Lab tl tc] W fun e w' =>
    ∃ pa pc, e = .returned (.tuple #[.agg #[.string m.src, .slice pa m.fl.length pc, .int .i64 m.lv, .int .u32 m.c, .int .i64 m.fr, .int .i64 m.til], .bool ok]) ∧ FldsAt w' (.slice pa m.fl.length pc) m.fl ∧ (∀ q, (Value.slice pa m.fl.length pc).ownBlock = some q → W.heap.size ≤ q) ∧ Below W.heap.size W w') :=
  Lib.hid (fun y m ok fa fc tl tc W hW hF hx hok hm => cut_l (a0, q.so.length, c0) (a1, q.re.length, c1) (a2, q.pe.length, c2) (a4, q.ro.length, c4) (a5, q.ih.length, c5) q.ra (.slice a3 q.ra.length c3) y (.slice fa y.fl.length fc) (tl, tc) m ok W (hq.h3.later hW) hqf.h3.1 hF (by omega) hok hm)
 have HQP := Lib.hid hq
 have HQF := Lib.hid hqf
 dsimp only [PA.pv, PV.v] at *
 generalize p.so.length = n0 at *
 generalize p.re.length = n1 at *
 generalize p.pe.length = n2 at *
 generalize p.ra.length = n3 at *
 generalize p.ro.length = n4 at *
 generalize p.ih.length = n5 at *
 obtain ⟨m0, hm0⟩ : ∃ z, q.so.length = z := ⟨_, rfl⟩
 obtain ⟨m1, hm1⟩ : ∃ z, q.re.length = z := ⟨_, rfl⟩
 obtain ⟨m2, hm2⟩ : ∃ z, q.pe.length = z := ⟨_, rfl⟩
 obtain ⟨m3, hm3⟩ : ∃ z, q.ra.length = z := ⟨_, rfl⟩
 obtain ⟨m4, hm4⟩ : ∃ z, q.ro.length = z := ⟨_, rfl⟩
 obtain ⟨m5, hm5⟩ : ∃ z, q.ih.length = z := ⟨_, rfl⟩
 rw [hm0, hm1, hm2, hm3, hm4, hm5] at KLF KQT KBT KCH KCT kc HQP
 have HM5 := Lib.hid hm5
 have H14 := Lib.hid h14
 have KC := Lib.hid kc
 have KFEW := Lib.hid kfew
 have HA := Lib.hid ha
 clear kc kfew hp hc hpf ha hq hqf hl h14 hm0 hm1 hm2 hm3 hm4 hm5
 obtain ⟨W0, hW0⟩ : ∃ z, (w.alloc (.cells #[.slice a0 n0 c0, .slice a1 n1 c1, .slice a2 n2 c2, .slice a3 n3 c3, .slice a4 n4 c4, .slice a5 n5 c5] 26)).alloc (.cells #[.string xsrc, .slice xa xfl.length xcap, .int .i64 xlv, .int .u32 xc, .int .i64 xfr, .int .i64 xtil] 58) = z := ⟨_, rfl⟩
 obtain ⟨hP, hT, hX, hb0, hz⟩ := two_boxes w (.slice a0 n0 c0) (.slice a1 n1 c1) (.slice a2 n2 c2) (.slice a3 n3 c3) (.slice a4 n4 c4) (.slice a5 n5 c5) [.string xsrc, .slice xa xfl.length xcap, .int .i64 xlv, .int .u32 xc, .int .i64 xfr, .int .i64 xtil] _ _ W0 hW0
 have HX0 := Lib.hid hX
 clear hX
 have HP := Lib.hid hP
 have HT := Lib.hid hT
 have HB0 := Lib.hid hb0
 have HZ := Lib.hid hz
 have HW0 := Lib.hid hW0
 obtain ⟨va, vc, rfl, _, _⟩ := RdAt.shape HA.out.row
 clear hb0 hz hT hP hW0
 go_enter Tryz.func5, Tryz.ntmps5
 go_upto_region 1 with fail
 rw [HW0.out]
 clear HW0
 go_wp2_with fail
 refine (kl _).mono ?_
 rintro e w1 ⟨rfl, hb1⟩
 have HB1 := Lib.hid (HB0.out.trans (hb1.mono HB0.out.size))
 have HT1 := Lib.hid (there_later HT.out hb1 HZ.out)
 have HZ1 := Lib.hid (Nat.lt_of_lt_of_le HZ.out hb1.size)
 obtain ⟨p0, p1, p2, p3, p4, p5⟩ := HP.out.later hb1 HZ.out
 have HX1 := Lib.hid (HX0.out.later hb1)
 clear hb1 kl HB0 HP HT HZ
 go_wp2_with fail
 refine (KC.out _ HB1.out).mono ?_
 rintro e w2 ⟨rfl, hb2⟩
 have HB2 := Lib.hid (HB1.out.trans (hb2.mono HB1.out.size))
 have HT2 := Lib.hid (there_later HT1.out hb2 HZ1.out)
 have HZ2 := Lib.hid (Nat.lt_of_lt_of_le HZ1.out hb2.size)
 have HX2 := Lib.hid (HX1.out.later hb2)
 clear HX1 HX0
 have P0 := keep_cell p0 hb2 HZ1.out
 have P1 := keep_cell p1 hb2 HZ1.out
 have P2 := keep_cell p2 hb2 HZ1.out
 have P3 := keep_cell p3 hb2 HZ1.out
 have P4 := keep_cell p4 hb2 HZ1.out
 have P5 := keep_cell p5 hb2 HZ1.out
 clear hb2 p0 p1 p2 p3 p4 p5 KC HB1 HT1 HZ1
 have f0 := there_free HT2.out 0 (by decide)
 have f1 := there_free HT2.out 1 (by decide)
 have f2 := there_free HT2.out 2 (by decide)
 have f3 := there_free HT2.out 3 (by decide)
 have f4 := there_free HT2.out 4 (by decide)
 have f5 := there_free HT2.out 5 (by decide)
 go_upto_region 4 with fail
 change Code.wp _ _ _ _ (w2.setCells w.heap.size 0 [.slice a0 m0 c0, .slice a1 m1 c1, .slice a2 m2 c2, .slice a3 m3 c3, .slice a4 m4 c4, .slice a5 m5 c5])
 have HX3 := Lib.hid (HX2.out.puts (g := w.heap.size) (o := 0) (by omega) [.slice a0 m0 c0, .slice a1 m1 c1, .slice a2 m2 c2, .slice a3 m3 c3, .slice a4 m4 c4, .slice a5 m5 c5])
 clear HX2
 have hP3 := c6_puts w2 w.heap.size (.slice a0 m0 c0) (.slice a1 m1 c1) (.slice a2 m2 c2) (.slice a3 m3 c3) (.slice a4 m4 c4) (.slice a5 m5 c5) HT2.out
 have hB3 := below_puts (g := w.heap.size) (o := 0) HB2.out (Nat.le_refl _) [.slice a0 m0 c0, .slice a1 m1 c1, .slice a2 m2 c2, .slice a3 m3 c3, .slice a4 m4 c4, .slice a5 m5 c5]
 have hZ3 := Nat.lt_of_lt_of_le HZ2.out (below_puts_base (g := w.heap.size) (o := 0) (Below.refl 0 w2) (Nat.zero_le _) [.slice a0 m0 c0, .slice a1 m1 c1, .slice a2 m2 c2, .slice a3 m3 c3, .slice a4 m4 c4, .slice a5 m5 c5]).size
 generalize w2.setCells w.heap.size 0 [.slice a0 m0 c0, .slice a1 m1 c1, .slice a2 m2 c2, .slice a3 m3 c3, .slice a4 m4 c4, .slice a5 m5 c5] = w3 at *
 clear f0 f1 f2 f3 f4 f5 P0 P1 P2 P3 P4 P5 HB2 HT2 HZ2
 have HP3 := Lib.hid hP3
 have HB3 := Lib.hid hB3
 have HZ3 := Lib.hid hZ3
 clear hP3 hB3 hZ3
 have kf := KFEW.out w3 HB3.out
 clear KFEW HA
 go_wp2_with fail
 refine kf.mono ?_
 rintro e w4 ⟨u1, u2, L, rfl, hb4, hO, hD, hmap⟩
 have h10 : L.length ≤ 10 := by
  have := congrArg List.length hmap
  rw [List.length_map, List.length_map, List.length_take] at this
  omega
 have H12 : Hid (∀ y ∈ L, y.1.fl.length ≤ 12) := Lib.hid (fun y hy => by
  have hm : y.1 ∈ (l.take 10).map (fun p => cutA p.1) := hmap ▸ List.mem_map_of_mem hy
  obtain ⟨z, _, hz⟩ := List.mem_map.1 hm
  rw [← hz]
  exact List.length_take_le _ _)
 obtain ⟨oa, oc, rfl, hoc, hor⟩ := RdAt.shape hO.row
 obtain ⟨da, dc, rfl, hdc, _⟩ := RdAt.shape hD.row
 have HB4 := Lib.hid (HB3.out.trans (hb4.mono HB3.out.size))
 have HP4 := Lib.hid (HP3.out.later hb4 HZ3.out)
 have HZ4 := Lib.hid (Nat.lt_of_lt_of_le HZ3.out hb4.size)
 have HX4 := Lib.hid (HX3.out.later hb4)
 clear HX3
 have HO4 := Lib.hid hO
 have HD4 := Lib.hid hD
 clear kf hb4 hO hD hmap hor HB3 HP3 HZ3
 obtain ⟨W4, hW4⟩ : ∃ z, w4.alloc (.cells #[.string xsrc, .slice xa xfl.length xcap, .int .i64 xlv, .int .u32 xc, .int .i64 xfr, .int .i64 xtil] 58) = z := ⟨_, rfl⟩
 have hr4 := row6 w4 (.string xsrc) (.slice xa xfl.length xcap) (.int .i64 xlv) (.int .u32 xc) (.int .i64 xfr) (.int .i64 xtil) 58
 have hb4' := alloc_below w4 (.cells #[.string xsrc, .slice xa xfl.length xcap, .int .i64 xlv, .int .u32 xc, .int .i64 xfr, .int .i64 xtil] 58)
 rw [hW4] at hr4 hb4'
 have hE : AlsAt W4 (.slice (some ⟨w4.heap.size, 0, none⟩) 1 1) [(⟨xsrc, xfl, xlv, xc, xfr, xtil⟩, .slice xa xfl.length xcap)] := ⟨hr4, fun p hp => by rw [List.mem_singleton.1 hp]; exact ⟨(hxf.later HB4.out).later hb4', hxfit⟩⟩
 have ke := few13_any _ _ W4 hE (by show 1 ≤ maxLen; decide)
 have HB4' := Lib.hid hb4'
 have x0 := HX4.out.get 0 _ rfl
 have x1 := HX4.out.get 1 _ rfl
 have x2 := HX4.out.get 2 _ rfl
 have x3 := HX4.out.get 3 _ rfl
 have x4 := HX4.out.get 4 _ rfl
 have x5 := HX4.out.get 5 _ rfl
 clear hr4 hE hb4' hxf hxfit
 go_wp2_with fail
 refine ke.mono ?_
 rintro e w5 ⟨e1, e2, LE, rfl, hb5, hE1, _, hmapE⟩
 have hle1 : LE.length = 1 := by
  have := congrArg List.length hmapE
  simpa using this
 obtain ⟨xe, rfl⟩ := List.length_eq_one_iff.1 hle1
 have hxe12 : xe.1.fl.length ≤ 12 := by
  have h1 : xe.1 = cutA ⟨xsrc, xfl, xlv, xc, xfr, xtil⟩ := by simpa using hmapE
  rw [h1]
  exact List.length_take_le _ _
 have hb45 := HB4'.out.trans (hb5.mono HB4'.out.size)
 have HB5 := Lib.hid (HB4.out.trans (hb45.mono HB4.out.size))
 have HP5 := Lib.hid (HP4.out.later hb45 HZ4.out)
 have HZ5 := Lib.hid (Nat.lt_of_lt_of_le HZ4.out hb45.size)
 have HO5 := Lib.hid (HO4.out.later hb45)
 have HE5 := Lib.hid hE1
 obtain ⟨ea, ec, rfl, _, her⟩ := RdAt.shape hE1.row
 obtain ⟨be, oe, hea, _, _⟩ := her (by show 0 < 1; decide)
 subst hea
 clear x0 x1 x2 x3 x4 x5 ke hb5 hE1 hmapE hle1 hb45 HB4' HB4 HP4 HZ4 HO4 HD4 HX4 her hW4
 go_upto_region 7 with fail
 change Code.wp _ _ _ _ (w5.alloc (.cells #[.int .i64 3, .int .u32 3] 36))
 obtain ⟨s6, b6, c6'⟩ := alloc_facts w5 [.int .i64 3, .int .u32 3] 36 _ rfl
 generalize hw6 : w5.alloc (.cells [.int .i64 3, .int .u32 3].toArray 36) = w6 at *
 clear hw6
 have HB6 := Lib.hid (HB5.out.trans (b6.mono HB5.out.size))
 have HP6 := Lib.hid (HP5.out.later b6 HZ5.out)
 have HO6 := Lib.hid (HO5.out.later b6)
 have HE6 := Lib.hid (HE5.out.later b6)
 have HT6 := Lib.hid (And.intro (c6' 0 _ rfl) (c6' 1 _ rfl))
 have hgl : w5.heap.size < w6.heap.size := by omega
 have hgw : w.heap.size < w6.heap.size := by have := HZ5.out; omega
 generalize w5.heap.size = gl at *
 clear b6 c6' HB5 HP5 HO5 HE5 s6
 obtain ⟨q0, q1, q2, q3, q4, q5⟩ := HP6.out
 obtain ⟨t0, t1⟩ := HT6.out
 obtain ⟨ea', ec', hsh, _, her⟩ := RdAt.shape HE6.out.row
 obtain ⟨be', oe', hb, hbl, hcell⟩ := her (by show 0 < 1; decide)
 simp only [Value.slice.injEq] at hsh
 obtain ⟨hsh1, _, hsh3⟩ := hsh
 subst hsh1
 subst hsh3
 simp only [Option.some.injEq, Addr.mk.injEq, and_true] at hb
 obtain ⟨rfl, rfl⟩ := hb
 have p0 := hcell 0 _ rfl
 have p1 := hcell 1 _ rfl
 have p2 := hcell 2 _ rfl
 have p3 := hcell 3 _ rfl
 have p4 := hcell 4 _ rfl
 have p5 := hcell 5 _ rfl
 rw [Nat.add_zero] at p0
 obtain ⟨hfk, hfit⟩ := HE6.out.fld xe (List.mem_singleton.2 rfl)
 have HBE := Lib.hid (fun (h : cutOk q.ra xe.1.fl (xe.1.lv, xe.1.c) (3, 3) = false) (hq : ∀ k : Nat, k < L.length → quietK q L (k : Int) (3, 3) 20 = quietK q (L ++ [xe]) (k : Int) (3, 3) 20) => left_beside (p := q) (l := L) (a := xe) (t := (3, 3)) (now := 20) h hq)
 obtain ⟨⟨src, fl, alv, ac, fr, til⟩, fv⟩ := xe
 dsimp only at *
 obtain ⟨fa, fc, rfl, hfc, _⟩ := RdAt.shape hfk
 obtain ⟨m, hm⟩ : ∃ m, cutAl q.ra ⟨src, fl, alv, ac, fr, til⟩ (3, 3) = m := ⟨_, rfl⟩
 obtain ⟨ok, hok⟩ : ∃ z, cutOk q.ra fl (alv, ac) (3, 3) = z := ⟨_, rfl⟩
 have CM := Lib.hid (fun W (h : Below w6.heap.size w6 W) => KCT.out ⟨src, fl, alv, ac, fr, til⟩ m ok fa fc 3 3 W (HB6.out.trans (h.mono HB6.out.size)) (hfk.later h) hxe12 hok hm)
 obtain ⟨us, uL, ql, qc, uf, ut⟩ := m
 dsimp only at CM
 rw [hok] at HBE
 have ltq : w.heap.size < w6.heap.size := hgw
 have ltt : gl < w6.heap.size := hgl
 have ltb : be < w6.heap.size := hbl
 clear hm hok hfk hcell her hbl
 go_cut [12, 13] (fun s12 s13 wx => s13 = .bool ok ∧ Below w6.heap.size w6 wx)
 case first =>
  refine wp_region_held_drew (S := (fun W => W.cell? ⟨w.heap.size, 0, none⟩ = some (.slice a0 m0 c0) ∧ W.cell? ⟨w.heap.size, 1, none⟩ = some (.slice a1 m1 c1) ∧ W.cell? ⟨w.heap.size, 2, none⟩ = some (.slice a2 m2 c2) ∧ W.cell? ⟨w.heap.size, 3, none⟩ = some (.slice a3 m3 c3) ∧ W.cell? ⟨w.heap.size, 4, none⟩ = some (.slice a4 m4 c4) ∧ W.cell? ⟨w.heap.size, 5, none⟩ = some (.slice a5 m5 c5) ∧ W.cell? ⟨gl, 0, none⟩ = some (.int .i64 3) ∧ W.cell? ⟨gl, 1, none⟩ = some (.int .u32 3) ∧ W.cell? ⟨be, oe, none⟩ = some (.string src) ∧ W.cell? ⟨be, oe + 1, none⟩ = some (.slice fa fl.length fc) ∧ W.cell? ⟨be, oe + 2, none⟩ = some (.int .i64 alv) ∧ W.cell? ⟨be, oe + 3, none⟩ = some (.int .u32 ac) ∧ W.cell? ⟨be, oe + 4, none⟩ = some (.int .i64 fr) ∧ W.cell? ⟨be, oe + 5, none⟩ = some (.int .i64 til))) (by kernel_rfl) ⟨q0, q1, q2, q3, q4, q5, t0, t1, p0, p1, p2, p3, p4, p5⟩ (fun hHeld => ?_)
  have hd : Below w6.heap.size w6 w6.drew := (Below.refl _ _).drew
  generalize w6.drew = wd at *
  refine hT (i := 0) (v := ?_) rfl rfl hHeld ?_ ?_
  rotate_left
  ·intro wh hz; iterate 13 obtain ⟨_, hz⟩ := hz
   go_simp
   (try with_reducible rfl)
  simp only [Act.put, List.setIfInBounds_toArray, List.set_cons_zero, List.set_cons_succ]
  refine hT (i := 1) (v := ?_) rfl rfl hHeld ?_ ?_
  rotate_left
  ·intro wh hz; iterate 13 obtain ⟨_, hz⟩ := hz
   go_simp
   (try with_reducible rfl)
  simp only [Act.put, List.setIfInBounds_toArray, List.set_cons_zero, List.set_cons_succ]
  refine hT (i := 2) (v := ?_) rfl rfl hHeld ?_ ?_
  rotate_left
  ·intro wh hz; iterate 13 obtain ⟨_, hz⟩ := hz
   go_simp
   (try with_reducible rfl)
  simp only [Act.put, List.setIfInBounds_toArray, List.set_cons_zero, List.set_cons_succ]
  refine hT (i := 3) (v := ?_) rfl rfl hHeld ?_ ?_
  rotate_left
  ·intro wh hz; iterate 13 obtain ⟨_, hz⟩ := hz
   go_simp
   (try with_reducible rfl)
  simp only [Act.put, List.setIfInBounds_toArray, List.set_cons_zero, List.set_cons_succ]
  refine hT (i := 4) (v := ?_) rfl rfl hHeld ?_ ?_
  rotate_left
  ·intro wh hz; iterate 13 obtain ⟨_, hz⟩ := hz
   go_simp
   (try with_reducible rfl)
  simp only [Act.put, List.setIfInBounds_toArray, List.set_cons_zero, List.set_cons_succ]
  refine held_two (i := 5) (j := 9) rfl rfl (by kernel_rfl) (fun K hK => ?_) (fun K hK => ?_)
  ·go_simp; go_at_call 20; refine (CM.out _ hd).mono ?_; rintro e w_1 ⟨ua, ud, rfl, hF_1, hO_1, hb_1⟩
   have hB_1 := hd.trans (hb_1.mono hd.size)
   refine hK.out _ _ ⟨keep_cell q0 hB_1 ltq, keep_cell q1 hB_1 ltq, keep_cell q2 hB_1 ltq, keep_cell q3 hB_1 ltq, keep_cell q4 hB_1 ltq, keep_cell q5 hB_1 ltq, keep_cell t0 hB_1 ltt, keep_cell t1 hB_1 ltt, keep_cell p0 hB_1 ltb, keep_cell p1 hB_1 ltb, keep_cell p2 hB_1 ltb, keep_cell p3 hB_1 ltb, keep_cell p4 hB_1 ltb, keep_cell p5 hB_1 ltb⟩ (fun hHeld => ?_)
   clear hK K
   (try simp only [Act.put, List.setIfInBounds_toArray, List.set_cons_zero, List.set_cons_succ])
   refine hT (i := 6) (v := ?_) rfl rfl hHeld ?_ ?_
   rotate_left
   ·intro wh hz; iterate 13 obtain ⟨_, hz⟩ := hz
    go_simp
    (try with_reducible rfl)
   simp only [Act.put, List.setIfInBounds_toArray, List.set_cons_zero, List.set_cons_succ]
   refine hT (i := 7) (v := ?_) rfl rfl hHeld ?_ ?_
   rotate_left
   ·intro wh hz; iterate 13 obtain ⟨_, hz⟩ := hz
    go_simp
    (try with_reducible rfl)
   simp only [Act.put, List.setIfInBounds_toArray, List.set_cons_zero, List.set_cons_succ]
   refine hT (i := 8) (v := ?_) rfl rfl hHeld ?_ ?_
   rotate_left
   ·intro wh hz; iterate 13 obtain ⟨_, hz⟩ := hz
    go_simp
    (try with_reducible rfl)
   simp only [Act.put, List.setIfInBounds_toArray, List.set_cons_zero, List.set_cons_succ]
   refine held_step (i := 9) rfl (by kernel_rfl) (fun K hK => ?_)
   have hb_2 := alloc_below w_1 (.cells #[.string ⟨#[]⟩, .slice none 0 0, .int .i64 0, .int .u32 0, .int .i64 0, .int .i64 0] 54)
   have hT_2 := box_there (Below.refl (w_1.alloc (.cells #[.string ⟨#[]⟩, .slice none 0 0, .int .i64 0, .int .u32 0, .int .i64 0, .int .i64 0] 54)).heap.size (w_1.alloc (.cells #[.string ⟨#[]⟩, .slice none 0 0, .int .i64 0, .int .u32 0, .int .i64 0, .int .i64 0] 54)))
   have hL_2 : w_1.heap.size < (w_1.alloc (.cells #[.string ⟨#[]⟩, .slice none 0 0, .int .i64 0, .int .u32 0, .int .i64 0, .int .i64 0] 54)).heap.size := by rw [World.size_alloc]; omega
   have hG_2 := hB_1.size
   have hB_2 := hB_1.trans (hb_2.mono hB_1.size)
   go_simp
   refine hK.out _ _ ⟨keep_cell q0 hB_2 ltq, keep_cell q1 hB_2 ltq, keep_cell q2 hB_2 ltq, keep_cell q3 hB_2 ltq, keep_cell q4 hB_2 ltq, keep_cell q5 hB_2 ltq, keep_cell t0 hB_2 ltt, keep_cell t1 hB_2 ltt, keep_cell p0 hB_2 ltb, keep_cell p1 hB_2 ltb, keep_cell p2 hB_2 ltb, keep_cell p3 hB_2 ltb, keep_cell p4 hB_2 ltb, keep_cell p5 hB_2 ltb⟩ (fun hHeld => ?_)
   clear hK K
   (try simp only [Act.put, List.setIfInBounds_toArray, List.set_cons_zero, List.set_cons_succ])
   generalize w_1.alloc (.cells #[.string ⟨#[]⟩, .slice none 0 0, .int .i64 0, .int .u32 0, .int .i64 0, .int .i64 0] 54) = w_2 at *
   have rv_0 := there_free hT_2 0 (by decide)
   have rv_1 := there_free hT_2 1 (by decide)
   have rv_2 := there_free hT_2 2 (by decide)
   have rv_3 := there_free hT_2 3 (by decide)
   have rv_4 := there_free hT_2 4 (by decide)
   have rv_5 := there_free hT_2 5 (by decide)
   obtain ⟨yv_0, hyv_0⟩ := there_cell hT_2 0 (by decide)
   obtain ⟨yv_1, hyv_1⟩ := there_cell hT_2 1 (by decide)
   obtain ⟨yv_2, hyv_2⟩ := there_cell hT_2 2 (by decide)
   obtain ⟨yv_3, hyv_3⟩ := there_cell hT_2 3 (by decide)
   obtain ⟨yv_4, hyv_4⟩ := there_cell hT_2 4 (by decide)
   obtain ⟨yv_5, hyv_5⟩ := there_cell hT_2 5 (by decide)
   have HB_3 : Hid (Below w6.heap.size w6 (w_2.setCells w_1.heap.size 0 [.string us, .slice ua uL.length ud, .int .i64 ql, .int .u32 qc, .int .i64 uf, .int .i64 ut])) := Lib.hid (below_puts (g := w_1.heap.size) (o := 0) hB_2 hG_2 [.string us, .slice ua uL.length ud, .int .i64 ql, .int .u32 qc, .int .i64 uf, .int .i64 ut])
   refine held_step (i := 10) rfl (by kernel_rfl) (fun K hK => ?_)
   go_simp
   refine hK.out _ (w_2.setCells w_1.heap.size 0 [.string us, .slice ua uL.length ud, .int .i64 ql, .int .u32 qc, .int .i64 uf, .int .i64 ut]) ⟨keep_cell q0 HB_3.out ltq, keep_cell q1 HB_3.out ltq, keep_cell q2 HB_3.out ltq, keep_cell q3 HB_3.out ltq, keep_cell q4 HB_3.out ltq, keep_cell q5 HB_3.out ltq, keep_cell t0 HB_3.out ltt, keep_cell t1 HB_3.out ltt, keep_cell p0 HB_3.out ltb, keep_cell p1 HB_3.out ltb, keep_cell p2 HB_3.out ltb, keep_cell p3 HB_3.out ltb, keep_cell p4 HB_3.out ltb, keep_cell p5 HB_3.out ltb⟩ (fun hHeld => ?_)
   clear hK K
   (try simp only [Act.put, List.setIfInBounds_toArray, List.set_cons_zero, List.set_cons_succ])
   generalize (w_2.setCells w_1.heap.size 0 [.string us, .slice ua uL.length ud, .int .i64 ql, .int .u32 qc, .int .i64 uf, .int .i64 ut]) = w_3 at *
   refine hT (i := 11) (v := ?_) rfl rfl hHeld ?_ ?_
   rotate_left
   ·intro wh hz; iterate 13 obtain ⟨_, hz⟩ := hz
    go_simp
    (try with_reducible rfl)
   simp only [Act.put, List.setIfInBounds_toArray, List.set_cons_zero, List.set_cons_succ]
   refine wpAnyH_done (by kernel_rfl) ?_ _
   go_wp2
   go_meet
   exact ⟨rfl, HB_3.out⟩
  ·have hb_4 := alloc_below wd (.cells #[.string ⟨#[]⟩, .slice none 0 0, .int .i64 0, .int .u32 0, .int .i64 0, .int .i64 0] 54)
   have hT_4 := box_there (Below.refl (wd.alloc (.cells #[.string ⟨#[]⟩, .slice none 0 0, .int .i64 0, .int .u32 0, .int .i64 0, .int .i64 0] 54)).heap.size (wd.alloc (.cells #[.string ⟨#[]⟩, .slice none 0 0, .int .i64 0, .int .u32 0, .int .i64 0, .int .i64 0] 54)))
   have hL_4 : wd.heap.size < (wd.alloc (.cells #[.string ⟨#[]⟩, .slice none 0 0, .int .i64 0, .int .u32 0, .int .i64 0, .int .i64 0] 54)).heap.size := by rw [World.size_alloc]; omega
   have hG_4 := hd.size
   have hB_4 := hd.trans (hb_4.mono hd.size)
   go_simp
   refine hK.out _ _ ⟨keep_cell q0 hB_4 ltq, keep_cell q1 hB_4 ltq, keep_cell q2 hB_4 ltq, keep_cell q3 hB_4 ltq, keep_cell q4 hB_4 ltq, keep_cell q5 hB_4 ltq, keep_cell t0 hB_4 ltt, keep_cell t1 hB_4 ltt, keep_cell p0 hB_4 ltb, keep_cell p1 hB_4 ltb, keep_cell p2 hB_4 ltb, keep_cell p3 hB_4 ltb, keep_cell p4 hB_4 ltb, keep_cell p5 hB_4 ltb⟩ (fun hHeld => ?_)
   clear hK K
   (try simp only [Act.put, List.setIfInBounds_toArray, List.set_cons_zero, List.set_cons_succ])
   generalize wd.alloc (.cells #[.string ⟨#[]⟩, .slice none 0 0, .int .i64 0, .int .u32 0, .int .i64 0, .int .i64 0] 54) = w_4 at *
   refine held_step (i := 5) rfl (by kernel_rfl) (fun K hK => ?_)
   go_simp; go_at_call 20; refine (CM.out _ hB_4).mono ?_; rintro e w_5 ⟨ua, ud, rfl, hF_5, hO_5, hb_5⟩
   have hB_5 := hB_4.trans (hb_5.mono hB_4.size)
   have hTA_5 := there_later hT_4 hb_5 hL_4
   have hLA_5 := Nat.lt_of_lt_of_le hL_4 hb_5.size
   refine hK.out _ _ ⟨keep_cell q0 hB_5 ltq, keep_cell q1 hB_5 ltq, keep_cell q2 hB_5 ltq, keep_cell q3 hB_5 ltq, keep_cell q4 hB_5 ltq, keep_cell q5 hB_5 ltq, keep_cell t0 hB_5 ltt, keep_cell t1 hB_5 ltt, keep_cell p0 hB_5 ltb, keep_cell p1 hB_5 ltb, keep_cell p2 hB_5 ltb, keep_cell p3 hB_5 ltb, keep_cell p4 hB_5 ltb, keep_cell p5 hB_5 ltb⟩ (fun hHeld => ?_)
   clear hK K
   (try simp only [Act.put, List.setIfInBounds_toArray, List.set_cons_zero, List.set_cons_succ])
   refine hT (i := 6) (v := ?_) rfl rfl hHeld ?_ ?_
   rotate_left
   ·intro wh hz; iterate 13 obtain ⟨_, hz⟩ := hz
    go_simp
    (try with_reducible rfl)
   simp only [Act.put, List.setIfInBounds_toArray, List.set_cons_zero, List.set_cons_succ]
   refine hT (i := 7) (v := ?_) rfl rfl hHeld ?_ ?_
   rotate_left
   ·intro wh hz; iterate 13 obtain ⟨_, hz⟩ := hz
    go_simp
    (try with_reducible rfl)
   simp only [Act.put, List.setIfInBounds_toArray, List.set_cons_zero, List.set_cons_succ]
   refine hT (i := 8) (v := ?_) rfl rfl hHeld ?_ ?_
   rotate_left
   ·intro wh hz; iterate 13 obtain ⟨_, hz⟩ := hz
    go_simp
    (try with_reducible rfl)
   simp only [Act.put, List.setIfInBounds_toArray, List.set_cons_zero, List.set_cons_succ]
   have rv_0 := there_free hTA_5 0 (by decide)
   have rv_1 := there_free hTA_5 1 (by decide)
   have rv_2 := there_free hTA_5 2 (by decide)
   have rv_3 := there_free hTA_5 3 (by decide)
   have rv_4 := there_free hTA_5 4 (by decide)
   have rv_5 := there_free hTA_5 5 (by decide)
   obtain ⟨yv_0, hyv_0⟩ := there_cell hTA_5 0 (by decide)
   obtain ⟨yv_1, hyv_1⟩ := there_cell hTA_5 1 (by decide)
   obtain ⟨yv_2, hyv_2⟩ := there_cell hTA_5 2 (by decide)
   obtain ⟨yv_3, hyv_3⟩ := there_cell hTA_5 3 (by decide)
   obtain ⟨yv_4, hyv_4⟩ := there_cell hTA_5 4 (by decide)
   obtain ⟨yv_5, hyv_5⟩ := there_cell hTA_5 5 (by decide)
   have HB_6 : Hid (Below w6.heap.size w6 (w_5.setCells wd.heap.size 0 [.string us, .slice ua uL.length ud, .int .i64 ql, .int .u32 qc, .int .i64 uf, .int .i64 ut])) := Lib.hid (below_puts (g := wd.heap.size) (o := 0) hB_5 hG_4 [.string us, .slice ua uL.length ud, .int .i64 ql, .int .u32 qc, .int .i64 uf, .int .i64 ut])
   refine held_step (i := 10) rfl (by kernel_rfl) (fun K hK => ?_)
   go_simp
   refine hK.out _ (w_5.setCells wd.heap.size 0 [.string us, .slice ua uL.length ud, .int .i64 ql, .int .u32 qc, .int .i64 uf, .int .i64 ut]) ⟨keep_cell q0 HB_6.out ltq, keep_cell q1 HB_6.out ltq, keep_cell q2 HB_6.out ltq, keep_cell q3 HB_6.out ltq, keep_cell q4 HB_6.out ltq, keep_cell q5 HB_6.out ltq, keep_cell t0 HB_6.out ltt, keep_cell t1 HB_6.out ltt, keep_cell p0 HB_6.out ltb, keep_cell p1 HB_6.out ltb, keep_cell p2 HB_6.out ltb, keep_cell p3 HB_6.out ltb, keep_cell p4 HB_6.out ltb, keep_cell p5 HB_6.out ltb⟩ (fun hHeld => ?_)
   clear hK K
   (try simp only [Act.put, List.setIfInBounds_toArray, List.set_cons_zero, List.set_cons_succ])
   generalize (w_5.setCells wd.heap.size 0 [.string us, .slice ua uL.length ud, .int .i64 ql, .int .u32 qc, .int .i64 uf, .int .i64 ut]) = w_6 at *
   refine hT (i := 11) (v := ?_) rfl rfl hHeld ?_ ?_
   rotate_left
   ·intro wh hz; iterate 13 obtain ⟨_, hz⟩ := hz
    go_simp
    (try with_reducible rfl)
   simp only [Act.put, List.setIfInBounds_toArray, List.set_cons_zero, List.set_cons_succ]
   refine wpAnyH_done (by kernel_rfl) ?_ _
   go_wp2
   go_meet
   exact ⟨rfl, HB_6.out⟩
 case rest =>
  obtain ⟨rfl, hbu⟩ := hcut
  obtain ⟨v7, hv7⟩ : ∃ z, z = wc := ⟨_, rfl⟩
  subst hv7
  have HB7 := Lib.hid (HB6.out.trans (hbu.mono HB6.out.size))
  cases ok
  ·have HP7 := Lib.hid (HP6.out.later hbu hgw)
   have HO7 := Lib.hid (HO6.out.later hbu)
   have HE7 := Lib.hid (HE6.out.later hbu)
   have HT7 := Lib.hid (And.intro (keep_cell HT6.out.1 hbu hgl) (keep_cell HT6.out.2 hbu hgl))
   have hgl7 : gl < v7.heap.size := Nat.lt_of_lt_of_le hgl hbu.size
   have hgw7 : w.heap.size < v7.heap.size := Nat.lt_of_lt_of_le hgw hbu.size
   have SK : Hid (∀ W', Below v7.heap.size v7 W' → W'.cell? ⟨be, oe, none⟩ = some (.string src) ∧ W'.cell? ⟨be, oe + 1, none⟩ = some (.slice fa fl.length fc) ∧ W'.cell? ⟨be, oe + 2, none⟩ = some (.int .i64 alv) ∧ W'.cell? ⟨be, oe + 3, none⟩ = some (.int .u32 ac) ∧ W'.cell? ⟨be, oe + 4, none⟩ = some (.int .i64 fr) ∧ W'.cell? ⟨be, oe + 5, none⟩ = some (.int .i64 til)) := Lib.hid (fun W' h => by
    have h' := hbu.trans (h.mono hbu.size)
    exact ⟨keep_cell p0 h' ltb, keep_cell p1 h' ltb, keep_cell p2 h' ltb, keep_cell p3 h' ltb, keep_cell p4 h' ltb, keep_cell p5 h' ltb⟩)
   have HLC : Hid (∀ y ∈ alCells L, y.oneCell' = true) := Lib.hid (alC_cells L (fun p hp => by
    obtain ⟨_, _, e, _⟩ := RdAt.shape (HO6.out.fld p hp).1
    rw [e]; rfl))
   have hro := HO7.out.row
   have h1s := all6 (a := .string src) (b := .slice fa fl.length fc) (c := .int .i64 alv) (d := .int .u32 ac) (e := .int .i64 fr) (f := .int .i64 til) rfl rfl rfl rfl rfl rfl
   obtain ⟨i0, hi, hz0, hz1, hz2⟩ := info_parts info_al
   clear q0 q1 q2 q3 q4 q5 t0 t1 p0 p1 p2 p3 p4 p5 ltq ltt ltb hbu CM HB6 HP6 HO6 HE6 HT6 hgl hgw
   go_upto_region 10 with fail
   go_cut [14] (fun s14 wx => wx.ownsRow v7.heap.size 54 6 s14 (0 + L.length + 1) (([] ++ alCells L) ++ [.string src, .slice fa fl.length fc, .int .i64 alv, .int .u32 ac, .int .i64 fr, .int .i64 til]) ∧ Below v7.heap.size v7 wx)
   case first =>
    go_region_held_law (fun W' => W'.cell? ⟨be, oe, none⟩ = some (.string src) ∧ W'.cell? ⟨be, oe + 1, none⟩ = some (.slice fa fl.length fc) ∧ W'.cell? ⟨be, oe + 2, none⟩ = some (.int .i64 alv) ∧ W'.cell? ⟨be, oe + 3, none⟩ = some (.int .u32 ac) ∧ W'.cell? ⟨be, oe + 4, none⟩ = some (.int .i64 fr) ∧ W'.cell? ⟨be, oe + 5, none⟩ = some (.int .i64 til)) (first | exact SK.out _ ((Below.refl v7.heap.size v7).drew) | exact SK.out _ (((Below.refl v7.heap.size v7).drew).alloc (Nat.le_refl _) _) | exact SK.out _ hb2 | exact SK.out _ hb1 | exact SK.out _ (hb1.alloc hb1.size _))
     (first
      | (refine step_append_rd (by rfl) (.const (.slice none 0 0)) (.tmp 42) _ (by rfl) v7.heap.size 54 i0 (.agg #[.string ⟨#[]⟩, .slice none 0 0, .int .i64 0, .int .u32 0, .int .i64 0, .int .i64 0]) 6 72 Tryz.underlying31 hi hz0 hz1 hz2 rfl (by decide) _ 0 [] (by rfl) (by exact World.ownsRow_nil _ _ _ _) _ L.length (alCells L) (by rfl) (by first | exact hro.later ((Below.refl v7.heap.size v7).drew) | exact hro.later (((Below.refl v7.heap.size v7).drew).alloc (Nat.le_refl _) _)) HLC.out (by unfold maxLen; omega) (by omega) (by simp) ?_; intro v1 w1' hown1 hgrow1 _; have hb1 : Below v7.heap.size v7 w1' := by first | exact ((Below.refl v7.heap.size v7).drew).grown hgrow1 (by simp) (fun m hm => by cases hm) | exact (((Below.refl v7.heap.size v7).drew).alloc (Nat.le_refl _) _).grown hgrow1 (by simp) (fun m hm => by cases hm))
      | (refine step_append_rd (by rfl) (.tmp 43) (.tmp 47) _ (by rfl) v7.heap.size 54 i0 (.agg #[.string ⟨#[]⟩, .slice none 0 0, .int .i64 0, .int .u32 0, .int .i64 0, .int .i64 0]) 6 72 Tryz.underlying31 hi hz0 hz1 hz2 rfl (by decide) _ _ _ (by rfl) (by first | exact hown1 | exact own_later hown1 ((Below.refl _ _).alloc (Nat.le_refl _) _)) _ 1 [.string src, .slice fa fl.length fc, .int .i64 alv, .int .u32 ac, .int .i64 fr, .int .i64 til] (by rfl) (by first | exact row6 w1' _ _ _ _ _ _ _ | exact RdAt.later (w := v7.drew.alloc (.cells #[.string src, .slice fa fl.length fc, .int .i64 alv, .int .u32 ac, .int .i64 fr, .int .i64 til] 54)) (row6 v7.drew _ _ _ _ _ _ _) (below_of_grown hgrow1 (fun k hk => by cases hk))) h1s (by unfold maxLen; omega) (by omega) (by first | exact hb1.size | exact Nat.le_trans hb1.size (by simp)) ?_; intro v2 w2' hown2 hgrow2 _; have hb2 : Below v7.heap.size v7 w2' := by first | exact hb1.grown hgrow2 hb1.size (fun m hm => (hown1.lt m hm).1) | exact (hb1.alloc hb1.size _).grown hgrow2 (Nat.le_trans hb1.size (by simp)) (fun m hm => (hown1.lt m hm).1)))
    all_goals (
     go_wp2
     go_meet
     exact ⟨hown2, hb2⟩)
   case rest =>
    obtain ⟨hown2, hb2⟩ := hcut
    have hB8 := HB7.out.trans (hb2.mono HB7.out.size)
    have HP8 := Lib.hid (HP7.out.later hb2 hgw7)
    have HO8 := Lib.hid (HO7.out.later hb2)
    have HT8 := Lib.hid (And.intro (keep_cell HT7.out.1 hb2 hgl7) (keep_cell HT7.out.2 hb2 hgl7))
    have hgl8 : gl < wc.heap.size := Nat.lt_of_lt_of_le hgl7 hb2.size
    have hgw8 : w.heap.size < wc.heap.size := Nat.lt_of_lt_of_le hgw7 hb2.size
    have hW8 : AlsAt wc u14 (L ++ [(⟨src, fl, alv, ac, fr, til⟩, .slice fa fl.length fc)]) := ⟨by
     have h := RdAt.own hown2
     rw [List.length_append, alC_snoc]
     simpa [alC] using h, fun p hp => by
     rcases List.mem_append.1 hp with h | h
     ·exact HO8.out.fld p h
     ·rw [List.mem_singleton.1 h]
      exact ((HE7.out.later hb2).fld _ (List.mem_singleton.2 rfl))⟩
    have hWl : (L ++ [((⟨src, fl, alv, ac, fr, til⟩ : Al), Value.slice fa fl.length fc)]).length ≤ L.length + 1 := by simp
    have HW12 : Hid (∀ y ∈ L ++ [((⟨src, fl, alv, ac, fr, til⟩ : Al), Value.slice fa fl.length fc)], y.1.fl.length ≤ 12) := Lib.hid (fun y hy => by
     rcases List.mem_append.1 hy with h | h
     ·exact H12.out y h
     ·rw [List.mem_singleton.1 h]; exact hxe12)
    have HBE2 := Lib.hid (HBE.out rfl)
    have HB8 := Lib.hid hB8
    generalize L ++ [((⟨src, fl, alv, ac, fr, til⟩ : Al), Value.slice fa fl.length fc)] = M at *
    have HW8 := Lib.hid hW8
    obtain ⟨va', vc', rfl, _, _⟩ := RdAt.shape hW8.row
    have KL1 := Lib.hid (fun W (h : Below wc.heap.size wc W) => KLF.out L _ 3 3 20 W (HB8.out.trans (h.mono HB8.out.size)) (HO8.out.later h) (by omega) H12.out)
    have KL2 := Lib.hid (fun W (h : Below wc.heap.size wc W) => KLF.out M _ 3 3 20 W (HB8.out.trans (h.mono HB8.out.size)) (HW8.out.later h) (by omega) HW12.out)
    have KQ1 := Lib.hid (fun k W (h : Below wc.heap.size wc W) => KQT.out L _ k 3 3 20 W (HB8.out.trans (h.mono HB8.out.size)) (HO8.out.later h) (by unfold maxLen; omega))
    have KQ2 := Lib.hid (fun k W (h : Below wc.heap.size wc W) => KQT.out M _ k 3 3 20 W (HB8.out.trans (h.mono HB8.out.size)) (HW8.out.later h) (by unfold maxLen; omega))
    have hm14 := H14.out
    have HQL1 := Lib.hid (fun k => Nat.le_trans (quietK_len q L k (3, 3) 20) hm14)
    have HQL2 := Lib.hid (fun k => Nat.le_trans (quietK_len q M k (3, 3) 20) hm14)
    have hll1 := left_len q L (3, 3) 20
    have hll2 := left_len q M (3, 3) 20
    clear hown2 hb2 hB8 hW8 HP7 HO7 HE7 HT7 hgl7 hgw7 HB7 HBE hro h1s HLC SK
    go_wp2
    go_loopw [15] (fun i wr => ∃ (n : Nat), i = .int .i64 n ∧ n ≤ L.length ∧ Hid (∀ k : Nat, k < n → quietK q L (k : Int) (3, 3) 20 = quietK q M (k : Int) (3, 3) 20) ∧ Hid (Below wc.heap.size wc wr)) (fun i _ => L.length - (intOf i).toNat)
    case atStart => exact ⟨0, rfl, Nat.zero_le _, Lib.hid (fun k h => absurd h (Nat.not_lt_zero k)), Lib.hid (Below.refl _ _)⟩
    case round =>
     obtain ⟨n, rfl, hn, HN, HB⟩ := hrel
     obtain ⟨q0, q1, q2, q3, q4, q5⟩ := HP8.out.later HB.out hgw8
     have t0 := keep_cell HT8.out.1 HB.out hgl8
     have t1 := keep_cell HT8.out.2 HB.out hgl8
     have ltq : w.heap.size < wr.heap.size := Nat.lt_of_lt_of_le hgw8 HB.out.size
     have ltt : gl < wr.heap.size := Nat.lt_of_lt_of_le hgl8 HB.out.size
     by_cases hnl : n < L.length
     ·have KQ1n := Lib.hid (fun W (h : Below wr.heap.size wr W) => KQ1.out (n : Int) W (HB.out.trans (h.mono HB.out.size)))
      have KQ2n := Lib.hid (fun W (h : Below wr.heap.size wr W) => KQ2.out (n : Int) W (HB.out.trans (h.mono HB.out.size)))
      have hl1 := HQL1.out (n : Int)
      have hl2 := HQL2.out (n : Int)
      have HNX : Hid (quietK q L (n : Int) (3, 3) 20 = quietK q M (n : Int) (3, 3) 20 → ∀ k : Nat, k < n + 1 → quietK q L (k : Int) (3, 3) 20 = quietK q M (k : Int) (3, 3) 20) := Lib.hid (fun he k hk => by
       rcases Nat.lt_or_ge k n with h1 | h1
       ·exact HN.out k h1
       ·obtain rfl : k = n := by omega
        exact he)
      generalize quietK q L (n : Int) (3, 3) 20 = A at *
      generalize quietK q M (n : Int) (3, 3) 20 = C at *
      go_upto_region 14 with fail
      refine wp_region_held_drew (S := (fun W => W.cell? ⟨w.heap.size, 0, none⟩ = some (.slice a0 m0 c0) ∧ W.cell? ⟨w.heap.size, 1, none⟩ = some (.slice a1 m1 c1) ∧ W.cell? ⟨w.heap.size, 2, none⟩ = some (.slice a2 m2 c2) ∧ W.cell? ⟨w.heap.size, 3, none⟩ = some (.slice a3 m3 c3) ∧ W.cell? ⟨w.heap.size, 4, none⟩ = some (.slice a4 m4 c4) ∧ W.cell? ⟨w.heap.size, 5, none⟩ = some (.slice a5 m5 c5) ∧ W.cell? ⟨gl, 0, none⟩ = some (.int .i64 3) ∧ W.cell? ⟨gl, 1, none⟩ = some (.int .u32 3))) (by kernel_rfl) ⟨q0, q1, q2, q3, q4, q5, t0, t1⟩ (fun hHeld => ?_)
      have hd : Below wr.heap.size wr wr.drew := (Below.refl _ _).drew
      refine hT (i := 0) (v := ?_) rfl rfl hHeld ?_ ?_
      rotate_left
      ·rintro wh ⟨z_0, z_1, z_2, z_3, z_4, z_5, z_6, z_7⟩
       go_simp
       (try with_reducible rfl)
      simp only [Act.put, List.setIfInBounds_toArray, List.set_cons_zero, List.set_cons_succ]
      refine hT (i := 1) (v := ?_) rfl rfl hHeld ?_ ?_
      rotate_left
      ·rintro wh ⟨z_0, z_1, z_2, z_3, z_4, z_5, z_6, z_7⟩
       go_simp
       (try with_reducible rfl)
      simp only [Act.put, List.setIfInBounds_toArray, List.set_cons_zero, List.set_cons_succ]
      refine hT (i := 2) (v := ?_) rfl rfl hHeld ?_ ?_
      rotate_left
      ·rintro wh ⟨z_0, z_1, z_2, z_3, z_4, z_5, z_6, z_7⟩
       go_simp
       (try with_reducible rfl)
      simp only [Act.put, List.setIfInBounds_toArray, List.set_cons_zero, List.set_cons_succ]
      refine hT (i := 3) (v := ?_) rfl rfl hHeld ?_ ?_
      rotate_left
      ·rintro wh ⟨z_0, z_1, z_2, z_3, z_4, z_5, z_6, z_7⟩
       go_simp
       (try with_reducible rfl)
      simp only [Act.put, List.setIfInBounds_toArray, List.set_cons_zero, List.set_cons_succ]
      refine hT (i := 5) (v := ?_) rfl rfl hHeld ?_ ?_
      rotate_left
      ·rintro wh ⟨z_0, z_1, z_2, z_3, z_4, z_5, z_6, z_7⟩
       go_simp
       (try with_reducible rfl)
      simp only [Act.put, List.setIfInBounds_toArray, List.set_cons_zero, List.set_cons_succ]
      refine hT (i := 6) (v := ?_) rfl rfl hHeld ?_ ?_
      rotate_left
      ·rintro wh ⟨z_0, z_1, z_2, z_3, z_4, z_5, z_6, z_7⟩
       go_simp
       (try with_reducible rfl)
      simp only [Act.put, List.setIfInBounds_toArray, List.set_cons_zero, List.set_cons_succ]
      refine hT (i := 7) (v := ?_) rfl rfl hHeld ?_ ?_
      rotate_left
      ·rintro wh ⟨z_0, z_1, z_2, z_3, z_4, z_5, z_6, z_7⟩
       go_simp
       (try with_reducible rfl)
      simp only [Act.put, List.setIfInBounds_toArray, List.set_cons_zero, List.set_cons_succ]
      refine hT (i := 8) (v := ?_) rfl rfl hHeld ?_ ?_
      rotate_left
      ·rintro wh ⟨z_0, z_1, z_2, z_3, z_4, z_5, z_6, z_7⟩
       go_simp
       (try with_reducible rfl)
      simp only [Act.put, List.setIfInBounds_toArray, List.set_cons_zero, List.set_cons_succ]
      refine held_call (i := 4) rfl (by kernel_rfl) (by rfl) (fun K hK => ?_)
      (go_simp; go_at_call 13; refine (KQ1n.out _ hd).mono ?_; rintro e w5 ⟨rr5, rfl, hO5, hb5⟩; have hB5 := hd.trans (hb5.mono hd.size); have hI5 := RdAt.own hO5; obtain ⟨sa5, sc5, rfl, _, _⟩ := RdAt.shape hI5)
      refine hK.out _ _ ⟨keep_cell q0 hB5 ltq, keep_cell q1 hB5 ltq, keep_cell q2 hB5 ltq, keep_cell q3 hB5 ltq, keep_cell q4 hB5 ltq, keep_cell q5 hB5 ltq, keep_cell t0 hB5 ltt, keep_cell t1 hB5 ltt⟩ (fun hHeld => ?_)
      clear hK K
      (try simp only [Act.put, List.setIfInBounds_toArray, List.set_cons_zero, List.set_cons_succ])
      refine held_call (i := 9) rfl (by kernel_rfl) (by rfl) (fun K hK => ?_)
      (go_simp; go_at_call 13; refine (KQ2n.out _ hB5).mono ?_; rintro e w6 ⟨rr6, rfl, hO6, hb6⟩; have hB6 := hB5.trans (hb6.mono hB5.size); have hI6 := RdAt.own hO6; obtain ⟨sa6, sc6, rfl, _, _⟩ := RdAt.shape hI6)
      refine hK.out _ _ ⟨keep_cell q0 hB6 ltq, keep_cell q1 hB6 ltq, keep_cell q2 hB6 ltq, keep_cell q3 hB6 ltq, keep_cell q4 hB6 ltq, keep_cell q5 hB6 ltq, keep_cell t0 hB6 ltt, keep_cell t1 hB6 ltt⟩ (fun hHeld => ?_)
      clear hK K
      (try simp only [Act.put, List.setIfInBounds_toArray, List.set_cons_zero, List.set_cons_succ])
      refine held_call (i := 10) rfl (by kernel_rfl) (by rfl) (fun K hK => ?_)
      (go_simp; go_at_call 12; refine (same_ints A C _ _ _ (hI5.later hb6) hI6 (by omega) (by omega)).mono ?_; rintro e w7 ⟨rfl, hb7⟩; have hB7 := hB6.trans (hb7.mono hB6.size))
      refine hK.out _ _ ⟨keep_cell q0 hB7 ltq, keep_cell q1 hB7 ltq, keep_cell q2 hB7 ltq, keep_cell q3 hB7 ltq, keep_cell q4 hB7 ltq, keep_cell q5 hB7 ltq, keep_cell t0 hB7 ltt, keep_cell t1 hB7 ltt⟩ (fun hHeld => ?_)
      clear hK K
      (try simp only [Act.put, List.setIfInBounds_toArray, List.set_cons_zero, List.set_cons_succ])
      refine hT (i := 11) (v := ?_) rfl rfl hHeld ?_ ?_
      rotate_left
      ·rintro wh ⟨z_0, z_1, z_2, z_3, z_4, z_5, z_6, z_7⟩
       go_simp
       (try with_reducible rfl)
      simp only [Act.put, List.setIfInBounds_toArray, List.set_cons_zero, List.set_cons_succ]
      refine wpAnyH_done (by kernel_rfl) ?_ _
      have HB9 := Lib.hid (HB.out.trans (hB7.mono HB.out.size))
      clear hd hb5 hB5 hb6 hB6 hb7 hB7 hI5 hI6 q0 q1 q2 q3 q4 q5 t0 t1 KQ1n KQ2n HB HN
      by_cases hac : A = C
      ·have HN1 := Lib.hid (HNX.out hac)
       have hdc : decide (A = C) = true := decide_eq_true hac
       clear hac
       rw [hdc]
       go_wp2
       go_roundw
       case rel => exact ⟨n + 1, by go_num, by omega, HN1, HB9⟩
       case measure => (simp [intOf]; try omega)
      ·have hdc : decide (A = C) = false := decide_eq_false hac
       clear hac
       rw [hdc]
       go_wp2
       go_ret
       exact ⟨rfl, HB8.out.trans (HB9.out.mono HB8.out.size)⟩
     ·obtain rfl : n = L.length := by omega
      have hbe := HBE2.out HN.out
      rw [← hbe] at KL2 hll2
      have KL1n := Lib.hid (fun W (h : Below wr.heap.size wr W) => KL1.out W (HB.out.trans (h.mono HB.out.size)))
      have KL2n := Lib.hid (fun W (h : Below wr.heap.size wr W) => KL2.out W (HB.out.trans (h.mono HB.out.size)))
      generalize leftL q L (3, 3) 20 = A at *
      clear hbe
      go_upto_region 16 with fail
      refine wp_region_held_drew (S := (fun W => W.cell? ⟨w.heap.size, 0, none⟩ = some (.slice a0 m0 c0) ∧ W.cell? ⟨w.heap.size, 1, none⟩ = some (.slice a1 m1 c1) ∧ W.cell? ⟨w.heap.size, 2, none⟩ = some (.slice a2 m2 c2) ∧ W.cell? ⟨w.heap.size, 3, none⟩ = some (.slice a3 m3 c3) ∧ W.cell? ⟨w.heap.size, 4, none⟩ = some (.slice a4 m4 c4) ∧ W.cell? ⟨w.heap.size, 5, none⟩ = some (.slice a5 m5 c5) ∧ W.cell? ⟨gl, 0, none⟩ = some (.int .i64 3) ∧ W.cell? ⟨gl, 1, none⟩ = some (.int .u32 3))) (by kernel_rfl) ⟨q0, q1, q2, q3, q4, q5, t0, t1⟩ (fun hHeld => ?_)
      have hd : Below wr.heap.size wr wr.drew := (Below.refl _ _).drew
      refine hT (i := 0) (v := ?_) rfl rfl hHeld ?_ ?_
      rotate_left
      ·rintro wh ⟨z_0, z_1, z_2, z_3, z_4, z_5, z_6, z_7⟩
       go_simp
       (try with_reducible rfl)
      simp only [Act.put, List.setIfInBounds_toArray, List.set_cons_zero, List.set_cons_succ]
      refine hT (i := 1) (v := ?_) rfl rfl hHeld ?_ ?_
      rotate_left
      ·rintro wh ⟨z_0, z_1, z_2, z_3, z_4, z_5, z_6, z_7⟩
       go_simp
       (try with_reducible rfl)
      simp only [Act.put, List.setIfInBounds_toArray, List.set_cons_zero, List.set_cons_succ]
      refine hT (i := 2) (v := ?_) rfl rfl hHeld ?_ ?_
      rotate_left
      ·rintro wh ⟨z_0, z_1, z_2, z_3, z_4, z_5, z_6, z_7⟩
       go_simp
       (try with_reducible rfl)
      simp only [Act.put, List.setIfInBounds_toArray, List.set_cons_zero, List.set_cons_succ]
      refine hT (i := 4) (v := ?_) rfl rfl hHeld ?_ ?_
      rotate_left
      ·rintro wh ⟨z_0, z_1, z_2, z_3, z_4, z_5, z_6, z_7⟩
       go_simp
       (try with_reducible rfl)
      simp only [Act.put, List.setIfInBounds_toArray, List.set_cons_zero, List.set_cons_succ]
      refine hT (i := 5) (v := ?_) rfl rfl hHeld ?_ ?_
      rotate_left
      ·rintro wh ⟨z_0, z_1, z_2, z_3, z_4, z_5, z_6, z_7⟩
       go_simp
       (try with_reducible rfl)
      simp only [Act.put, List.setIfInBounds_toArray, List.set_cons_zero, List.set_cons_succ]
      refine hT (i := 6) (v := ?_) rfl rfl hHeld ?_ ?_
      rotate_left
      ·rintro wh ⟨z_0, z_1, z_2, z_3, z_4, z_5, z_6, z_7⟩
       go_simp
       (try with_reducible rfl)
      simp only [Act.put, List.setIfInBounds_toArray, List.set_cons_zero, List.set_cons_succ]
      refine held_call (i := 3) rfl (by kernel_rfl) (by rfl) (fun K hK => ?_)
      (go_simp; go_at_call 17; refine (KL1n.out _ hd).mono ?_; rintro e w5 ⟨rr5, rfl, hO5, hb5⟩; have hB5 := hd.trans (hb5.mono hd.size); have hI5 := hO5; obtain ⟨sa5, sc5, rfl, _, _⟩ := RdAt.shape hI5)
      refine hK.out _ _ ⟨keep_cell q0 hB5 ltq, keep_cell q1 hB5 ltq, keep_cell q2 hB5 ltq, keep_cell q3 hB5 ltq, keep_cell q4 hB5 ltq, keep_cell q5 hB5 ltq, keep_cell t0 hB5 ltt, keep_cell t1 hB5 ltt⟩ (fun hHeld => ?_)
      clear hK K
      (try simp only [Act.put, List.setIfInBounds_toArray, List.set_cons_zero, List.set_cons_succ])
      refine held_call (i := 7) rfl (by kernel_rfl) (by rfl) (fun K hK => ?_)
      (go_simp; go_at_call 17; refine (KL2n.out _ hB5).mono ?_; rintro e w6 ⟨rr6, rfl, hO6, hb6⟩; have hB6 := hB5.trans (hb6.mono hB5.size); have hI6 := hO6; obtain ⟨sa6, sc6, rfl, _, _⟩ := RdAt.shape hI6)
      refine hK.out _ _ ⟨keep_cell q0 hB6 ltq, keep_cell q1 hB6 ltq, keep_cell q2 hB6 ltq, keep_cell q3 hB6 ltq, keep_cell q4 hB6 ltq, keep_cell q5 hB6 ltq, keep_cell t0 hB6 ltt, keep_cell t1 hB6 ltt⟩ (fun hHeld => ?_)
      clear hK K
      (try simp only [Act.put, List.setIfInBounds_toArray, List.set_cons_zero, List.set_cons_succ])
      refine held_call (i := 8) rfl (by kernel_rfl) (by rfl) (fun K hK => ?_)
      (go_simp; go_at_call 12; refine (same_ints A A _ _ _ (hI5.later hb6) hI6 (by omega) (by omega)).mono ?_; rintro e w7 ⟨rfl, hb7⟩; have hB7 := hB6.trans (hb7.mono hB6.size))
      refine hK.out _ _ ⟨keep_cell q0 hB7 ltq, keep_cell q1 hB7 ltq, keep_cell q2 hB7 ltq, keep_cell q3 hB7 ltq, keep_cell q4 hB7 ltq, keep_cell q5 hB7 ltq, keep_cell t0 hB7 ltt, keep_cell t1 hB7 ltt⟩ (fun hHeld => ?_)
      clear hK K
      refine hT (i := 9) (v := ?_) rfl rfl hHeld ?_ ?_
      rotate_left
      ·rintro wh ⟨z_0, z_1, z_2, z_3, z_4, z_5, z_6, z_7⟩
       go_simp
       (try with_reducible rfl)
      simp only [Act.put, List.setIfInBounds_toArray, List.set_cons_zero, List.set_cons_succ]
      refine wpAnyH_done (by kernel_rfl) ?_ _
      have HB9 := Lib.hid (HB.out.trans (hB7.mono HB.out.size))
      clear hd hb5 hB5 hb6 hB6 hb7 hB7 hI5 hI6 q0 q1 q2 q3 q4 q5 t0 t1 KL1n KL2n HB HN
      go_wp2
      go_ret
      exact ⟨rfl, HB8.out.trans (HB9.out.mono HB8.out.size)⟩
  ·go_wp2
   go_ret
   exact ⟨rfl, HB7.out⟩
end lawBits
end Go.Proofs.YtipnhpfpppblhaaGreat
/- InhibitBits: the walk, of its arguments. -/
namespace Go.Proofs.YtipnhpfpppblhaaGreat
open Go.RowKit
namespace lawBits
theorem walk (v : Value) (x : PV) (p : PD) (u : Value) (l : List (Al × Value)) (m : Value) (y : Al) (fv : Value) (w : World) (h1 : ArgPolC w v x p) (h2 : ArgAls w u l) (h3 : ArgAl w m y fv) : Calls Tryz.prog 5 #[v, u, m] w fun e w' => e = .returned (.bool true) ∧ Below w.heap.size w w' := by
 obtain ⟨⟨rfl, p2, p3⟩, p4⟩ := h1
 obtain ⟨z, rfl, _⟩ := pol_shape p2
 obtain ⟨rfl, m2, m3⟩ := h3
 obtain ⟨src, fl, lv, c, fr, til⟩ := y
 dsimp only at m2 m3 ⊢
 obtain ⟨xa, xc, rfl, _, _⟩ := RdAt.shape m2
 exact walk0 z p l u src fl xa xc lv c fr til w p2 p4 p3 h2.1 h2.2 m2 m3
end lawBits
end Go.Proofs.YtipnhpfpppblhaaGreat
/- InhibitBits: the card: whatever the arguments, the law returns true and its arguments read as they did. No condition. -/
namespace Go.Proofs.YtipnhpfpppblhaaGreat.lawBits
open Go.ChangeShapes Go.WideShapes Go.ChangeAt Go.RowKit
open Go.ChangeMaps (open_string)

set_option maxRecDepth 100000 in
theorem contract (H : Type) (enc : TypeId × Value → H) (W : World) (base : Nat) (args : Array Value) (ds gs : List (DataW H)) (before : List MemPlace)
  (hval : ∀ (j : Nat) t v, Tryz.f5.params[j]? = some t → args[j]? = some v → Value.okWide Tryz.prog W .any base t v)
  (hW : DataW.Whole enc Tryz.prog Tryz.f5.params.toList Rows.inhibitBitsSpec.vars false W args.toList ds gs before) :
  Calls Tryz.prog 5 args W fun e W' => ∃ v, e = .returned v ∧ Rows.inhibitBitsSpec.post enc Tryz.prog Tryz.f5 false true false false W args v W' := by
 have hW' := hW
 obtain ⟨p, q, hA0, hV, rfl, hfz, hnd⟩ := hW
 have hA : DataW.TrodAll enc Tryz.prog W 0 (fun _ => true) true Tryz.f5.params.toList args.toList ds p := hA0
 rw [Tryz.params5] at hA hval
 obtain ⟨v0, vs0, d0, ds0, p0, q0, hargs, rfl, rfl, h0, r0⟩ := trodAll_cons hA
 obtain ⟨v1, vs1, d1, ds1, p1, q1, rfl, rfl, rfl, h1, r1⟩ := trodAll_cons r0
 obtain ⟨v2, vs2, d2, ds2, p2, q2, rfl, rfl, rfl, h2, r2⟩ := trodAll_cons r1
 obtain ⟨rfl, rfl, rfl⟩ := trodAll_nil r2
 obtain rfl : args = #[v0, v1, v2] := by cases args; simp_all
 obtain ⟨rfl, rfl⟩ := trodVars_none hV
 obtain ⟨x0, y0, hx0⟩ := polC_of_arg (hval 0 26 v0 rfl rfl) h0
 obtain ⟨x1, hx1⟩ := alsG_of_arg (hval 1 27 v1 rfl rfl) h1
 obtain ⟨x2, y2, hx2⟩ := al_of_arg (hval 2 58 v2 rfl rfl) h2
 clear hA0
 refine (walk v0 x0 y0 v1 x1 v2 x2 y2 W hx0 hx1 hx2).mono ?_
 rintro e W' ⟨rfl, hb⟩
 exact ⟨_, rfl, law_post laidOut Tryz.underlying4 rfl rfl (by kernel_rfl) hW' rfl rfl rfl hb⟩

theorem laid_met (os : Os) : laidMet Tryz.prog Rows.inhibitBitsRow.laid ((laidWorld os).forCall (fun _ _ => 0) ⟨#[], #[.agg #[.slice none 0 0, .slice none 0 0, .slice none 0 0, .slice none 0 0, .slice none 0 0, .slice none 0 0], .slice none 0 0, .agg #[.string ⟨#[]⟩, .slice none 0 0, .int .i64 0, .int .u32 0, .int .i64 0, .int .i64 0]], []⟩).memory :=
 ⟨[], rfl, List.nodup_nil, fun _ _ h => by cases h⟩
theorem reads (os : Os) {H : Type} (enc : TypeId × Value → H) : ∃ places, DataW.whole enc Tryz.prog ((laidWorld os).forCall (fun _ _ => 0) ⟨#[], #[.agg #[.slice none 0 0, .slice none 0 0, .slice none 0 0, .slice none 0 0, .slice none 0 0, .slice none 0 0], .slice none 0 0, .agg #[.string ⟨#[]⟩, .slice none 0 0, .int .i64 0, .int .u32 0, .int .i64 0, .int .i64 0]], []⟩).memory Tryz.f5.params.toList Rows.inhibitBitsSpec.vars false (#[.agg #[.slice none 0 0, .slice none 0 0, .slice none 0 0, .slice none 0 0, .slice none 0 0, .slice none 0 0], .slice none 0 0, .agg #[.string ⟨#[]⟩, .slice none 0 0, .int .i64 0, .int .u32 0, .int .i64 0, .int .i64 0]] : Array Value).toList 8 = some ([.agg [.nil, .nil, .nil, .nil, .nil, .nil], .nil, .agg [.lit (.string []), .nil, .agg [.lit (.int .i64 0), .lit (.int .u32 0)], .lit (.int .i64 0), .lit (.int .i64 0)]], [], places) :=
 ⟨[], by kernel_rfl⟩

set_option maxRecDepth 100000 in
theorem lifted (os : Os) (started : os.Started) (H : Type) (enc : TypeId × Value → H) (F : Stop.Interp) :
  ReturnsInHanded {} Tryz.checked os 5 .any ((OpenSpec.ofChange Rows.inhibitBitsSpec).preRow enc Tryz.prog Tryz.f5 Rows.inhibitBitsRow.domain false Rows.inhibitBitsRow.laid) (((OpenSpec.ofChange Rows.inhibitBitsSpec).at F).post enc Tryz.prog Tryz.f5 false true false false) := by
 obtain ⟨places, hx⟩ := reads os enc
 refine returnsInHanded_of_row (C := Tryz.checked) (s := OpenSpec.ofChange Rows.inhibitBitsSpec) ownNone started (by kernel_rfl) Tryz.func5
  (witness_row_at (enc := enc) (C := Tryz.checked) false (laidWorld os) #[.agg #[.slice none 0 0, .slice none 0 0, .slice none 0 0, .slice none 0 0, .slice none 0 0, .slice none 0 0], .slice none 0 0, .agg #[.string ⟨#[]⟩, .slice none 0 0, .int .i64 0, .int .u32 0, .int .i64 0, .int .i64 0]] rfl (by kernel_rfl) (by kernel_rfl) (by kernel_rfl)
   (OpenSpec.preRow_of_cond 8 hx (by kernel_rfl) (fun k hk => by cases hk) (by kernel_rfl) (laid_met os))) ?_
 intro W base args ds gs before hval hW _ _ _ _ _ _
 exact contract H enc W base args ds gs before hval hW

theorem said : Rows.InhibitBitsSaid :=
 OpenClaim.holds_of_cond 5 Tryz.f5 rfl rfl rfl rfl rfl rfl rfl ⟨rfl, rfl, rfl, rfl, rfl⟩ rfl rfl rfl rfl rfl (by kernel_rfl) Tryz.func5 (by kernel_rfl)
  (of_decide_eq_true (by kernel_rfl)) (by unfold Func.isWrapper; first | (rw [if_pos (by decide +kernel)]; kernel_rfl) | (rw [if_neg (by decide +kernel)]; exact ⟨rfl, rfl⟩))
  (fun os started H enc _ F => by rw [OpenClaim.pre_eq_preRow]; exact lifted os started H enc F)

end Go.Proofs.YtipnhpfpppblhaaGreat.lawBits
