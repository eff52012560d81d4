/- InhibitLow: the card: whatever the arguments, the law returns true and its arguments read as they did. No condition. -/
import Derived.Test.YtipnhpfpppblhaaGreatU13P5
import Derived.Deep.LoopGhost
import Derived.Lib.Hide
import Derived.Laws.IdiomArrays
import Derived.Test.YtipnhpfpppblhaaGreatFrame12

/- A box beside the policy's: what stands in it stays. No program in sight but types. -/
namespace Go.Proofs.YtipnhpfpppblhaaGreat
open Go.RowKit

/-- a box, and its cells -/
structure BxAt (b : Nat) (cs : List Value) (W : World) : Prop where
 lt : b < W.heap.size
 get : ∀ (j : Nat) (v : Value), cs[j]? = some v → W.cell? ⟨b, j, none⟩ = some v
theorem BxAt.later {b : Nat} {cs : List Value} {W W' : World} (h : BxAt b cs W) (hb : Below W.heap.size W W') : BxAt b cs W' :=
 ⟨Nat.lt_of_lt_of_le h.lt hb.size, fun j v hj => keep_cell (h.get j v hj) hb h.lt⟩
theorem BxAt.puts {b : Nat} {cs : List Value} {W : World} (h : BxAt b cs W) {g o : Nat} (hne : b ≠ g) (vs : List Value) : BxAt b cs (W.setCells g o vs) :=
 ⟨Nat.lt_of_lt_of_le h.lt (below_puts_base (g := g) (o := o) (Below.refl 0 W) (Nat.zero_le _) vs).size, fun j v hj => by
  rw [World.cell?_setCells_out _ _ _ _ _ (fun hb _ => absurd hb hne)]
  exact h.get j v hj⟩
theorem two_boxes (w : World) (v0 v1 v2 v3 v4 v5 : Value) (cs : List Value) (s t : TypeId) (W : World) (h : (w.alloc (.cells #[v0, v1, v2, v3, v4, v5] s)).alloc (.cells cs.toArray t) = W) :
  C6 w.heap.size v0 v1 v2 v3 v4 v5 W ∧ W.there w.heap.size 0 6 ∧ BxAt (w.heap.size + 1) cs W ∧ Below w.heap.size w W ∧ w.heap.size < W.heap.size := by
 subst h
 obtain ⟨W1, h1⟩ : ∃ z, w.alloc (.cells #[v0, v1, v2, v3, v4, v5] s) = z := ⟨_, rfl⟩
 rw [h1]
 have s1 : W1.heap.size = w.heap.size + 1 := by rw [← h1, World.size_alloc]
 have b1 : Below w.heap.size w W1 := by rw [← h1]; exact alloc_below _ _
 have x6 : C6 w.heap.size v0 v1 v2 v3 v4 v5 W1 := by rw [← h1]; exact box6n w _ _ _ _ _ _ _
 have ht : W1.there w.heap.size 0 6 := h1 ▸ box_there (Below.refl _ _)
 obtain ⟨s2, b2, c2⟩ := alloc_facts W1 cs t _ rfl
 refine ⟨x6.later b2 (by omega), there_later ht b2 (by omega), ⟨by omega, fun j v hj => ?_⟩, b1.trans (b2.mono (by omega)), by omega⟩
 rw [← s1]
 exact c2 j v hj
theorem c6_put3 {w : World} {g : Nat} {a b c d e f : Value} (x : Value) (h : C6 g a b c d e f w) (ht : w.there g 0 6) : C6 g a b c x e f (w.setCells g 3 [x]) := by
 obtain ⟨h0, h1, h2, h3, h4, h5⟩ := h
 have ht' : w.there g 3 1 := fun j hj => by
  have := ht (3 + j) (by omega)
  rwa [Nat.zero_add] at this
 have h3' : (w.setCells g 3 [x]).cell? ⟨g, 3, none⟩ = some x := by
  have := World.rangeAt_setCells_same w g 3 [x] ht' 0 x rfl
  simpa using this
 refine ⟨?_, ?_, ?_, h3', ?_, ?_⟩
 ·rw [World.cell?_setCells_out _ _ _ _ _ (fun _ _ => by first | (left; simp; done) | (right; simp; done))]; exact h0
 ·rw [World.cell?_setCells_out _ _ _ _ _ (fun _ _ => by first | (left; simp; done) | (right; simp; done))]; exact h1
 ·rw [World.cell?_setCells_out _ _ _ _ _ (fun _ _ => by first | (left; simp; done) | (right; simp; done))]; exact h2
 ·rw [World.cell?_setCells_out _ _ _ _ _ (fun _ _ => by first | (left; simp; done) | (right; simp; done))]; exact h4
 ·rw [World.cell?_setCells_out _ _ _ _ _ (fun _ _ => by first | (left; simp; done) | (right; simp; done))]; exact h5
end Go.Proofs.YtipnhpfpppblhaaGreat
/- lychgateref09.Right, Fires: contracts, the same as alert's. -/
namespace Go.Proofs.YtipnhpfpppblhaaGreat
open Go.RowKit

theorem al6r (W : World) (a b c d e f : Value) (t : TypeId) : C6 W.heap.size a b c d e f (W.alloc (.cells #[a, b, c, d, e, f] t)) := by
 have hc : ∀ (i : Nat), (W.alloc (.cells #[a, b, c, d, e, f] t)).cell? ⟨W.heap.size, i, none⟩ = _ := fun i => World.cell?_alloc_at _ _ _ _ rfl
 exact ⟨hc 0, hc 1, hc 2, hc 3, hc 4, hc 5⟩
set_option maxHeartbeats 3200000 in
set_option maxRecDepth 100000 in
theorem r9right_any (src : ByteArray) (fl : List Fld) (lv : Int) (c : Nat) (fr til : Int) (v : Value) (w : World) (hs : src.size ≤ maxLen) (hv : FldsAt w v fl) (hfit : FldsFit fl) (hl : fl.length ≤ maxLen) :
  Calls Tryz.prog 21 #[.agg #[.string src, v, .int .i64 lv, .int .u32 c, .int .i64 fr, .int .i64 til]] w fun e w' => e = .returned (.bool (whoA src fl lv && beginsA fr && endsA fr til)) ∧ Below w.heap.size w w' := by
 have k1 := refName.name_any src (w.alloc (.cells #[.string src, v, .int .i64 lv, .int .u32 c, .int .i64 fr, .int .i64 til] 58)) hs
 have hB0 := alloc_below w (.cells #[.string src, v, .int .i64 lv, .int .u32 c, .int .i64 fr, .int .i64 til] 58)
 have hz0 := World.size_alloc w (.cells #[.string src, v, .int .i64 lv, .int .u32 c, .int .i64 fr, .int .i64 til] 58)
 have x := al6r w (.string src) v (.int .i64 lv) (.int .u32 c) (.int .i64 fr) (.int .i64 til) 58
 have k2 := fun W (hb : Below w.heap.size w W) => rright6_any fl W v (hv.later hb) hfit hl
 have k3 := rright_any lv c
 obtain ⟨fa, fc, rfl, hfc, _⟩ := RdAt.shape hv
 obtain ⟨W0, hW0⟩ : ∃ z, w.alloc (.cells #[.string src, .slice fa fl.length fc, .int .i64 lv, .int .u32 c, .int .i64 fr, .int .i64 til] 58) = z := ⟨_, rfl⟩
 rw [hW0] at k1 hB0 hz0 x
 have K2 := Lib.hid k2
 have hl63 : fl.length ≤ 9223372036854775807 := by unfold maxLen at hl; omega
 have HX := Lib.hid x
 have HB := Lib.hid hB0
 obtain ⟨x0, x1, x2, x3, x4, x5⟩ := x
 clear hv hfit k2 hB0 hl
 go_enter Tryz.func21, Tryz.ntmps21
 go_upto_region 1 with fail
 try rw [hW0]
 clear hW0
 have hlt : w.heap.size < W0.heap.size := by omega
 clear hz0
 cases hn : nameL (B src)
 ·have HW : Hid (whoA src fl lv = false) := by show _ = _; unfold whoA; rw [hn]; rfl
  rw [hn] at k1
  clear hn
  go_wp2_with fail
  refine k1.mono ?_
  rintro e w1 ⟨rfl, rfl⟩
  go_wp2
  go_ret
  exact ⟨by rw [HW.out]; rfl, HB.out⟩
 rw [hn] at k1
 by_cases h0 : 0 < fl.length
 case neg =>
  have HW : Hid (whoA src fl lv = false) := by show _ = _; unfold whoA; rw [decide_eq_false h0, Bool.and_false]; rfl
  obtain rfl : fl = [] := List.length_eq_zero_iff.1 (by omega)
  clear hn h0
  go_wp2_with fail
  refine k1.mono ?_
  rintro e w1 ⟨rfl, rfl⟩
  go_wp2
  go_ret
  exact ⟨by rw [HW.out]; rfl, HB.out⟩
 have h0' : (1 : Int) ≤ (fl.length : Int) := by omega
 have k2 := K2.out W0 HB.out
 cases hr : rightF fl
 ·have HW : Hid (whoA src fl lv = false) := by show _ = _; unfold whoA; rw [hr, Bool.and_false]; rfl
  rw [hr] at k2
  clear hn hr
  go_wp2_with fail
  refine k1.mono ?_
  rintro e w1 ⟨rfl, rfl⟩
  go_wp2_with fail
  refine k2.mono ?_
  rintro e w2 ⟨rfl, hb2⟩
  have HB2 := Lib.hid (HB.out.trans (hb2.mono HB.out.size))
  clear hb2 k1 k2 x0 x1 x2 x3 x4 x5
  go_wp2
  go_ret
  exact ⟨by rw [HW.out]; rfl, HB2.out⟩
 have HW : Hid (whoA src fl lv = rightL lv) := by show _ = _; unfold whoA; rw [hn, hr, decide_eq_true h0]; rfl
 rw [hr] at k2
 clear hn hr
 go_wp2_with fail
 refine k1.mono ?_
 rintro e w1 ⟨rfl, rfl⟩
 go_wp2_with fail
 refine k2.mono ?_
 rintro e w2 ⟨rfl, hb2⟩
 have HB2 := Lib.hid (HB.out.trans (hb2.mono HB.out.size))
 have HX2 := Lib.hid (HX.out.later hb2 hlt)
 have hlt2 : w.heap.size < w2.heap.size := Nat.lt_of_lt_of_le hlt hb2.size
 clear hb2 k1 k2 K2 x0 x1 x2 x3 x4 x5 HB HX
 obtain ⟨x0, x1, x2, x3, x4, x5⟩ := HX2.out
 have k3 := k3 w2
 go_wp2_with fail
 refine k3.mono ?_
 rintro e w3 ⟨rfl, hb3⟩
 have HB3 := Lib.hid (HB2.out.trans (hb3.mono HB2.out.size))
 have HX3 := Lib.hid (HX2.out.later hb3 hlt2)
 clear k3 hb3 x0 x1 x2 x3 x4 x5 HB2 HX2 hlt hlt2
 cases hrl : rightL lv
 ·rw [hrl] at HW
  clear hrl
  go_wp2
  go_ret
  exact ⟨by rw [HW.out]; rfl, HB3.out⟩
 rw [hrl] at HW
 clear hrl
 go_upto_region 3 with fail
 obtain ⟨x0, x1, x2, x3, x4, x5⟩ := HX3.out
 have HWH := HW
 clear HX3 HW h0 h0'
 by_cases h1 : 0 ≤ fr
 case neg =>
  have HW : Hid (beginsA fr = false) := by show _ = _; unfold beginsA; rw [decide_eq_false h1, Bool.false_and]
  have h1' : fr < 0 := by omega
  clear h1
  go_wp2
  go_ret
  exact ⟨by rw [HWH.out, HW.out]; rfl, HB3.out⟩
 by_cases h2 : fr ≤ 1099511627776
 case neg =>
  have HW : Hid (beginsA fr = false) := by show _ = _; unfold beginsA; rw [decide_eq_false h2, Bool.and_false]
  have h2' : (1099511627776 : Int) < fr := by omega
  clear h2
  go_wp2
  go_ret
  exact ⟨by rw [HWH.out, HW.out]; rfl, HB3.out⟩
 have HBG : Hid (beginsA fr = true) := by show _ = _; unfold beginsA; rw [decide_eq_true h1, decide_eq_true h2]; rfl
 by_cases h3 : til = 0
 ·subst h3
  go_wp2
  go_ret
  exact ⟨by rw [HWH.out, HBG.out]; rfl, HB3.out⟩
 have hz : (til == 0) = false := by rw [beq_eq_false_iff_ne]; exact h3
 by_cases h4 : fr < til
 ·by_cases h5 : til ≤ 1099511627776
  ·have HW : Hid (endsA fr til = true) := by show _ = _; unfold endsA; rw [decide_eq_true h4, decide_eq_true h5]; simp
   clear h3
   go_wp2
   go_ret
   exact ⟨by rw [HWH.out, HBG.out, HW.out]; first | rfl | (simp; omega), HB3.out⟩
  ·have HW : Hid (endsA fr til = false) := by show _ = _; unfold endsA; rw [decide_eq_false h3, decide_eq_false h5]; simp
   have h5' : (1099511627776 : Int) < til := by omega
   clear h3 h5
   go_wp2
   go_ret
   exact ⟨by rw [HWH.out, HBG.out, HW.out]; first | rfl | (simp; omega), HB3.out⟩
 ·have HW : Hid (endsA fr til = false) := by show _ = _; unfold endsA; rw [decide_eq_false h3, decide_eq_false h4]; simp
  have h4' : til ≤ fr := by omega
  clear h3 h4
  go_wp2
  go_ret
  exact ⟨by rw [HWH.out, HBG.out, HW.out]; first | rfl | (simp; omega), HB3.out⟩
set_option maxHeartbeats 800000 in
theorem r9fires_any (src : ByteArray) (a : Option Addr) (n m : Nat) (lv : Int) (c : Nat) (fr til now : Int) (w : World) :
  Calls Tryz.prog 67 #[.agg #[.string src, .slice a n m, .int .i64 lv, .int .u32 c, .int .i64 fr, .int .i64 til], .int .i64 now] w fun e w' => e = .returned (.bool (decide (fr ≤ now) && (decide (til = 0) || decide (now < til)))) ∧ Below w.heap.size w w' := by
 by_cases h1 : fr ≤ now
 ·by_cases h2 : til = 0
  ·subst h2
   go_enter Tryz.func67, Tryz.ntmps67
   go_wp2
   go_ret
   exact ⟨by first | rfl | (simp; omega), (Below.refl _ _).alloc (Nat.le_refl _) _⟩
  ·have hz : (til == 0) = false := by rw [beq_eq_false_iff_ne]; exact h2
   have hz2 := h2
   clear h2
   by_cases h3 : now < til
   ·go_enter Tryz.func67, Tryz.ntmps67
    go_wp2
    go_ret
    exact ⟨by first | rfl | (simp; omega) | (simp [*]), (Below.refl _ _).alloc (Nat.le_refl _) _⟩
   ·have h3' : til ≤ now := by omega
    go_enter Tryz.func67, Tryz.ntmps67
    go_wp2
    go_ret
    exact ⟨by first | rfl | (simp; omega) | (simp [*]), (Below.refl _ _).alloc (Nat.le_refl _) _⟩
 ·have h1' : now < fr := by omega
  go_enter Tryz.func67, Tryz.ntmps67
  go_wp2
  go_ret
  exact ⟨by first | rfl | (simp; omega) | (simp [*]), (Below.refl _ _).alloc (Nat.le_refl _) _⟩
end Go.Proofs.YtipnhpfpppblhaaGreat
/- lychgateref01.SameInts. -/
namespace Go.Proofs.YtipnhpfpppblhaaGreat
open Go.RowKit

set_option maxHeartbeats 1600000 in
set_option maxRecDepth 100000 in
theorem same_ints (xs ys : List Int) (w : World) (u v : Value) (hx : IntsAt w u xs) (hy : IntsAt w v ys) (hl : xs.length ≤ 1000) (hl2 : ys.length ≤ 1000) :
  Calls Tryz.prog 12 #[u, v] w fun e w' => e = .returned (.bool (decide (xs = ys))) ∧ Below w.heap.size w w' := by
 obtain ⟨a, c, rfl, hc, hr⟩ := RdAt.shape hx
 obtain ⟨a', c', rfl, hc', hr'⟩ := RdAt.shape hy
 have HR := Lib.hid hr
 have HR' := Lib.hid hr'
 clear hr hr' hx hy
 by_cases hlen : xs.length = ys.length
 ·have hlen' : (xs.length : Int) = (ys.length : Int) := by omega
  have hb0 : ((xs.length : Int) != (ys.length : Int)) = false := by simp [hlen]
  have HLEN := Lib.hid hlen
  clear hlen hlen'
  go_enter Tryz.func12, Tryz.ntmps12
  go_wp2
  go_loopw [5] (fun i wr => ∃ k : Nat, k ≤ xs.length ∧ i = .int .i64 k ∧ Hid (xs.take k = ys.take k) ∧ Below w.heap.size w wr) (fun i _ => xs.length - (intOf i).toNat)
  case atStart => exact ⟨0, Nat.zero_le _, rfl, Lib.hid rfl, Below.refl _ _⟩
  case round =>
   obtain ⟨k, hk, rfl, HT, hbr⟩ := hrel
   by_cases hkl : k < xs.length
   ·have hkl2 : k < ys.length := by have := HLEN.out; omega
    obtain ⟨x, hxe⟩ : ∃ x, xs[k] = x := ⟨_, rfl⟩
    obtain ⟨y, hye⟩ : ∃ y, ys[k] = y := ⟨_, rfl⟩
    obtain ⟨b0, o0, rfl, hb0', hcell⟩ := HR.out (by omega)
    obtain ⟨b1, o1, rfl, hb1', hcell'⟩ := HR'.out (by omega)
    have hcr : wr.cell? ⟨b0, o0 + k, none⟩ = some (.int .i64 x) := (hbr.cell (p := ⟨b0, o0 + k, none⟩) hb0').trans (hcell k _ (by rw [List.getElem?_map, List.getElem?_eq_getElem hkl, hxe]; rfl))
    have hcr' : wr.cell? ⟨b1, o1 + k, none⟩ = some (.int .i64 y) := (hbr.cell (p := ⟨b1, o1 + k, none⟩) hb1').trans (hcell' k _ (by rw [List.getElem?_map, List.getElem?_eq_getElem hkl2, hye]; rfl))
    clear hcell hcell'
    by_cases hxy : x = y
    ·have HN : Hid (xs.take (k + 1) = ys.take (k + 1)) := take_step HT.out hkl hkl2 (by rw [hxe, hye, hxy])
     have hbx : (x != y) = false := by simp [hxy]
     clear hxy hxe hye
     go_wp2_with fail
     go_region
     all_goals go_wp2
     go_roundw
     case rel => exact ⟨k + 1, by omega, by go_num, HN, bl_drewN hbr 1⟩
     case measure => simp [intOf]; omega
    ·have hbx : (x != y) = true := by simp [hxy]
     have HN : Hid (xs ≠ ys) := ne_at hkl hkl2 (by rw [hxe, hye]; exact hxy)
     clear hxy hxe hye
     go_wp2_with fail
     go_region
     all_goals go_wp2
     go_ret
     exact ⟨by rw [decide_eq_false HN.out]; rfl, bl_drewN hbr 1⟩
   ·obtain rfl : k = xs.length := by omega
    have HN : Hid (xs = ys) := take_done HLEN.out HT.out
    clear HT
    go_wp2
    go_ret
    exact ⟨by rw [decide_eq_true HN.out]; rfl, hbr⟩
 ·have hlen' : ¬ (xs.length : Int) = (ys.length : Int) := by omega
  go_enter Tryz.func12, Tryz.ntmps12
  go_wp2
  go_ret
  exact ⟨by rw [decide_eq_false (fun h => hlen (by rw [h]))]; rfl, Below.refl _ _⟩
end Go.Proofs.YtipnhpfpppblhaaGreat
/- InhibitLow: the walk. -/
namespace Go.Proofs.YtipnhpfpppblhaaGreat
open Go.RowKit Go.Maps

namespace lawLow
set_option maxHeartbeats 6400000 in
set_option maxRecDepth 100000 in
theorem walk0 (x : PA) (p : PD) (l : List (Al × Value)) (v : Value) (at0 at1 : Int) (w : World) (hp : PolAt w (x.pv p) p) (hc : PCap (x.pv p)) (hpf : PolFitD p) (ha : AlsAt w v l) (hl : l.length ≤ maxLen) :
  Calls Tryz.prog 4 #[(x.pv p).v, v, .agg #[.int .i64 at0, .int .i64 at1]] w fun e w' => e = .returned (.bool true) ∧ Below w.heap.size w w' := by
 have kl := lives_any
 have kc := fun W (h : Below w.heap.size w W) => rcutD_any x p W (hp.later h) hc
 have kfew := fun W (h : Below w.heap.size w W) => few13_any l v W (ha.later h) hl
 have hq := pol_cut hp
 have hqf := cutD_fit hpf
 have h14 : p.cut.ih.length ≤ 14 := by unfold PD.cut; exact List.length_take_le _ _
 generalize p.cut = q at *
 obtain ⟨a0, c0, a1, c1, a2, c2, a3, c3, a4, c4, a5, c5⟩ := x
 have KLF := Lib.hid (fun (L : List (Al × Value)) (u : Value) (tl : Int) (tc : Nat) (nw : Int) (W : World) (h : Below w.heap.size w W) (hL : AlsAt W u L) (hn : L.length ≤ 1000000) (h12 : ∀ y ∈ L, y.1.fl.length ≤ 12) => ileft_any _ q L u tl tc nw W (hq.later h) hqf hL hn h12)
 have KQT := Lib.hid (fun (L : List (Al × Value)) (u : Value) (k : Int) (tl : Int) (tc : Nat) (nw : Int) (W : World) (h : Below w.heap.size w W) (hL : AlsAt W u L) (hn : L.length ≤ maxLen) => iquiet_any _ q L u k tl tc nw W (hq.later h) hqf hL hn)
 have KBT := Lib.hid (fun (L : List (Al × Value)) (u : Value) (tl : Int) (tc : Nat) (nw : Int) (W : World) (h : Below w.heap.size w W) (hL : AlsAt W u L) (hn : L.length ≤ 1000000) (h12 : ∀ y ∈ L, y.1.fl.length ≤ 12) => ibits_any _ q L u tl tc nw W (hq.later h) hqf hL hn h12 h14)
 have KCH := Lib.hid (fun (W : World) (h : Below w.heap.size w W) => check8_any _ q W (hq.later h) hqf)
 have KCT : Hid (∀ (y m : Al) (ok : Bool) (fa : Option Addr) (fc : Nat) (tl : Int) (tc : Nat) (W : World), Below w.heap.size w W → FldsAt W (.slice fa y.fl.length fc) y.fl → y.fl.length ≤ 12 → cutOk q.ra y.fl (y.lv, y.c) (tl, tc) = ok → cutAl q.ra y (tl, tc) = m →
   Calls Tryz.prog 20 #[.agg #[.slice a0 q.so.length c0, .slice a1 q.re.length c1, .slice a2 q.pe.length c2, .slice a3 q.ra.length c3, .slice a4 q.ro.length c4, .slice a5 q.ih.length c5], .agg #[.string y.src, .slice fa y.fl.length fc, .int .i64 y.lv, .int .u32 y.c, .int .i64 y.fr, .int .i64 y.til], Lab tl tc] W fun e w' =>
    ∃ pa pc, e = .returned (.tuple #[.agg #[.string m.src, .slice pa m.fl.length pc, .int .i64 m.lv, .int .u32 m.c, .int .i64 m.fr, .int .i64 m.til], .bool ok]) ∧ FldsAt w' (.slice pa m.fl.length pc) m.fl ∧ (∀ q, (Value.slice pa m.fl.length pc).ownBlock = some q → W.heap.size ≤ q) ∧ Below W.heap.size W w') :=
  Lib.hid (fun y m ok fa fc tl tc W hW hF hx hok hm => cut_l (a0, q.so.length, c0) (a1, q.re.length, c1) (a2, q.pe.length, c2) (a4, q.ro.length, c4) (a5, q.ih.length, c5) q.ra (.slice a3 q.ra.length c3) y (.slice fa y.fl.length fc) (tl, tc) m ok W (hq.h3.later hW) hqf.h3.1 hF (by omega) hok hm)
 have HQP := Lib.hid hq
 have HQF := Lib.hid hqf
 dsimp only [PA.pv, PV.v] at *
 generalize p.so.length = n0 at *
 generalize p.re.length = n1 at *
 generalize p.pe.length = n2 at *
 generalize p.ra.length = n3 at *
 generalize p.ro.length = n4 at *
 generalize p.ih.length = n5 at *
 obtain ⟨m0, hm0⟩ : ∃ z, q.so.length = z := ⟨_, rfl⟩
 obtain ⟨m1, hm1⟩ : ∃ z, q.re.length = z := ⟨_, rfl⟩
 obtain ⟨m2, hm2⟩ : ∃ z, q.pe.length = z := ⟨_, rfl⟩
 obtain ⟨m3, hm3⟩ : ∃ z, q.ra.length = z := ⟨_, rfl⟩
 obtain ⟨m4, hm4⟩ : ∃ z, q.ro.length = z := ⟨_, rfl⟩
 obtain ⟨m5, hm5⟩ : ∃ z, q.ih.length = z := ⟨_, rfl⟩
 rw [hm0, hm1, hm2, hm3, hm4, hm5] at KLF KQT KBT KCH KCT kc HQP
 have HM5 := Lib.hid hm5
 have H14 := Lib.hid h14
 have KC := Lib.hid kc
 have KFEW := Lib.hid kfew
 have HA := Lib.hid ha
 clear kc kfew hp hc hpf ha hq hqf hl h14 hm0 hm1 hm2 hm3 hm4 hm5
 obtain ⟨W0, hW0⟩ : ∃ z, (w.alloc (.cells #[.slice a0 n0 c0, .slice a1 n1 c1, .slice a2 n2 c2, .slice a3 n3 c3, .slice a4 n4 c4, .slice a5 n5 c5] 26)).alloc (.cells #[.int .i64 at0, .int .i64 at1] 28) = z := ⟨_, rfl⟩
 obtain ⟨hP, hT, hX, hb0, hz⟩ := two_boxes w (.slice a0 n0 c0) (.slice a1 n1 c1) (.slice a2 n2 c2) (.slice a3 n3 c3) (.slice a4 n4 c4) (.slice a5 n5 c5) [.int .i64 at0, .int .i64 at1] _ _ W0 hW0
 have HX0 := Lib.hid hX
 clear hX
 have HP := Lib.hid hP
 have HT := Lib.hid hT
 have HB0 := Lib.hid hb0
 have HZ := Lib.hid hz
 have HW0 := Lib.hid hW0
 obtain ⟨va, vc, rfl, _, _⟩ := RdAt.shape HA.out.row
 clear hb0 hz hT hP hW0
 go_enter Tryz.func4, Tryz.ntmps4
 go_upto_region 1 with fail
 rw [HW0.out]
 clear HW0
 go_wp2_with fail
 refine (kl _).mono ?_
 rintro e w1 ⟨rfl, hb1⟩
 have HB1 := Lib.hid (HB0.out.trans (hb1.mono HB0.out.size))
 have HT1 := Lib.hid (there_later HT.out hb1 HZ.out)
 have HZ1 := Lib.hid (Nat.lt_of_lt_of_le HZ.out hb1.size)
 obtain ⟨p0, p1, p2, p3, p4, p5⟩ := HP.out.later hb1 HZ.out
 have HX1 := Lib.hid (HX0.out.later hb1)
 clear hb1 kl HB0 HP HT HZ
 go_wp2_with fail
 refine (KC.out _ HB1.out).mono ?_
 rintro e w2 ⟨rfl, hb2⟩
 have HB2 := Lib.hid (HB1.out.trans (hb2.mono HB1.out.size))
 have HT2 := Lib.hid (there_later HT1.out hb2 HZ1.out)
 have HZ2 := Lib.hid (Nat.lt_of_lt_of_le HZ1.out hb2.size)
 have HX2 := Lib.hid (HX1.out.later hb2)
 clear HX1 HX0
 have P0 := keep_cell p0 hb2 HZ1.out
 have P1 := keep_cell p1 hb2 HZ1.out
 have P2 := keep_cell p2 hb2 HZ1.out
 have P3 := keep_cell p3 hb2 HZ1.out
 have P4 := keep_cell p4 hb2 HZ1.out
 have P5 := keep_cell p5 hb2 HZ1.out
 clear hb2 p0 p1 p2 p3 p4 p5 KC HB1 HT1 HZ1
 have f0 := there_free HT2.out 0 (by decide)
 have f1 := there_free HT2.out 1 (by decide)
 have f2 := there_free HT2.out 2 (by decide)
 have f3 := there_free HT2.out 3 (by decide)
 have f4 := there_free HT2.out 4 (by decide)
 have f5 := there_free HT2.out 5 (by decide)
 go_upto_region 4 with fail
 change Code.wp _ _ _ _ (w2.setCells w.heap.size 0 [.slice a0 m0 c0, .slice a1 m1 c1, .slice a2 m2 c2, .slice a3 m3 c3, .slice a4 m4 c4, .slice a5 m5 c5])
 have HX3 := Lib.hid (HX2.out.puts (g := w.heap.size) (o := 0) (by omega) [.slice a0 m0 c0, .slice a1 m1 c1, .slice a2 m2 c2, .slice a3 m3 c3, .slice a4 m4 c4, .slice a5 m5 c5])
 clear HX2
 have hP3 := c6_puts w2 w.heap.size (.slice a0 m0 c0) (.slice a1 m1 c1) (.slice a2 m2 c2) (.slice a3 m3 c3) (.slice a4 m4 c4) (.slice a5 m5 c5) HT2.out
 have hB3 := below_puts (g := w.heap.size) (o := 0) HB2.out (Nat.le_refl _) [.slice a0 m0 c0, .slice a1 m1 c1, .slice a2 m2 c2, .slice a3 m3 c3, .slice a4 m4 c4, .slice a5 m5 c5]
 have hZ3 := Nat.lt_of_lt_of_le HZ2.out (below_puts_base (g := w.heap.size) (o := 0) (Below.refl 0 w2) (Nat.zero_le _) [.slice a0 m0 c0, .slice a1 m1 c1, .slice a2 m2 c2, .slice a3 m3 c3, .slice a4 m4 c4, .slice a5 m5 c5]).size
 generalize w2.setCells w.heap.size 0 [.slice a0 m0 c0, .slice a1 m1 c1, .slice a2 m2 c2, .slice a3 m3 c3, .slice a4 m4 c4, .slice a5 m5 c5] = w3 at *
 clear f0 f1 f2 f3 f4 f5 P0 P1 P2 P3 P4 P5 HB2 HT2 HZ2
 have HP3 := Lib.hid hP3
 have HB3 := Lib.hid hB3
 have HZ3 := Lib.hid hZ3
 clear hP3 hB3 hZ3
 have kf := KFEW.out w3 HB3.out
 clear KFEW HA
 go_wp2_with fail
 refine kf.mono ?_
 rintro e w4 ⟨u1, u2, L, rfl, hb4, hO, hD, hmap⟩
 have h10 : L.length ≤ 10 := by
  have := congrArg List.length hmap
  rw [List.length_map, List.length_map, List.length_take] at this
  omega
 have H12 : Hid (∀ y ∈ L, y.1.fl.length ≤ 12) := Lib.hid (fun y hy => by
  have hm : y.1 ∈ (l.take 10).map (fun p => cutA p.1) := hmap ▸ List.mem_map_of_mem hy
  obtain ⟨z, _, hz⟩ := List.mem_map.1 hm
  rw [← hz]
  exact List.length_take_le _ _)
 obtain ⟨oa, oc, rfl, hoc, hor⟩ := RdAt.shape hO.row
 obtain ⟨da, dc, rfl, hdc, _⟩ := RdAt.shape hD.row
 have HB4 := Lib.hid (HB3.out.trans (hb4.mono HB3.out.size))
 have HP4 := Lib.hid (HP3.out.later hb4 HZ3.out)
 have HZ4 := Lib.hid (Nat.lt_of_lt_of_le HZ3.out hb4.size)
 have HX4 := Lib.hid (HX3.out.later hb4)
 clear HX3
 have HO4 := Lib.hid hO
 have HD4 := Lib.hid hD
 clear kf hb4 hO hD hmap hor HB3 HP3 HZ3
 have x0 := HX4.out.get 0 _ rfl
 go_upto_region 6 with fail
 change Code.wp _ _ _ _ (w4.alloc (.cells #[.int .i64 at0, .int .u32 3] 36))
 obtain ⟨s5, b5, c5'⟩ := alloc_facts w4 [.int .i64 at0, .int .u32 3] 36 _ rfl
 generalize hw5 : w4.alloc (.cells [.int .i64 at0, .int .u32 3].toArray 36) = w5 at *
 clear hw5
 have HB5 := Lib.hid (HB4.out.trans (b5.mono HB4.out.size))
 have HP5 := Lib.hid (HP4.out.later b5 HZ4.out)
 have HO5 := Lib.hid (HO4.out.later b5)
 have HD5 := Lib.hid (HD4.out.later b5)
 have HX5 := Lib.hid (HX4.out.later b5)
 clear HX4
 have HT5 := Lib.hid (And.intro (c5' 0 _ rfl) (c5' 1 _ rfl))
 have hgl : w4.heap.size < w5.heap.size := by omega
 have hgw : w.heap.size < w5.heap.size := by have := HZ4.out; omega
 generalize w4.heap.size = gl at *
 clear b5 c5' HB4 HP4 HO4 HD4 s5
 clear x0
 have hqq := HQP.out
 obtain ⟨_, _, _, _, _, h5, h5b⟩ := hqq
 dsimp only at h5
 rw [HM5.out] at h5
 obtain ⟨a5', c5', hs5, _, hir⟩ := RdAt.shape h5
 simp only [Value.slice.injEq] at hs5
 obtain ⟨hs5a, _, hs5c⟩ := hs5
 subst hs5a
 subst hs5c
 have HIR := Lib.hid hir
 have HBW := Lib.hid (Below.refl w.heap.size w)
 have hm14 := H14.out
 rw [HM5.out] at hm14
 clear h5 h5b hir HBW
 go_wp2
 go_loopw [10] (fun i wr => ∃ (n : Nat), i = .int .i64 n ∧ n ≤ m5 ∧ Hid (∀ (j : Nat) (h : j < q.ih.length), j < n → flowsL (q.ih[j]).lv (q.ih[j]).c at0 3 = false) ∧ Hid (Below w5.heap.size w5 wr)) (fun i _ => m5 - (intOf i).toNat)
 case atStart => exact ⟨0, rfl, Nat.zero_le _, Lib.hid (fun j _ h => absurd h (Nat.not_lt_zero j)), Lib.hid (Below.refl _ _)⟩
 case round =>
  obtain ⟨n, rfl, hn, HN, HB⟩ := hrel
  obtain ⟨q0, q1, q2, q3, q4, q5⟩ := HP5.out.later HB.out hgw
  by_cases hnl : n < m5
  ·have hnq : n < q.ih.length := by rw [HM5.out]; exact hnl
   obtain ⟨b5, o5, rfl, hb5, hc5⟩ := HIR.out (by omega)
   have hBw := HB5.out.trans (HB.out.mono HB5.out.size)
   have hat := fun i v h => cellsG_at ihC_len q.ih n hnq i v h
   have z1 := keep_cell (hc5 _ _ (hat 1 _ rfl)) hBw hb5
   have z2 := keep_cell (hc5 _ _ (hat 2 _ rfl)) hBw hb5
   rw [← Nat.add_assoc] at z1 z2
   have hxc := (HQF.out.h5 _ (List.getElem_mem hnq)).c
   have HNX : Hid (flowsL (q.ih[n]).lv (q.ih[n]).c at0 3 = false → ∀ (j : Nat) (h : j < q.ih.length), j < n + 1 → flowsL (q.ih[j]).lv (q.ih[j]).c at0 3 = false) := Lib.hid (fun he j h hj => by
    rcases Nat.lt_or_ge j n with h1 | h1
    ·exact HN.out j h h1
    ·obtain rfl : j = n := by omega
     exact he)
   generalize q.ih[n] = y at *
   obtain ⟨bys, xlv, xc, frm, whn, bv, fv, wv⟩ := y
   dsimp only at *
   have t0 := keep_cell HT5.out.1 HB.out hgl
   have t1 := keep_cell HT5.out.2 HB.out hgl
   have KF := Lib.hid (fun W => rflows_any xlv xc at0 3 W hxc (by decide))
   have ltq : w.heap.size < wr.heap.size := Nat.lt_of_lt_of_le hgw HB.out.size
   have ltt : gl < wr.heap.size := Nat.lt_of_lt_of_le hgl HB.out.size
   have ltz : b5 < wr.heap.size := Nat.lt_of_lt_of_le hb5 hBw.size
   have hi0 : (0 : Int) ≤ (n : Int) := by omega
   have hi1 : (n : Int) < (m5 : Int) := by omega
   generalize flowsL xlv xc at0 3 = FL at *
   clear hat hc5 hBw hnq hxc HN q0 q1 q2 q3 q4
   go_upto_region 9 with fail
   refine wp_region_held_drew (S := (fun W => W.cell? ⟨w.heap.size, 5, none⟩ = some (.slice (some ⟨b5, o5, none⟩) m5 c5) ∧ W.cell? ⟨b5, o5 + n * 5 + 1, none⟩ = some (.int .i64 xlv) ∧ W.cell? ⟨b5, o5 + n * 5 + 2, none⟩ = some (.int .u32 xc) ∧ W.cell? ⟨gl, 0, none⟩ = some (.int .i64 at0) ∧ W.cell? ⟨gl, 1, none⟩ = some (.int .u32 3))) (by kernel_rfl) ⟨q5, z1, z2, t0, t1⟩ (fun hHeld => ?_)
   have hd : Below wr.heap.size wr wr.drew := (Below.refl _ _).drew
   refine hT (i := 0) (v := ?_) rfl rfl hHeld ?_ ?_
   rotate_left
   ·rintro wh ⟨z_0, z_1, z_2, z_3, z_4⟩
    go_simp
    (try with_reducible rfl)
   simp only [Act.put, List.setIfInBounds_toArray, List.set_cons_zero, List.set_cons_succ]
   refine hT (i := 1) (v := ?_) rfl rfl hHeld ?_ ?_
   rotate_left
   ·rintro wh ⟨z_0, z_1, z_2, z_3, z_4⟩
    go_simp
    (try with_reducible rfl)
   simp only [Act.put, List.setIfInBounds_toArray, List.set_cons_zero, List.set_cons_succ]
   refine hT (i := 2) (v := ?_) rfl rfl hHeld ?_ ?_
   rotate_left
   ·rintro wh ⟨z_0, z_1, z_2, z_3, z_4⟩
    go_simp
    (try with_reducible rfl)
   simp only [Act.put, List.setIfInBounds_toArray, List.set_cons_zero, List.set_cons_succ]
   refine hT (i := 3) (v := ?_) rfl rfl hHeld ?_ ?_
   rotate_left
   ·rintro wh ⟨z_0, z_1, z_2, z_3, z_4⟩
    go_simp
    (try with_reducible rfl)
   simp only [Act.put, List.setIfInBounds_toArray, List.set_cons_zero, List.set_cons_succ]
   refine hT (i := 4) (v := ?_) rfl rfl hHeld ?_ ?_
   rotate_left
   ·rintro wh ⟨z_0, z_1, z_2, z_3, z_4⟩
    go_simp
    (try with_reducible rfl)
   simp only [Act.put, List.setIfInBounds_toArray, List.set_cons_zero, List.set_cons_succ]
   refine hT (i := 5) (v := ?_) rfl rfl hHeld ?_ ?_
   rotate_left
   ·rintro wh ⟨z_0, z_1, z_2, z_3, z_4⟩
    go_simp
    (try with_reducible rfl)
   simp only [Act.put, List.setIfInBounds_toArray, List.set_cons_zero, List.set_cons_succ]
   refine hT (i := 6) (v := ?_) rfl rfl hHeld ?_ ?_
   rotate_left
   ·rintro wh ⟨z_0, z_1, z_2, z_3, z_4⟩
    go_simp
    (try with_reducible rfl)
   simp only [Act.put, List.setIfInBounds_toArray, List.set_cons_zero, List.set_cons_succ]
   refine held_call (i := 7) rfl (by kernel_rfl) (by rfl) (fun K hK => ?_)
   (go_simp; go_at_call 19; refine (KF.out _).mono ?_; rintro e w6 ⟨rfl, hb6⟩; have hB6 := hd.trans (hb6.mono hd.size))
   refine hK.out _ _ ⟨keep_cell q5 hB6 ltq, keep_cell z1 hB6 ltz, keep_cell z2 hB6 ltz, keep_cell t0 hB6 ltt, keep_cell t1 hB6 ltt⟩ (fun hHeld => ?_)
   clear hK K
   (try simp only [Act.put, List.setIfInBounds_toArray, List.set_cons_zero, List.set_cons_succ])
   refine wpAnyH_done (by kernel_rfl) ?_ _
   have HB6 := Lib.hid (HB.out.trans (hB6.mono HB.out.size))
   clear hd hb6 hB6 q5 z1 z2 t0 t1 KF HB
   cases FL
   ·have HN1 := Lib.hid (HNX.out rfl)
    go_wp2
    go_roundw
    case rel => exact ⟨n + 1, by go_num, by omega, HN1, HB6⟩
    case measure => (simp [intOf]; try omega)
   ·go_wp2
    go_ret
    exact ⟨rfl, HB5.out.trans (HB6.out.mono HB5.out.size)⟩
  ·obtain rfl : m5 = n := by omega
   have HLW : Hid (∀ x ∈ q.ih, flowsL x.lv x.c at0 3 = false) := Lib.hid (fun x hx => by
    obtain ⟨j, hj, rfl⟩ := List.getElem_of_mem hx
    exact HN.out j hj (by have := HM5.out; omega))
   have HQN : Hid (∀ k, quietK q L k (at0, 3) at1 = []) := Lib.hid (quietK_low HLW.out)
   have HIL : Hid (leftL q L (at0, 3) at1 = idxF (fun a => toldA q.ra (at0, 3) at1 a && decide (checkP q = 0)) L) := Lib.hid (left_low HLW.out)
   have HGD : Hid (∀ a, (fun a => toldA q.ra (at0, 3) at1 a && decide (checkP q = 0)) a = (cutOk q.ra a.1.fl (a.1.lv, a.1.c) (at0, 3) && rightA a.1 && firesA a.1 at1 && decide (checkP q = 0))) := Lib.hid (fun a => rfl)
   generalize (fun a => toldA q.ra (at0, 3) at1 a && decide (checkP q = 0)) = G at *
   obtain ⟨w6, hw6⟩ : ∃ z, z = wr := ⟨_, rfl⟩
   have HB6 := Lib.hid (HB5.out.trans (HB.out.mono HB5.out.size))
   have HP6 := Lib.hid (HP5.out.later HB.out hgw)
   have HT6 := Lib.hid (And.intro (keep_cell HT5.out.1 HB.out hgl) (keep_cell HT5.out.2 HB.out hgl))
   have HO6 := Lib.hid (HO5.out.later HB.out)
   have HD6 := Lib.hid (HD5.out.later HB.out)
   have HX6 := Lib.hid (HX5.out.later HB.out)
   have hgl6 : gl < wr.heap.size := Nat.lt_of_lt_of_le hgl HB.out.size
   have hgw6 : w.heap.size < wr.heap.size := Nat.lt_of_lt_of_le hgw HB.out.size
   clear HB HB5 HP5 HT5 HO5 HD5 HX5 hgl hgw q0 q1 q2 q3 q4 HN HIR HLW
   subst hw6
   obtain ⟨i0, hi, hz0, hz1, hz2⟩ := info_parts infoInt13
   have KQ6 := Lib.hid (fun k W (h : Below w6.heap.size w6 W) => KQT.out L _ k at0 3 at1 W (HB6.out.trans (h.mono HB6.out.size)) (HO6.out.later h) (by unfold maxLen; omega))
   have KL6 := Lib.hid (fun W (h : Below w6.heap.size w6 W) => KLF.out L _ at0 3 at1 W (HB6.out.trans (h.mono HB6.out.size)) (HO6.out.later h) (by omega) H12.out)
   rw [HIL.out] at KL6
   go_wp2
   go_loopw [11, 12] (fun s11 i wr => ∃ (n : Nat), i = .int .i64 n ∧ n ≤ L.length ∧ Hid (wr.ownsRow w6.heap.size 3 1 s11 (idxTo G L n).length ((idxTo G L n).map I)) ∧ Hid (Below w6.heap.size w6 wr)) (fun _ i _ => L.length - (intOf i).toNat)
   case atStart => exact ⟨0, rfl, Nat.zero_le _, Lib.hid (World.ownsRow_nil _ _ _ _), Lib.hid (Below.refl _ _)⟩
   case round =>
    clear q5
    obtain ⟨n, rfl, hn, HO, HB⟩ := hrel
    by_cases hnl : n < L.length
    ·have hBw := HB6.out.trans (HB.out.mono HB6.out.size)
     have hOw := HO6.out.later HB.out
     have hDw := HD6.out.later HB.out
     obtain ⟨la', lc', hsh, _, hor⟩ := RdAt.shape hOw.row
     obtain ⟨b, o, hb, hbl, hcell⟩ := hor (by omega)
     simp only [Value.slice.injEq] at hsh
     obtain ⟨hsh1, _, hsh3⟩ := hsh
     subst hsh1
     subst hsh3
     subst hb
     obtain ⟨ld', lx', hsh, _, hod⟩ := RdAt.shape hDw.row
     obtain ⟨bd, od, hb, hbd, hcelld⟩ := hod (by omega)
     simp only [Value.slice.injEq] at hsh
     obtain ⟨hsh1, _, hsh3⟩ := hsh
     subst hsh1
     subst hsh3
     subst hb
     have hat := alCells_at L n hnl
     have p0 := hcell _ _ (hat 0 _ rfl)
     have p1 := hcell _ _ (hat 1 _ rfl)
     have p2 := hcell _ _ (hat 2 _ rfl)
     have p3 := hcell _ _ (hat 3 _ rfl)
     have p4 := hcell _ _ (hat 4 _ rfl)
     have p5 := hcell _ _ (hat 5 _ rfl)
     rw [Nat.add_zero] at p0
     rw [← Nat.add_assoc] at p1 p2 p3 p4 p5
     have d0 := hcelld _ _ (hat 0 _ rfl)
     have d1 := hcelld _ _ (hat 1 _ rfl)
     have d2 := hcelld _ _ (hat 2 _ rfl)
     have d3 := hcelld _ _ (hat 3 _ rfl)
     have d4 := hcelld _ _ (hat 4 _ rfl)
     have d5 := hcelld _ _ (hat 5 _ rfl)
     rw [Nat.add_zero] at d0
     rw [← Nat.add_assoc] at d1 d2 d3 d4 d5
     have hmem := List.getElem_mem hnl
     obtain ⟨hfk, hfit⟩ := hOw.fld _ hmem
     have hf12 := H12.out _ hmem
     have HST := Lib.hid (idxTo_step G L hnl)
     have hil := idxTo_len G L n
     have KK := Lib.hid (fun W (h : Below wr.heap.size wr W) => KCH.out W (hBw.trans (h.mono hBw.size)))
     have HGX := Lib.hid (HGD.out L[n])
     generalize checkP q = ck at *
     generalize L[n] = y at *
     obtain ⟨⟨src, fl, alv, ac, fr, til⟩, fv⟩ := y
     dsimp only at *
     obtain ⟨fa, fc, rfl, hfc, _⟩ := RdAt.shape hfk
     obtain ⟨m, hm⟩ : ∃ m, cutAl q.ra ⟨src, fl, alv, ac, fr, til⟩ (at0, 3) = m := ⟨_, rfl⟩
     obtain ⟨ok, hok⟩ : ∃ z, cutOk q.ra fl (alv, ac) (at0, 3) = z := ⟨_, rfl⟩
     have CM := Lib.hid (fun W (h : Below wr.heap.size wr W) => KCT.out ⟨src, fl, alv, ac, fr, til⟩ m ok fa fc at0 3 W (hBw.trans (h.mono hBw.size)) (hfk.later h) hf12 hok hm)
     obtain ⟨us, uL, ql, qc, uf, ut⟩ := m
     dsimp only at CM
     rw [hok] at HGX
     have KF := Lib.hid (fun V => fires_any src fa fl.length fc alv ac fr til at1 V)
     have hF : firesA ⟨src, fl, alv, ac, fr, til⟩ at1 = (decide (fr ≤ at1) && (decide (til = 0) || decide (at1 < til))) := rfl
     rw [← hF] at KF
     have KR := Lib.hid (fun V (h : Below wr.heap.size wr V) => r9right_any src fl alv ac fr til _ V hfit.src (hfk.later h) hfit.fl hfit.len)
     have hR : rightA ⟨src, fl, alv, ac, fr, til⟩ = (whoA src fl alv && beginsA fr && endsA fr til) := rfl
     rw [← hR] at KR
     clear hR
     generalize rightA ⟨src, fl, alv, ac, fr, til⟩ = RA at *
     generalize firesA ⟨src, fl, alv, ac, fr, til⟩ at1 = FI at *
     generalize G (⟨src, fl, alv, ac, fr, til⟩, Value.slice fa fl.length fc) = GX at *
     obtain ⟨q0, q1, q2, q3, q4, q5⟩ := HP6.out.later HB.out hgw6
     have t0 := keep_cell HT6.out.1 HB.out hgl6
     have t1 := keep_cell HT6.out.2 HB.out hgl6
     have x1 := (HX6.out.later HB.out).get 1 _ rfl
     have ltx : w.heap.size + 1 < wr.heap.size := (HX6.out.later HB.out).lt
     have ltq : w.heap.size < wr.heap.size := Nat.lt_of_lt_of_le hgw6 HB.out.size
     have ltt : gl < wr.heap.size := Nat.lt_of_lt_of_le hgl6 HB.out.size
     have ltb : b < wr.heap.size := hbl
     have ltd : bd < wr.heap.size := hbd
     have hi0 : (0 : Int) ≤ (n : Int) := by omega
     have hi1 : (n : Int) < (L.length : Int) := by omega
     clear hm hok hF hfk hfit hOw hDw hBw hmem hat hcell hcelld hor hod
     go_upto_region 15 with fail
     go_cut [13, 14] (fun s13 s14 wx => s14 = .bool ok ∧ Below wr.heap.size wr wx)
     case first =>
      refine wp_region_held_drew (S := (fun W => W.cell? ⟨w.heap.size, 0, none⟩ = some (.slice a0 m0 c0) ∧ W.cell? ⟨w.heap.size, 1, none⟩ = some (.slice a1 m1 c1) ∧ W.cell? ⟨w.heap.size, 2, none⟩ = some (.slice a2 m2 c2) ∧ W.cell? ⟨w.heap.size, 3, none⟩ = some (.slice a3 m3 c3) ∧ W.cell? ⟨w.heap.size, 4, none⟩ = some (.slice a4 m4 c4) ∧ W.cell? ⟨w.heap.size, 5, none⟩ = some (.slice a5 m5 c5) ∧ W.cell? ⟨gl, 0, none⟩ = some (.int .i64 at0) ∧ W.cell? ⟨gl, 1, none⟩ = some (.int .u32 3) ∧ W.cell? ⟨b, o + n * 6, none⟩ = some (.string src) ∧ W.cell? ⟨b, o + n * 6 + 1, none⟩ = some (.slice fa fl.length fc) ∧ W.cell? ⟨b, o + n * 6 + 2, none⟩ = some (.int .i64 alv) ∧ W.cell? ⟨b, o + n * 6 + 3, none⟩ = some (.int .u32 ac) ∧ W.cell? ⟨b, o + n * 6 + 4, none⟩ = some (.int .i64 fr) ∧ W.cell? ⟨b, o + n * 6 + 5, none⟩ = some (.int .i64 til))) (by kernel_rfl) ⟨q0, q1, q2, q3, q4, q5, t0, t1, p0, p1, p2, p3, p4, p5⟩ (fun hHeld => ?_)
      have hd : Below wr.heap.size wr wr.drew := (Below.refl _ _).drew
      generalize wr.drew = wd at *
      refine hT (i := 0) (v := ?_) rfl rfl hHeld ?_ ?_
      rotate_left
      ·intro wh hz; iterate 13 obtain ⟨_, hz⟩ := hz
       go_simp
       (try with_reducible rfl)
      simp only [Act.put, List.setIfInBounds_toArray, List.set_cons_zero, List.set_cons_succ]
      refine hT (i := 1) (v := ?_) rfl rfl hHeld ?_ ?_
      rotate_left
      ·intro wh hz; iterate 13 obtain ⟨_, hz⟩ := hz
       go_simp
       (try with_reducible rfl)
      simp only [Act.put, List.setIfInBounds_toArray, List.set_cons_zero, List.set_cons_succ]
      refine hT (i := 2) (v := ?_) rfl rfl hHeld ?_ ?_
      rotate_left
      ·intro wh hz; iterate 13 obtain ⟨_, hz⟩ := hz
       go_simp
       (try with_reducible rfl)
      simp only [Act.put, List.setIfInBounds_toArray, List.set_cons_zero, List.set_cons_succ]
      refine hT (i := 3) (v := ?_) rfl rfl hHeld ?_ ?_
      rotate_left
      ·intro wh hz; iterate 13 obtain ⟨_, hz⟩ := hz
       go_simp
       (try with_reducible rfl)
      simp only [Act.put, List.setIfInBounds_toArray, List.set_cons_zero, List.set_cons_succ]
      refine hT (i := 4) (v := ?_) rfl rfl hHeld ?_ ?_
      rotate_left
      ·intro wh hz; iterate 13 obtain ⟨_, hz⟩ := hz
       go_simp
       (try with_reducible rfl)
      simp only [Act.put, List.setIfInBounds_toArray, List.set_cons_zero, List.set_cons_succ]
      refine hT (i := 5) (v := ?_) rfl rfl hHeld ?_ ?_
      rotate_left
      ·intro wh hz; iterate 13 obtain ⟨_, hz⟩ := hz
       go_simp
       (try with_reducible rfl)
      simp only [Act.put, List.setIfInBounds_toArray, List.set_cons_zero, List.set_cons_succ]
      refine held_two (i := 6) (j := 10) rfl rfl (by kernel_rfl) (fun K hK => ?_) (fun K hK => ?_)
      ·go_simp; go_at_call 20; refine (CM.out _ hd).mono ?_; rintro e w_1 ⟨ua, ud, rfl, hF_1, hO_1, hb_1⟩
       have hB_1 := hd.trans (hb_1.mono hd.size)
       refine hK.out _ _ ⟨keep_cell q0 hB_1 ltq, keep_cell q1 hB_1 ltq, keep_cell q2 hB_1 ltq, keep_cell q3 hB_1 ltq, keep_cell q4 hB_1 ltq, keep_cell q5 hB_1 ltq, keep_cell t0 hB_1 ltt, keep_cell t1 hB_1 ltt, keep_cell p0 hB_1 ltb, keep_cell p1 hB_1 ltb, keep_cell p2 hB_1 ltb, keep_cell p3 hB_1 ltb, keep_cell p4 hB_1 ltb, keep_cell p5 hB_1 ltb⟩ (fun hHeld => ?_)
       clear hK K
       (try simp only [Act.put, List.setIfInBounds_toArray, List.set_cons_zero, List.set_cons_succ])
       refine hT (i := 7) (v := ?_) rfl rfl hHeld ?_ ?_
       rotate_left
       ·intro wh hz; iterate 13 obtain ⟨_, hz⟩ := hz
        go_simp
        (try with_reducible rfl)
       simp only [Act.put, List.setIfInBounds_toArray, List.set_cons_zero, List.set_cons_succ]
       refine hT (i := 8) (v := ?_) rfl rfl hHeld ?_ ?_
       rotate_left
       ·intro wh hz; iterate 13 obtain ⟨_, hz⟩ := hz
        go_simp
        (try with_reducible rfl)
       simp only [Act.put, List.setIfInBounds_toArray, List.set_cons_zero, List.set_cons_succ]
       refine hT (i := 9) (v := ?_) rfl rfl hHeld ?_ ?_
       rotate_left
       ·intro wh hz; iterate 13 obtain ⟨_, hz⟩ := hz
        go_simp
        (try with_reducible rfl)
       simp only [Act.put, List.setIfInBounds_toArray, List.set_cons_zero, List.set_cons_succ]
       refine held_step (i := 10) rfl (by kernel_rfl) (fun K hK => ?_)
       have hb_2 := alloc_below w_1 (.cells #[.string ⟨#[]⟩, .slice none 0 0, .int .i64 0, .int .u32 0, .int .i64 0, .int .i64 0] 54)
       have hT_2 := box_there (Below.refl (w_1.alloc (.cells #[.string ⟨#[]⟩, .slice none 0 0, .int .i64 0, .int .u32 0, .int .i64 0, .int .i64 0] 54)).heap.size (w_1.alloc (.cells #[.string ⟨#[]⟩, .slice none 0 0, .int .i64 0, .int .u32 0, .int .i64 0, .int .i64 0] 54)))
       have hL_2 : w_1.heap.size < (w_1.alloc (.cells #[.string ⟨#[]⟩, .slice none 0 0, .int .i64 0, .int .u32 0, .int .i64 0, .int .i64 0] 54)).heap.size := by rw [World.size_alloc]; omega
       have hG_2 := hB_1.size
       have hB_2 := hB_1.trans (hb_2.mono hB_1.size)
       go_simp
       refine hK.out _ _ ⟨keep_cell q0 hB_2 ltq, keep_cell q1 hB_2 ltq, keep_cell q2 hB_2 ltq, keep_cell q3 hB_2 ltq, keep_cell q4 hB_2 ltq, keep_cell q5 hB_2 ltq, keep_cell t0 hB_2 ltt, keep_cell t1 hB_2 ltt, keep_cell p0 hB_2 ltb, keep_cell p1 hB_2 ltb, keep_cell p2 hB_2 ltb, keep_cell p3 hB_2 ltb, keep_cell p4 hB_2 ltb, keep_cell p5 hB_2 ltb⟩ (fun hHeld => ?_)
       clear hK K
       (try simp only [Act.put, List.setIfInBounds_toArray, List.set_cons_zero, List.set_cons_succ])
       generalize w_1.alloc (.cells #[.string ⟨#[]⟩, .slice none 0 0, .int .i64 0, .int .u32 0, .int .i64 0, .int .i64 0] 54) = w_2 at *
       have rv_0 := there_free hT_2 0 (by decide)
       have rv_1 := there_free hT_2 1 (by decide)
       have rv_2 := there_free hT_2 2 (by decide)
       have rv_3 := there_free hT_2 3 (by decide)
       have rv_4 := there_free hT_2 4 (by decide)
       have rv_5 := there_free hT_2 5 (by decide)
       obtain ⟨yv_0, hyv_0⟩ := there_cell hT_2 0 (by decide)
       obtain ⟨yv_1, hyv_1⟩ := there_cell hT_2 1 (by decide)
       obtain ⟨yv_2, hyv_2⟩ := there_cell hT_2 2 (by decide)
       obtain ⟨yv_3, hyv_3⟩ := there_cell hT_2 3 (by decide)
       obtain ⟨yv_4, hyv_4⟩ := there_cell hT_2 4 (by decide)
       obtain ⟨yv_5, hyv_5⟩ := there_cell hT_2 5 (by decide)
       have HB_3 : Hid (Below wr.heap.size wr (w_2.setCells w_1.heap.size 0 [.string us, .slice ua uL.length ud, .int .i64 ql, .int .u32 qc, .int .i64 uf, .int .i64 ut])) := Lib.hid (below_puts (g := w_1.heap.size) (o := 0) hB_2 hG_2 [.string us, .slice ua uL.length ud, .int .i64 ql, .int .u32 qc, .int .i64 uf, .int .i64 ut])
       refine held_step (i := 11) rfl (by kernel_rfl) (fun K hK => ?_)
       go_simp
       refine hK.out _ (w_2.setCells w_1.heap.size 0 [.string us, .slice ua uL.length ud, .int .i64 ql, .int .u32 qc, .int .i64 uf, .int .i64 ut]) ⟨keep_cell q0 HB_3.out ltq, keep_cell q1 HB_3.out ltq, keep_cell q2 HB_3.out ltq, keep_cell q3 HB_3.out ltq, keep_cell q4 HB_3.out ltq, keep_cell q5 HB_3.out ltq, keep_cell t0 HB_3.out ltt, keep_cell t1 HB_3.out ltt, keep_cell p0 HB_3.out ltb, keep_cell p1 HB_3.out ltb, keep_cell p2 HB_3.out ltb, keep_cell p3 HB_3.out ltb, keep_cell p4 HB_3.out ltb, keep_cell p5 HB_3.out ltb⟩ (fun hHeld => ?_)
       clear hK K
       (try simp only [Act.put, List.setIfInBounds_toArray, List.set_cons_zero, List.set_cons_succ])
       generalize (w_2.setCells w_1.heap.size 0 [.string us, .slice ua uL.length ud, .int .i64 ql, .int .u32 qc, .int .i64 uf, .int .i64 ut]) = w_3 at *
       refine hT (i := 12) (v := ?_) rfl rfl hHeld ?_ ?_
       rotate_left
       ·intro wh hz; iterate 13 obtain ⟨_, hz⟩ := hz
        go_simp
        (try with_reducible rfl)
       simp only [Act.put, List.setIfInBounds_toArray, List.set_cons_zero, List.set_cons_succ]
       refine wpAnyH_done (by kernel_rfl) ?_ _
       go_wp2
       go_meet
       exact ⟨rfl, HB_3.out⟩
      ·have hb_4 := alloc_below wd (.cells #[.string ⟨#[]⟩, .slice none 0 0, .int .i64 0, .int .u32 0, .int .i64 0, .int .i64 0] 54)
       have hT_4 := box_there (Below.refl (wd.alloc (.cells #[.string ⟨#[]⟩, .slice none 0 0, .int .i64 0, .int .u32 0, .int .i64 0, .int .i64 0] 54)).heap.size (wd.alloc (.cells #[.string ⟨#[]⟩, .slice none 0 0, .int .i64 0, .int .u32 0, .int .i64 0, .int .i64 0] 54)))
       have hL_4 : wd.heap.size < (wd.alloc (.cells #[.string ⟨#[]⟩, .slice none 0 0, .int .i64 0, .int .u32 0, .int .i64 0, .int .i64 0] 54)).heap.size := by rw [World.size_alloc]; omega
       have hG_4 := hd.size
       have hB_4 := hd.trans (hb_4.mono hd.size)
       go_simp
       refine hK.out _ _ ⟨keep_cell q0 hB_4 ltq, keep_cell q1 hB_4 ltq, keep_cell q2 hB_4 ltq, keep_cell q3 hB_4 ltq, keep_cell q4 hB_4 ltq, keep_cell q5 hB_4 ltq, keep_cell t0 hB_4 ltt, keep_cell t1 hB_4 ltt, keep_cell p0 hB_4 ltb, keep_cell p1 hB_4 ltb, keep_cell p2 hB_4 ltb, keep_cell p3 hB_4 ltb, keep_cell p4 hB_4 ltb, keep_cell p5 hB_4 ltb⟩ (fun hHeld => ?_)
       clear hK K
       (try simp only [Act.put, List.setIfInBounds_toArray, List.set_cons_zero, List.set_cons_succ])
       generalize wd.alloc (.cells #[.string ⟨#[]⟩, .slice none 0 0, .int .i64 0, .int .u32 0, .int .i64 0, .int .i64 0] 54) = w_4 at *
       refine held_step (i := 6) rfl (by kernel_rfl) (fun K hK => ?_)
       go_simp; go_at_call 20; refine (CM.out _ hB_4).mono ?_; rintro e w_5 ⟨ua, ud, rfl, hF_5, hO_5, hb_5⟩
       have hB_5 := hB_4.trans (hb_5.mono hB_4.size)
       have hTA_5 := there_later hT_4 hb_5 hL_4
       have hLA_5 := Nat.lt_of_lt_of_le hL_4 hb_5.size
       refine hK.out _ _ ⟨keep_cell q0 hB_5 ltq, keep_cell q1 hB_5 ltq, keep_cell q2 hB_5 ltq, keep_cell q3 hB_5 ltq, keep_cell q4 hB_5 ltq, keep_cell q5 hB_5 ltq, keep_cell t0 hB_5 ltt, keep_cell t1 hB_5 ltt, keep_cell p0 hB_5 ltb, keep_cell p1 hB_5 ltb, keep_cell p2 hB_5 ltb, keep_cell p3 hB_5 ltb, keep_cell p4 hB_5 ltb, keep_cell p5 hB_5 ltb⟩ (fun hHeld => ?_)
       clear hK K
       (try simp only [Act.put, List.setIfInBounds_toArray, List.set_cons_zero, List.set_cons_succ])
       refine hT (i := 7) (v := ?_) rfl rfl hHeld ?_ ?_
       rotate_left
       ·intro wh hz; iterate 13 obtain ⟨_, hz⟩ := hz
        go_simp
        (try with_reducible rfl)
       simp only [Act.put, List.setIfInBounds_toArray, List.set_cons_zero, List.set_cons_succ]
       refine hT (i := 8) (v := ?_) rfl rfl hHeld ?_ ?_
       rotate_left
       ·intro wh hz; iterate 13 obtain ⟨_, hz⟩ := hz
        go_simp
        (try with_reducible rfl)
       simp only [Act.put, List.setIfInBounds_toArray, List.set_cons_zero, List.set_cons_succ]
       refine hT (i := 9) (v := ?_) rfl rfl hHeld ?_ ?_
       rotate_left
       ·intro wh hz; iterate 13 obtain ⟨_, hz⟩ := hz
        go_simp
        (try with_reducible rfl)
       simp only [Act.put, List.setIfInBounds_toArray, List.set_cons_zero, List.set_cons_succ]
       have rv_0 := there_free hTA_5 0 (by decide)
       have rv_1 := there_free hTA_5 1 (by decide)
       have rv_2 := there_free hTA_5 2 (by decide)
       have rv_3 := there_free hTA_5 3 (by decide)
       have rv_4 := there_free hTA_5 4 (by decide)
       have rv_5 := there_free hTA_5 5 (by decide)
       obtain ⟨yv_0, hyv_0⟩ := there_cell hTA_5 0 (by decide)
       obtain ⟨yv_1, hyv_1⟩ := there_cell hTA_5 1 (by decide)
       obtain ⟨yv_2, hyv_2⟩ := there_cell hTA_5 2 (by decide)
       obtain ⟨yv_3, hyv_3⟩ := there_cell hTA_5 3 (by decide)
       obtain ⟨yv_4, hyv_4⟩ := there_cell hTA_5 4 (by decide)
       obtain ⟨yv_5, hyv_5⟩ := there_cell hTA_5 5 (by decide)
       have HB_6 : Hid (Below wr.heap.size wr (w_5.setCells wd.heap.size 0 [.string us, .slice ua uL.length ud, .int .i64 ql, .int .u32 qc, .int .i64 uf, .int .i64 ut])) := Lib.hid (below_puts (g := wd.heap.size) (o := 0) hB_5 hG_4 [.string us, .slice ua uL.length ud, .int .i64 ql, .int .u32 qc, .int .i64 uf, .int .i64 ut])
       refine held_step (i := 11) rfl (by kernel_rfl) (fun K hK => ?_)
       go_simp
       refine hK.out _ (w_5.setCells wd.heap.size 0 [.string us, .slice ua uL.length ud, .int .i64 ql, .int .u32 qc, .int .i64 uf, .int .i64 ut]) ⟨keep_cell q0 HB_6.out ltq, keep_cell q1 HB_6.out ltq, keep_cell q2 HB_6.out ltq, keep_cell q3 HB_6.out ltq, keep_cell q4 HB_6.out ltq, keep_cell q5 HB_6.out ltq, keep_cell t0 HB_6.out ltt, keep_cell t1 HB_6.out ltt, keep_cell p0 HB_6.out ltb, keep_cell p1 HB_6.out ltb, keep_cell p2 HB_6.out ltb, keep_cell p3 HB_6.out ltb, keep_cell p4 HB_6.out ltb, keep_cell p5 HB_6.out ltb⟩ (fun hHeld => ?_)
       clear hK K
       (try simp only [Act.put, List.setIfInBounds_toArray, List.set_cons_zero, List.set_cons_succ])
       generalize (w_5.setCells wd.heap.size 0 [.string us, .slice ua uL.length ud, .int .i64 ql, .int .u32 qc, .int .i64 uf, .int .i64 ut]) = w_6 at *
       refine hT (i := 12) (v := ?_) rfl rfl hHeld ?_ ?_
       rotate_left
       ·intro wh hz; iterate 13 obtain ⟨_, hz⟩ := hz
        go_simp
        (try with_reducible rfl)
       simp only [Act.put, List.setIfInBounds_toArray, List.set_cons_zero, List.set_cons_succ]
       refine wpAnyH_done (by kernel_rfl) ?_ _
       go_wp2
       go_meet
       exact ⟨rfl, HB_6.out⟩
     case rest =>
      obtain ⟨rfl, hbu⟩ := hcut
      have q0 := keep_cell q0 hbu ltq
      have q1 := keep_cell q1 hbu ltq
      have q2 := keep_cell q2 hbu ltq
      have q3 := keep_cell q3 hbu ltq
      have q4 := keep_cell q4 hbu ltq
      have q5 := keep_cell q5 hbu ltq
      have t0 := keep_cell t0 hbu ltt
      have t1 := keep_cell t1 hbu ltt
      have p0 := keep_cell p0 hbu ltb
      have p1 := keep_cell p1 hbu ltb
      have p2 := keep_cell p2 hbu ltb
      have p3 := keep_cell p3 hbu ltb
      have p4 := keep_cell p4 hbu ltb
      have p5 := keep_cell p5 hbu ltb
      have d0 := keep_cell d0 hbu ltd
      have d1 := keep_cell d1 hbu ltd
      have d2 := keep_cell d2 hbu ltd
      have d3 := keep_cell d3 hbu ltd
      have d4 := keep_cell d4 hbu ltd
      have d5 := keep_cell d5 hbu ltd
      have x1 := keep_cell x1 hbu ltx
      have ltqc := Nat.lt_of_lt_of_le ltq hbu.size
      have lttc := Nat.lt_of_lt_of_le ltt hbu.size
      have ltbc := Nat.lt_of_lt_of_le ltb hbu.size
      have ltdc := Nat.lt_of_lt_of_le ltd hbu.size
      have ltxc := Nat.lt_of_lt_of_le ltx hbu.size
      have KK2 := Lib.hid (fun W (h : Below wc.heap.size wc W) => KK.out W (hbu.trans (h.mono hbu.size)))
      have KR2 := Lib.hid (fun W (h : Below wc.heap.size wc W) => KR.out W (hbu.trans (h.mono hbu.size)))
      have HBU := Lib.hid (HB.out.trans (hbu.mono HB.out.size))
      have HOU := Lib.hid (own_later HO.out hbu)
      clear CM KK KR hbu HB HO ltq ltt ltb ltd ltx
      go_upto_region 16 with fail
      cases ok
      ·refine wp_region_held_drew (S := (fun W => W.cell? ⟨w.heap.size, 0, none⟩ = some (.slice a0 m0 c0) ∧ W.cell? ⟨w.heap.size, 1, none⟩ = some (.slice a1 m1 c1) ∧ W.cell? ⟨w.heap.size, 2, none⟩ = some (.slice a2 m2 c2) ∧ W.cell? ⟨w.heap.size, 3, none⟩ = some (.slice a3 m3 c3) ∧ W.cell? ⟨w.heap.size, 4, none⟩ = some (.slice a4 m4 c4) ∧ W.cell? ⟨w.heap.size, 5, none⟩ = some (.slice a5 m5 c5) ∧ W.cell? ⟨gl, 0, none⟩ = some (.int .i64 at0) ∧ W.cell? ⟨gl, 1, none⟩ = some (.int .u32 3) ∧ W.cell? ⟨b, o + n * 6, none⟩ = some (.string src) ∧ W.cell? ⟨b, o + n * 6 + 1, none⟩ = some (.slice fa fl.length fc) ∧ W.cell? ⟨b, o + n * 6 + 2, none⟩ = some (.int .i64 alv) ∧ W.cell? ⟨b, o + n * 6 + 3, none⟩ = some (.int .u32 ac) ∧ W.cell? ⟨b, o + n * 6 + 4, none⟩ = some (.int .i64 fr) ∧ W.cell? ⟨b, o + n * 6 + 5, none⟩ = some (.int .i64 til) ∧ W.cell? ⟨bd, od + n * 6, none⟩ = some (.string src) ∧ W.cell? ⟨bd, od + n * 6 + 1, none⟩ = some (.slice fa fl.length fc) ∧ W.cell? ⟨bd, od + n * 6 + 2, none⟩ = some (.int .i64 alv) ∧ W.cell? ⟨bd, od + n * 6 + 3, none⟩ = some (.int .u32 ac) ∧ W.cell? ⟨bd, od + n * 6 + 4, none⟩ = some (.int .i64 fr) ∧ W.cell? ⟨bd, od + n * 6 + 5, none⟩ = some (.int .i64 til) ∧ W.cell? ⟨w.heap.size + 1, 1, none⟩ = some (.int .i64 at1))) (by kernel_rfl) ⟨q0, q1, q2, q3, q4, q5, t0, t1, p0, p1, p2, p3, p4, p5, d0, d1, d2, d3, d4, d5, x1⟩ (fun hHeld => ?_)
       have hd : Below wc.heap.size wc wc.drew := (Below.refl _ _).drew
       refine hT (i := 0) (v := ?_) rfl rfl hHeld ?_ ?_
       rotate_left
       ·intro wh hz; iterate 20 obtain ⟨_, hz⟩ := hz
        go_simp
        (try with_reducible rfl)
       simp only [Act.put, List.setIfInBounds_toArray, List.set_cons_zero, List.set_cons_succ]
       refine hT (i := 1) (v := ?_) rfl rfl hHeld ?_ ?_
       rotate_left
       ·intro wh hz; iterate 20 obtain ⟨_, hz⟩ := hz
        go_simp
        (try with_reducible rfl)
       simp only [Act.put, List.setIfInBounds_toArray, List.set_cons_zero, List.set_cons_succ]
       refine held_skip (i := 2) rfl rfl (by kernel_rfl) (by kernel_rfl) (by kernel_rfl) (fun _ _ _ h => h) (by rfl) hHeld ?_
       simp only [Act.put, List.setIfInBounds_toArray, List.set_cons_zero, List.set_cons_succ]
       refine held_skip (i := 3) rfl rfl (by kernel_rfl) (by kernel_rfl) (by kernel_rfl) (fun _ _ _ h => h) (by rfl) hHeld ?_
       simp only [Act.put, List.setIfInBounds_toArray, List.set_cons_zero, List.set_cons_succ]
       refine held_skip (i := 4) rfl rfl (by kernel_rfl) (by kernel_rfl) (by kernel_rfl) (fun _ _ _ h => h) (by rfl) hHeld ?_
       simp only [Act.put, List.setIfInBounds_toArray, List.set_cons_zero, List.set_cons_succ]
       refine held_skip (i := 5) rfl rfl (by kernel_rfl) (by kernel_rfl) (by kernel_rfl) (fun _ _ _ h => h) (by rfl) hHeld ?_
       simp only [Act.put, List.setIfInBounds_toArray, List.set_cons_zero, List.set_cons_succ]
       refine held_skip (i := 6) rfl rfl (by kernel_rfl) (by kernel_rfl) (by kernel_rfl) (fun _ _ _ h => h) (by rfl) hHeld ?_
       simp only [Act.put, List.setIfInBounds_toArray, List.set_cons_zero, List.set_cons_succ]
       refine hT (i := 7) (v := ?_) rfl rfl hHeld ?_ ?_
       rotate_left
       ·intro wh hz; iterate 20 obtain ⟨_, hz⟩ := hz
        go_simp
        (try with_reducible rfl)
       simp only [Act.put, List.setIfInBounds_toArray, List.set_cons_zero, List.set_cons_succ]
       refine hT (i := 8) (v := ?_) rfl rfl hHeld ?_ ?_
       rotate_left
       ·intro wh hz; iterate 20 obtain ⟨_, hz⟩ := hz
        go_simp
        (try with_reducible rfl)
       simp only [Act.put, List.setIfInBounds_toArray, List.set_cons_zero, List.set_cons_succ]
       refine held_skip (i := 9) rfl rfl (by kernel_rfl) (by kernel_rfl) (by kernel_rfl) (fun _ _ _ h => h) (by rfl) hHeld ?_
       simp only [Act.put, List.setIfInBounds_toArray, List.set_cons_zero, List.set_cons_succ]
       refine held_skip (i := 10) rfl rfl (by kernel_rfl) (by kernel_rfl) (by kernel_rfl) (fun _ _ _ h => h) (by rfl) hHeld ?_
       simp only [Act.put, List.setIfInBounds_toArray, List.set_cons_zero, List.set_cons_succ]
       refine held_skip (i := 11) rfl rfl (by kernel_rfl) (by kernel_rfl) (by kernel_rfl) (fun _ _ _ h => h) (by rfl) hHeld ?_
       simp only [Act.put, List.setIfInBounds_toArray, List.set_cons_zero, List.set_cons_succ]
       refine held_skip (i := 12) rfl rfl (by kernel_rfl) (by kernel_rfl) (by kernel_rfl) (fun _ _ _ h => h) (by rfl) hHeld ?_
       simp only [Act.put, List.setIfInBounds_toArray, List.set_cons_zero, List.set_cons_succ]
       refine held_skip (i := 13) rfl rfl (by kernel_rfl) (by kernel_rfl) (by kernel_rfl) (fun _ _ _ h => h) (by rfl) hHeld ?_
       simp only [Act.put, List.setIfInBounds_toArray, List.set_cons_zero, List.set_cons_succ]
       refine held_skip (i := 14) rfl rfl (by kernel_rfl) (by kernel_rfl) (by kernel_rfl) (fun _ _ _ h => h) (by rfl) hHeld ?_
       simp only [Act.put, List.setIfInBounds_toArray, List.set_cons_zero, List.set_cons_succ]
       refine held_skip (i := 15) rfl rfl (by kernel_rfl) (by kernel_rfl) (by kernel_rfl) (fun _ _ _ h => h) (by rfl) hHeld ?_
       simp only [Act.put, List.setIfInBounds_toArray, List.set_cons_zero, List.set_cons_succ]
       refine hT (i := 16) (v := ?_) rfl rfl hHeld ?_ ?_
       rotate_left
       ·intro wh hz; iterate 20 obtain ⟨_, hz⟩ := hz
        go_simp
        (try with_reducible rfl)
       simp only [Act.put, List.setIfInBounds_toArray, List.set_cons_zero, List.set_cons_succ]
       refine hT (i := 17) (v := ?_) rfl rfl hHeld ?_ ?_
       rotate_left
       ·intro wh hz; iterate 20 obtain ⟨_, hz⟩ := hz
        go_simp
        (try with_reducible rfl)
       simp only [Act.put, List.setIfInBounds_toArray, List.set_cons_zero, List.set_cons_succ]
       refine held_skip (i := 18) rfl rfl (by kernel_rfl) (by kernel_rfl) (by kernel_rfl) (fun _ _ _ h => h) (by rfl) hHeld ?_
       simp only [Act.put, List.setIfInBounds_toArray, List.set_cons_zero, List.set_cons_succ]
       refine held_skip (i := 19) rfl rfl (by kernel_rfl) (by kernel_rfl) (by kernel_rfl) (fun _ _ _ h => h) (by rfl) hHeld ?_
       simp only [Act.put, List.setIfInBounds_toArray, List.set_cons_zero, List.set_cons_succ]
       refine held_skip (i := 20) rfl rfl (by kernel_rfl) (by kernel_rfl) (by kernel_rfl) (fun _ _ _ h => h) (by rfl) hHeld ?_
       simp only [Act.put, List.setIfInBounds_toArray, List.set_cons_zero, List.set_cons_succ]
       refine hT (i := 21) (v := ?_) rfl rfl hHeld ?_ ?_
       rotate_left
       ·intro wh hz; iterate 20 obtain ⟨_, hz⟩ := hz
        go_simp
        (try with_reducible rfl)
       simp only [Act.put, List.setIfInBounds_toArray, List.set_cons_zero, List.set_cons_succ]
       refine wpAnyH_done (by kernel_rfl) ?_ _
       have HB9 := Lib.hid (HBU.out.trans (hd.mono HBU.out.size))
       have HO9 := Lib.hid (own_later HOU.out hd)
       clear  hd HBU HOU KK2 KR2 KF q0 q1 q2 q3 q4 q5 t0 t1 p0 p1 p2 p3 p4 p5 d0 d1 d2 d3 d4 d5 x1
       have HN1 : Hid (idxTo G L (n + 1) = idxTo G L n) := Lib.hid (by rw [HST.out, show GX = false from by rw [HGX.out]; first | rfl | simp]; simp)
       have HOq : Hid ((wc.drew).ownsRow w6.heap.size 3 1 _ (idxTo G L (n + 1)).length ((idxTo G L (n + 1)).map I)) := Lib.hid (by rw [HN1.out]; exact HO9.out)
       obtain ⟨q0, q1, q2, q3, q4, q5⟩ := HP6.out.later HB9.out hgw6
       have t0 := keep_cell HT6.out.1 HB9.out hgl6
       have t1 := keep_cell HT6.out.2 HB9.out hgl6
       have x1 := (HX6.out.later HB9.out).get 1 _ rfl
       have kq := KQ6.out (n : Int) _ HB9.out
       rw [HQN.out] at kq
       go_wp2_with fail
       refine kq.mono ?_
       rintro e w10 ⟨r3, rfl, hI3, hb10⟩
       obtain ⟨ea, ec, rfl, _, _⟩ := RdAt.shape (RdAt.own hI3)
       have HB10 := Lib.hid (HB9.out.trans (hb10.mono HB9.out.size))
       have HO10 := Lib.hid (own_later HOq.out hb10)
       clear kq hb10 hI3 q0 q1 q2 q3 q4 q5 t0 t1 x1
       go_wp2
       go_roundw
       case rel => exact ⟨n + 1, by go_num, by omega, HO10, HB10⟩
       case measure => (simp [intOf]; try omega)
      cases RA
      ·refine wp_region_held_drew (S := (fun W => W.cell? ⟨w.heap.size, 0, none⟩ = some (.slice a0 m0 c0) ∧ W.cell? ⟨w.heap.size, 1, none⟩ = some (.slice a1 m1 c1) ∧ W.cell? ⟨w.heap.size, 2, none⟩ = some (.slice a2 m2 c2) ∧ W.cell? ⟨w.heap.size, 3, none⟩ = some (.slice a3 m3 c3) ∧ W.cell? ⟨w.heap.size, 4, none⟩ = some (.slice a4 m4 c4) ∧ W.cell? ⟨w.heap.size, 5, none⟩ = some (.slice a5 m5 c5) ∧ W.cell? ⟨gl, 0, none⟩ = some (.int .i64 at0) ∧ W.cell? ⟨gl, 1, none⟩ = some (.int .u32 3) ∧ W.cell? ⟨b, o + n * 6, none⟩ = some (.string src) ∧ W.cell? ⟨b, o + n * 6 + 1, none⟩ = some (.slice fa fl.length fc) ∧ W.cell? ⟨b, o + n * 6 + 2, none⟩ = some (.int .i64 alv) ∧ W.cell? ⟨b, o + n * 6 + 3, none⟩ = some (.int .u32 ac) ∧ W.cell? ⟨b, o + n * 6 + 4, none⟩ = some (.int .i64 fr) ∧ W.cell? ⟨b, o + n * 6 + 5, none⟩ = some (.int .i64 til) ∧ W.cell? ⟨bd, od + n * 6, none⟩ = some (.string src) ∧ W.cell? ⟨bd, od + n * 6 + 1, none⟩ = some (.slice fa fl.length fc) ∧ W.cell? ⟨bd, od + n * 6 + 2, none⟩ = some (.int .i64 alv) ∧ W.cell? ⟨bd, od + n * 6 + 3, none⟩ = some (.int .u32 ac) ∧ W.cell? ⟨bd, od + n * 6 + 4, none⟩ = some (.int .i64 fr) ∧ W.cell? ⟨bd, od + n * 6 + 5, none⟩ = some (.int .i64 til) ∧ W.cell? ⟨w.heap.size + 1, 1, none⟩ = some (.int .i64 at1))) (by kernel_rfl) ⟨q0, q1, q2, q3, q4, q5, t0, t1, p0, p1, p2, p3, p4, p5, d0, d1, d2, d3, d4, d5, x1⟩ (fun hHeld => ?_)
       have hd : Below wc.heap.size wc wc.drew := (Below.refl _ _).drew
       refine hT (i := 0) (v := ?_) rfl rfl hHeld ?_ ?_
       rotate_left
       ·intro wh hz; iterate 20 obtain ⟨_, hz⟩ := hz
        go_simp
        (try with_reducible rfl)
       simp only [Act.put, List.setIfInBounds_toArray, List.set_cons_zero, List.set_cons_succ]
       refine hT (i := 1) (v := ?_) rfl rfl hHeld ?_ ?_
       rotate_left
       ·intro wh hz; iterate 20 obtain ⟨_, hz⟩ := hz
        go_simp
        (try with_reducible rfl)
       simp only [Act.put, List.setIfInBounds_toArray, List.set_cons_zero, List.set_cons_succ]
       refine hT (i := 2) (v := ?_) rfl rfl hHeld ?_ ?_
       rotate_left
       ·intro wh hz; iterate 20 obtain ⟨_, hz⟩ := hz
        go_simp
        (try with_reducible rfl)
       simp only [Act.put, List.setIfInBounds_toArray, List.set_cons_zero, List.set_cons_succ]
       refine hT (i := 3) (v := ?_) rfl rfl hHeld ?_ ?_
       rotate_left
       ·intro wh hz; iterate 20 obtain ⟨_, hz⟩ := hz
        go_simp
        (try with_reducible rfl)
       simp only [Act.put, List.setIfInBounds_toArray, List.set_cons_zero, List.set_cons_succ]
       refine hT (i := 4) (v := ?_) rfl rfl hHeld ?_ ?_
       rotate_left
       ·intro wh hz; iterate 20 obtain ⟨_, hz⟩ := hz
        go_simp
        (try with_reducible rfl)
       simp only [Act.put, List.setIfInBounds_toArray, List.set_cons_zero, List.set_cons_succ]
       refine hT (i := 5) (v := ?_) rfl rfl hHeld ?_ ?_
       rotate_left
       ·intro wh hz; iterate 20 obtain ⟨_, hz⟩ := hz
        go_simp
        (try with_reducible rfl)
       simp only [Act.put, List.setIfInBounds_toArray, List.set_cons_zero, List.set_cons_succ]
       refine held_call (i := 6) rfl (by kernel_rfl) (by rfl) (fun K hK => ?_)
       (go_simp; go_at_call 21; refine (KR2.out _ hd).mono ?_; rintro e w7 ⟨rfl, hb7⟩; have hB7 := hd.trans (hb7.mono hd.size))
       refine hK.out _ _ ⟨keep_cell q0 hB7 ltqc, keep_cell q1 hB7 ltqc, keep_cell q2 hB7 ltqc, keep_cell q3 hB7 ltqc, keep_cell q4 hB7 ltqc, keep_cell q5 hB7 ltqc, keep_cell t0 hB7 lttc, keep_cell t1 hB7 lttc, keep_cell p0 hB7 ltbc, keep_cell p1 hB7 ltbc, keep_cell p2 hB7 ltbc, keep_cell p3 hB7 ltbc, keep_cell p4 hB7 ltbc, keep_cell p5 hB7 ltbc, keep_cell d0 hB7 ltdc, keep_cell d1 hB7 ltdc, keep_cell d2 hB7 ltdc, keep_cell d3 hB7 ltdc, keep_cell d4 hB7 ltdc, keep_cell d5 hB7 ltdc, keep_cell x1 hB7 ltxc⟩ (fun hHeld => ?_)
       clear hK K
       (try simp only [Act.put, List.setIfInBounds_toArray, List.set_cons_zero, List.set_cons_succ])
       refine hT (i := 7) (v := ?_) rfl rfl hHeld ?_ ?_
       rotate_left
       ·intro wh hz; iterate 20 obtain ⟨_, hz⟩ := hz
        go_simp
        (try with_reducible rfl)
       simp only [Act.put, List.setIfInBounds_toArray, List.set_cons_zero, List.set_cons_succ]
       refine hT (i := 8) (v := ?_) rfl rfl hHeld ?_ ?_
       rotate_left
       ·intro wh hz; iterate 20 obtain ⟨_, hz⟩ := hz
        go_simp
        (try with_reducible rfl)
       simp only [Act.put, List.setIfInBounds_toArray, List.set_cons_zero, List.set_cons_succ]
       refine held_skip (i := 9) rfl rfl (by kernel_rfl) (by kernel_rfl) (by kernel_rfl) (fun _ _ _ h => h) (by rfl) hHeld ?_
       simp only [Act.put, List.setIfInBounds_toArray, List.set_cons_zero, List.set_cons_succ]
       refine held_skip (i := 10) rfl rfl (by kernel_rfl) (by kernel_rfl) (by kernel_rfl) (fun _ _ _ h => h) (by rfl) hHeld ?_
       simp only [Act.put, List.setIfInBounds_toArray, List.set_cons_zero, List.set_cons_succ]
       refine held_skip (i := 11) rfl rfl (by kernel_rfl) (by kernel_rfl) (by kernel_rfl) (fun _ _ _ h => h) (by rfl) hHeld ?_
       simp only [Act.put, List.setIfInBounds_toArray, List.set_cons_zero, List.set_cons_succ]
       refine held_skip (i := 12) rfl rfl (by kernel_rfl) (by kernel_rfl) (by kernel_rfl) (fun _ _ _ h => h) (by rfl) hHeld ?_
       simp only [Act.put, List.setIfInBounds_toArray, List.set_cons_zero, List.set_cons_succ]
       refine held_skip (i := 13) rfl rfl (by kernel_rfl) (by kernel_rfl) (by kernel_rfl) (fun _ _ _ h => h) (by rfl) hHeld ?_
       simp only [Act.put, List.setIfInBounds_toArray, List.set_cons_zero, List.set_cons_succ]
       refine held_skip (i := 14) rfl rfl (by kernel_rfl) (by kernel_rfl) (by kernel_rfl) (fun _ _ _ h => h) (by rfl) hHeld ?_
       simp only [Act.put, List.setIfInBounds_toArray, List.set_cons_zero, List.set_cons_succ]
       refine held_skip (i := 15) rfl rfl (by kernel_rfl) (by kernel_rfl) (by kernel_rfl) (fun _ _ _ h => h) (by rfl) hHeld ?_
       simp only [Act.put, List.setIfInBounds_toArray, List.set_cons_zero, List.set_cons_succ]
       refine hT (i := 16) (v := ?_) rfl rfl hHeld ?_ ?_
       rotate_left
       ·intro wh hz; iterate 20 obtain ⟨_, hz⟩ := hz
        go_simp
        (try with_reducible rfl)
       simp only [Act.put, List.setIfInBounds_toArray, List.set_cons_zero, List.set_cons_succ]
       refine hT (i := 17) (v := ?_) rfl rfl hHeld ?_ ?_
       rotate_left
       ·intro wh hz; iterate 20 obtain ⟨_, hz⟩ := hz
        go_simp
        (try with_reducible rfl)
       simp only [Act.put, List.setIfInBounds_toArray, List.set_cons_zero, List.set_cons_succ]
       refine held_skip (i := 18) rfl rfl (by kernel_rfl) (by kernel_rfl) (by kernel_rfl) (fun _ _ _ h => h) (by rfl) hHeld ?_
       simp only [Act.put, List.setIfInBounds_toArray, List.set_cons_zero, List.set_cons_succ]
       refine held_skip (i := 19) rfl rfl (by kernel_rfl) (by kernel_rfl) (by kernel_rfl) (fun _ _ _ h => h) (by rfl) hHeld ?_
       simp only [Act.put, List.setIfInBounds_toArray, List.set_cons_zero, List.set_cons_succ]
       refine held_skip (i := 20) rfl rfl (by kernel_rfl) (by kernel_rfl) (by kernel_rfl) (fun _ _ _ h => h) (by rfl) hHeld ?_
       simp only [Act.put, List.setIfInBounds_toArray, List.set_cons_zero, List.set_cons_succ]
       refine hT (i := 21) (v := ?_) rfl rfl hHeld ?_ ?_
       rotate_left
       ·intro wh hz; iterate 20 obtain ⟨_, hz⟩ := hz
        go_simp
        (try with_reducible rfl)
       simp only [Act.put, List.setIfInBounds_toArray, List.set_cons_zero, List.set_cons_succ]
       refine wpAnyH_done (by kernel_rfl) ?_ _
       have HB9 := Lib.hid (HBU.out.trans (hB7.mono HBU.out.size))
       have HO9 := Lib.hid (own_later HOU.out hB7)
       clear hB7 hb7 hd HBU HOU KK2 KR2 KF q0 q1 q2 q3 q4 q5 t0 t1 p0 p1 p2 p3 p4 p5 d0 d1 d2 d3 d4 d5 x1
       have HN1 : Hid (idxTo G L (n + 1) = idxTo G L n) := Lib.hid (by rw [HST.out, show GX = false from by rw [HGX.out]; first | rfl | simp]; simp)
       have HOq : Hid ((w7).ownsRow w6.heap.size 3 1 _ (idxTo G L (n + 1)).length ((idxTo G L (n + 1)).map I)) := Lib.hid (by rw [HN1.out]; exact HO9.out)
       obtain ⟨q0, q1, q2, q3, q4, q5⟩ := HP6.out.later HB9.out hgw6
       have t0 := keep_cell HT6.out.1 HB9.out hgl6
       have t1 := keep_cell HT6.out.2 HB9.out hgl6
       have x1 := (HX6.out.later HB9.out).get 1 _ rfl
       have kq := KQ6.out (n : Int) _ HB9.out
       rw [HQN.out] at kq
       go_wp2_with fail
       refine kq.mono ?_
       rintro e w10 ⟨r3, rfl, hI3, hb10⟩
       obtain ⟨ea, ec, rfl, _, _⟩ := RdAt.shape (RdAt.own hI3)
       have HB10 := Lib.hid (HB9.out.trans (hb10.mono HB9.out.size))
       have HO10 := Lib.hid (own_later HOq.out hb10)
       clear kq hb10 hI3 q0 q1 q2 q3 q4 q5 t0 t1 x1
       go_wp2
       go_roundw
       case rel => exact ⟨n + 1, by go_num, by omega, HO10, HB10⟩
       case measure => (simp [intOf]; try omega)
      cases FI
      ·refine wp_region_held_drew (S := (fun W => W.cell? ⟨w.heap.size, 0, none⟩ = some (.slice a0 m0 c0) ∧ W.cell? ⟨w.heap.size, 1, none⟩ = some (.slice a1 m1 c1) ∧ W.cell? ⟨w.heap.size, 2, none⟩ = some (.slice a2 m2 c2) ∧ W.cell? ⟨w.heap.size, 3, none⟩ = some (.slice a3 m3 c3) ∧ W.cell? ⟨w.heap.size, 4, none⟩ = some (.slice a4 m4 c4) ∧ W.cell? ⟨w.heap.size, 5, none⟩ = some (.slice a5 m5 c5) ∧ W.cell? ⟨gl, 0, none⟩ = some (.int .i64 at0) ∧ W.cell? ⟨gl, 1, none⟩ = some (.int .u32 3) ∧ W.cell? ⟨b, o + n * 6, none⟩ = some (.string src) ∧ W.cell? ⟨b, o + n * 6 + 1, none⟩ = some (.slice fa fl.length fc) ∧ W.cell? ⟨b, o + n * 6 + 2, none⟩ = some (.int .i64 alv) ∧ W.cell? ⟨b, o + n * 6 + 3, none⟩ = some (.int .u32 ac) ∧ W.cell? ⟨b, o + n * 6 + 4, none⟩ = some (.int .i64 fr) ∧ W.cell? ⟨b, o + n * 6 + 5, none⟩ = some (.int .i64 til) ∧ W.cell? ⟨bd, od + n * 6, none⟩ = some (.string src) ∧ W.cell? ⟨bd, od + n * 6 + 1, none⟩ = some (.slice fa fl.length fc) ∧ W.cell? ⟨bd, od + n * 6 + 2, none⟩ = some (.int .i64 alv) ∧ W.cell? ⟨bd, od + n * 6 + 3, none⟩ = some (.int .u32 ac) ∧ W.cell? ⟨bd, od + n * 6 + 4, none⟩ = some (.int .i64 fr) ∧ W.cell? ⟨bd, od + n * 6 + 5, none⟩ = some (.int .i64 til) ∧ W.cell? ⟨w.heap.size + 1, 1, none⟩ = some (.int .i64 at1))) (by kernel_rfl) ⟨q0, q1, q2, q3, q4, q5, t0, t1, p0, p1, p2, p3, p4, p5, d0, d1, d2, d3, d4, d5, x1⟩ (fun hHeld => ?_)
       have hd : Below wc.heap.size wc wc.drew := (Below.refl _ _).drew
       refine hT (i := 0) (v := ?_) rfl rfl hHeld ?_ ?_
       rotate_left
       ·intro wh hz; iterate 20 obtain ⟨_, hz⟩ := hz
        go_simp
        (try with_reducible rfl)
       simp only [Act.put, List.setIfInBounds_toArray, List.set_cons_zero, List.set_cons_succ]
       refine hT (i := 1) (v := ?_) rfl rfl hHeld ?_ ?_
       rotate_left
       ·intro wh hz; iterate 20 obtain ⟨_, hz⟩ := hz
        go_simp
        (try with_reducible rfl)
       simp only [Act.put, List.setIfInBounds_toArray, List.set_cons_zero, List.set_cons_succ]
       refine hT (i := 2) (v := ?_) rfl rfl hHeld ?_ ?_
       rotate_left
       ·intro wh hz; iterate 20 obtain ⟨_, hz⟩ := hz
        go_simp
        (try with_reducible rfl)
       simp only [Act.put, List.setIfInBounds_toArray, List.set_cons_zero, List.set_cons_succ]
       refine hT (i := 3) (v := ?_) rfl rfl hHeld ?_ ?_
       rotate_left
       ·intro wh hz; iterate 20 obtain ⟨_, hz⟩ := hz
        go_simp
        (try with_reducible rfl)
       simp only [Act.put, List.setIfInBounds_toArray, List.set_cons_zero, List.set_cons_succ]
       refine hT (i := 4) (v := ?_) rfl rfl hHeld ?_ ?_
       rotate_left
       ·intro wh hz; iterate 20 obtain ⟨_, hz⟩ := hz
        go_simp
        (try with_reducible rfl)
       simp only [Act.put, List.setIfInBounds_toArray, List.set_cons_zero, List.set_cons_succ]
       refine hT (i := 5) (v := ?_) rfl rfl hHeld ?_ ?_
       rotate_left
       ·intro wh hz; iterate 20 obtain ⟨_, hz⟩ := hz
        go_simp
        (try with_reducible rfl)
       simp only [Act.put, List.setIfInBounds_toArray, List.set_cons_zero, List.set_cons_succ]
       refine held_call (i := 6) rfl (by kernel_rfl) (by rfl) (fun K hK => ?_)
       (go_simp; go_at_call 21; refine (KR2.out _ hd).mono ?_; rintro e w7 ⟨rfl, hb7⟩; have hB7 := hd.trans (hb7.mono hd.size))
       refine hK.out _ _ ⟨keep_cell q0 hB7 ltqc, keep_cell q1 hB7 ltqc, keep_cell q2 hB7 ltqc, keep_cell q3 hB7 ltqc, keep_cell q4 hB7 ltqc, keep_cell q5 hB7 ltqc, keep_cell t0 hB7 lttc, keep_cell t1 hB7 lttc, keep_cell p0 hB7 ltbc, keep_cell p1 hB7 ltbc, keep_cell p2 hB7 ltbc, keep_cell p3 hB7 ltbc, keep_cell p4 hB7 ltbc, keep_cell p5 hB7 ltbc, keep_cell d0 hB7 ltdc, keep_cell d1 hB7 ltdc, keep_cell d2 hB7 ltdc, keep_cell d3 hB7 ltdc, keep_cell d4 hB7 ltdc, keep_cell d5 hB7 ltdc, keep_cell x1 hB7 ltxc⟩ (fun hHeld => ?_)
       clear hK K
       (try simp only [Act.put, List.setIfInBounds_toArray, List.set_cons_zero, List.set_cons_succ])
       refine hT (i := 7) (v := ?_) rfl rfl hHeld ?_ ?_
       rotate_left
       ·intro wh hz; iterate 20 obtain ⟨_, hz⟩ := hz
        go_simp
        (try with_reducible rfl)
       simp only [Act.put, List.setIfInBounds_toArray, List.set_cons_zero, List.set_cons_succ]
       refine hT (i := 8) (v := ?_) rfl rfl hHeld ?_ ?_
       rotate_left
       ·intro wh hz; iterate 20 obtain ⟨_, hz⟩ := hz
        go_simp
        (try with_reducible rfl)
       simp only [Act.put, List.setIfInBounds_toArray, List.set_cons_zero, List.set_cons_succ]
       refine hT (i := 9) (v := ?_) rfl rfl hHeld ?_ ?_
       rotate_left
       ·intro wh hz; iterate 20 obtain ⟨_, hz⟩ := hz
        go_simp
        (try with_reducible rfl)
       simp only [Act.put, List.setIfInBounds_toArray, List.set_cons_zero, List.set_cons_succ]
       refine hT (i := 10) (v := ?_) rfl rfl hHeld ?_ ?_
       rotate_left
       ·intro wh hz; iterate 20 obtain ⟨_, hz⟩ := hz
        go_simp
        (try with_reducible rfl)
       simp only [Act.put, List.setIfInBounds_toArray, List.set_cons_zero, List.set_cons_succ]
       refine hT (i := 11) (v := ?_) rfl rfl hHeld ?_ ?_
       rotate_left
       ·intro wh hz; iterate 20 obtain ⟨_, hz⟩ := hz
        go_simp
        (try with_reducible rfl)
       simp only [Act.put, List.setIfInBounds_toArray, List.set_cons_zero, List.set_cons_succ]
       refine hT (i := 12) (v := ?_) rfl rfl hHeld ?_ ?_
       rotate_left
       ·intro wh hz; iterate 20 obtain ⟨_, hz⟩ := hz
        go_simp
        (try with_reducible rfl)
       simp only [Act.put, List.setIfInBounds_toArray, List.set_cons_zero, List.set_cons_succ]
       refine hT (i := 13) (v := ?_) rfl rfl hHeld ?_ ?_
       rotate_left
       ·intro wh hz; iterate 20 obtain ⟨_, hz⟩ := hz
        go_simp
        (try with_reducible rfl)
       simp only [Act.put, List.setIfInBounds_toArray, List.set_cons_zero, List.set_cons_succ]
       refine hT (i := 14) (v := ?_) rfl rfl hHeld ?_ ?_
       rotate_left
       ·intro wh hz; iterate 20 obtain ⟨_, hz⟩ := hz
        go_simp
        (try with_reducible rfl)
       simp only [Act.put, List.setIfInBounds_toArray, List.set_cons_zero, List.set_cons_succ]
       refine held_call (i := 15) rfl (by kernel_rfl) (by rfl) (fun K hK => ?_)
       (go_simp; go_at_call 22; refine (KF.out _).mono ?_; rintro e w8 ⟨rfl, hb8⟩; have hB8 := hB7.trans (hb8.mono hB7.size))
       refine hK.out _ _ ⟨keep_cell q0 hB8 ltqc, keep_cell q1 hB8 ltqc, keep_cell q2 hB8 ltqc, keep_cell q3 hB8 ltqc, keep_cell q4 hB8 ltqc, keep_cell q5 hB8 ltqc, keep_cell t0 hB8 lttc, keep_cell t1 hB8 lttc, keep_cell p0 hB8 ltbc, keep_cell p1 hB8 ltbc, keep_cell p2 hB8 ltbc, keep_cell p3 hB8 ltbc, keep_cell p4 hB8 ltbc, keep_cell p5 hB8 ltbc, keep_cell d0 hB8 ltdc, keep_cell d1 hB8 ltdc, keep_cell d2 hB8 ltdc, keep_cell d3 hB8 ltdc, keep_cell d4 hB8 ltdc, keep_cell d5 hB8 ltdc, keep_cell x1 hB8 ltxc⟩ (fun hHeld => ?_)
       clear hK K
       (try simp only [Act.put, List.setIfInBounds_toArray, List.set_cons_zero, List.set_cons_succ])
       refine hT (i := 16) (v := ?_) rfl rfl hHeld ?_ ?_
       rotate_left
       ·intro wh hz; iterate 20 obtain ⟨_, hz⟩ := hz
        go_simp
        (try with_reducible rfl)
       simp only [Act.put, List.setIfInBounds_toArray, List.set_cons_zero, List.set_cons_succ]
       refine hT (i := 17) (v := ?_) rfl rfl hHeld ?_ ?_
       rotate_left
       ·intro wh hz; iterate 20 obtain ⟨_, hz⟩ := hz
        go_simp
        (try with_reducible rfl)
       simp only [Act.put, List.setIfInBounds_toArray, List.set_cons_zero, List.set_cons_succ]
       refine held_skip (i := 18) rfl rfl (by kernel_rfl) (by kernel_rfl) (by kernel_rfl) (fun _ _ _ h => h) (by rfl) hHeld ?_
       simp only [Act.put, List.setIfInBounds_toArray, List.set_cons_zero, List.set_cons_succ]
       refine held_skip (i := 19) rfl rfl (by kernel_rfl) (by kernel_rfl) (by kernel_rfl) (fun _ _ _ h => h) (by rfl) hHeld ?_
       simp only [Act.put, List.setIfInBounds_toArray, List.set_cons_zero, List.set_cons_succ]
       refine held_skip (i := 20) rfl rfl (by kernel_rfl) (by kernel_rfl) (by kernel_rfl) (fun _ _ _ h => h) (by rfl) hHeld ?_
       simp only [Act.put, List.setIfInBounds_toArray, List.set_cons_zero, List.set_cons_succ]
       refine hT (i := 21) (v := ?_) rfl rfl hHeld ?_ ?_
       rotate_left
       ·intro wh hz; iterate 20 obtain ⟨_, hz⟩ := hz
        go_simp
        (try with_reducible rfl)
       simp only [Act.put, List.setIfInBounds_toArray, List.set_cons_zero, List.set_cons_succ]
       refine wpAnyH_done (by kernel_rfl) ?_ _
       have HB9 := Lib.hid (HBU.out.trans (hB8.mono HBU.out.size))
       have HO9 := Lib.hid (own_later HOU.out hB8)
       clear hB7 hb7 hB8 hb8 hd HBU HOU KK2 KR2 KF q0 q1 q2 q3 q4 q5 t0 t1 p0 p1 p2 p3 p4 p5 d0 d1 d2 d3 d4 d5 x1
       have HN1 : Hid (idxTo G L (n + 1) = idxTo G L n) := Lib.hid (by rw [HST.out, show GX = false from by rw [HGX.out]; first | rfl | simp]; simp)
       have HOq : Hid ((w8).ownsRow w6.heap.size 3 1 _ (idxTo G L (n + 1)).length ((idxTo G L (n + 1)).map I)) := Lib.hid (by rw [HN1.out]; exact HO9.out)
       obtain ⟨q0, q1, q2, q3, q4, q5⟩ := HP6.out.later HB9.out hgw6
       have t0 := keep_cell HT6.out.1 HB9.out hgl6
       have t1 := keep_cell HT6.out.2 HB9.out hgl6
       have x1 := (HX6.out.later HB9.out).get 1 _ rfl
       have kq := KQ6.out (n : Int) _ HB9.out
       rw [HQN.out] at kq
       go_wp2_with fail
       refine kq.mono ?_
       rintro e w10 ⟨r3, rfl, hI3, hb10⟩
       obtain ⟨ea, ec, rfl, _, _⟩ := RdAt.shape (RdAt.own hI3)
       have HB10 := Lib.hid (HB9.out.trans (hb10.mono HB9.out.size))
       have HO10 := Lib.hid (own_later HOq.out hb10)
       clear kq hb10 hI3 q0 q1 q2 q3 q4 q5 t0 t1 x1
       go_wp2
       go_roundw
       case rel => exact ⟨n + 1, by go_num, by omega, HO10, HB10⟩
       case measure => (simp [intOf]; try omega)
      cases hck : decide (ck = 0)
      ·rw [hck] at HGX
       have hcb : (ck == 0) = false := by simpa using hck
       clear hck
       refine wp_region_held_drew (S := (fun W => W.cell? ⟨w.heap.size, 0, none⟩ = some (.slice a0 m0 c0) ∧ W.cell? ⟨w.heap.size, 1, none⟩ = some (.slice a1 m1 c1) ∧ W.cell? ⟨w.heap.size, 2, none⟩ = some (.slice a2 m2 c2) ∧ W.cell? ⟨w.heap.size, 3, none⟩ = some (.slice a3 m3 c3) ∧ W.cell? ⟨w.heap.size, 4, none⟩ = some (.slice a4 m4 c4) ∧ W.cell? ⟨w.heap.size, 5, none⟩ = some (.slice a5 m5 c5) ∧ W.cell? ⟨gl, 0, none⟩ = some (.int .i64 at0) ∧ W.cell? ⟨gl, 1, none⟩ = some (.int .u32 3) ∧ W.cell? ⟨b, o + n * 6, none⟩ = some (.string src) ∧ W.cell? ⟨b, o + n * 6 + 1, none⟩ = some (.slice fa fl.length fc) ∧ W.cell? ⟨b, o + n * 6 + 2, none⟩ = some (.int .i64 alv) ∧ W.cell? ⟨b, o + n * 6 + 3, none⟩ = some (.int .u32 ac) ∧ W.cell? ⟨b, o + n * 6 + 4, none⟩ = some (.int .i64 fr) ∧ W.cell? ⟨b, o + n * 6 + 5, none⟩ = some (.int .i64 til) ∧ W.cell? ⟨bd, od + n * 6, none⟩ = some (.string src) ∧ W.cell? ⟨bd, od + n * 6 + 1, none⟩ = some (.slice fa fl.length fc) ∧ W.cell? ⟨bd, od + n * 6 + 2, none⟩ = some (.int .i64 alv) ∧ W.cell? ⟨bd, od + n * 6 + 3, none⟩ = some (.int .u32 ac) ∧ W.cell? ⟨bd, od + n * 6 + 4, none⟩ = some (.int .i64 fr) ∧ W.cell? ⟨bd, od + n * 6 + 5, none⟩ = some (.int .i64 til) ∧ W.cell? ⟨w.heap.size + 1, 1, none⟩ = some (.int .i64 at1))) (by kernel_rfl) ⟨q0, q1, q2, q3, q4, q5, t0, t1, p0, p1, p2, p3, p4, p5, d0, d1, d2, d3, d4, d5, x1⟩ (fun hHeld => ?_)
       have hd : Below wc.heap.size wc wc.drew := (Below.refl _ _).drew
       refine hT (i := 0) (v := ?_) rfl rfl hHeld ?_ ?_
       rotate_left
       ·intro wh hz; iterate 20 obtain ⟨_, hz⟩ := hz
        go_simp
        (try with_reducible rfl)
       simp only [Act.put, List.setIfInBounds_toArray, List.set_cons_zero, List.set_cons_succ]
       refine hT (i := 1) (v := ?_) rfl rfl hHeld ?_ ?_
       rotate_left
       ·intro wh hz; iterate 20 obtain ⟨_, hz⟩ := hz
        go_simp
        (try with_reducible rfl)
       simp only [Act.put, List.setIfInBounds_toArray, List.set_cons_zero, List.set_cons_succ]
       refine hT (i := 2) (v := ?_) rfl rfl hHeld ?_ ?_
       rotate_left
       ·intro wh hz; iterate 20 obtain ⟨_, hz⟩ := hz
        go_simp
        (try with_reducible rfl)
       simp only [Act.put, List.setIfInBounds_toArray, List.set_cons_zero, List.set_cons_succ]
       refine hT (i := 3) (v := ?_) rfl rfl hHeld ?_ ?_
       rotate_left
       ·intro wh hz; iterate 20 obtain ⟨_, hz⟩ := hz
        go_simp
        (try with_reducible rfl)
       simp only [Act.put, List.setIfInBounds_toArray, List.set_cons_zero, List.set_cons_succ]
       refine hT (i := 4) (v := ?_) rfl rfl hHeld ?_ ?_
       rotate_left
       ·intro wh hz; iterate 20 obtain ⟨_, hz⟩ := hz
        go_simp
        (try with_reducible rfl)
       simp only [Act.put, List.setIfInBounds_toArray, List.set_cons_zero, List.set_cons_succ]
       refine hT (i := 5) (v := ?_) rfl rfl hHeld ?_ ?_
       rotate_left
       ·intro wh hz; iterate 20 obtain ⟨_, hz⟩ := hz
        go_simp
        (try with_reducible rfl)
       simp only [Act.put, List.setIfInBounds_toArray, List.set_cons_zero, List.set_cons_succ]
       refine held_call (i := 6) rfl (by kernel_rfl) (by rfl) (fun K hK => ?_)
       (go_simp; go_at_call 21; refine (KR2.out _ hd).mono ?_; rintro e w7 ⟨rfl, hb7⟩; have hB7 := hd.trans (hb7.mono hd.size))
       refine hK.out _ _ ⟨keep_cell q0 hB7 ltqc, keep_cell q1 hB7 ltqc, keep_cell q2 hB7 ltqc, keep_cell q3 hB7 ltqc, keep_cell q4 hB7 ltqc, keep_cell q5 hB7 ltqc, keep_cell t0 hB7 lttc, keep_cell t1 hB7 lttc, keep_cell p0 hB7 ltbc, keep_cell p1 hB7 ltbc, keep_cell p2 hB7 ltbc, keep_cell p3 hB7 ltbc, keep_cell p4 hB7 ltbc, keep_cell p5 hB7 ltbc, keep_cell d0 hB7 ltdc, keep_cell d1 hB7 ltdc, keep_cell d2 hB7 ltdc, keep_cell d3 hB7 ltdc, keep_cell d4 hB7 ltdc, keep_cell d5 hB7 ltdc, keep_cell x1 hB7 ltxc⟩ (fun hHeld => ?_)
       clear hK K
       (try simp only [Act.put, List.setIfInBounds_toArray, List.set_cons_zero, List.set_cons_succ])
       refine hT (i := 7) (v := ?_) rfl rfl hHeld ?_ ?_
       rotate_left
       ·intro wh hz; iterate 20 obtain ⟨_, hz⟩ := hz
        go_simp
        (try with_reducible rfl)
       simp only [Act.put, List.setIfInBounds_toArray, List.set_cons_zero, List.set_cons_succ]
       refine hT (i := 8) (v := ?_) rfl rfl hHeld ?_ ?_
       rotate_left
       ·intro wh hz; iterate 20 obtain ⟨_, hz⟩ := hz
        go_simp
        (try with_reducible rfl)
       simp only [Act.put, List.setIfInBounds_toArray, List.set_cons_zero, List.set_cons_succ]
       refine hT (i := 9) (v := ?_) rfl rfl hHeld ?_ ?_
       rotate_left
       ·intro wh hz; iterate 20 obtain ⟨_, hz⟩ := hz
        go_simp
        (try with_reducible rfl)
       simp only [Act.put, List.setIfInBounds_toArray, List.set_cons_zero, List.set_cons_succ]
       refine hT (i := 10) (v := ?_) rfl rfl hHeld ?_ ?_
       rotate_left
       ·intro wh hz; iterate 20 obtain ⟨_, hz⟩ := hz
        go_simp
        (try with_reducible rfl)
       simp only [Act.put, List.setIfInBounds_toArray, List.set_cons_zero, List.set_cons_succ]
       refine hT (i := 11) (v := ?_) rfl rfl hHeld ?_ ?_
       rotate_left
       ·intro wh hz; iterate 20 obtain ⟨_, hz⟩ := hz
        go_simp
        (try with_reducible rfl)
       simp only [Act.put, List.setIfInBounds_toArray, List.set_cons_zero, List.set_cons_succ]
       refine hT (i := 12) (v := ?_) rfl rfl hHeld ?_ ?_
       rotate_left
       ·intro wh hz; iterate 20 obtain ⟨_, hz⟩ := hz
        go_simp
        (try with_reducible rfl)
       simp only [Act.put, List.setIfInBounds_toArray, List.set_cons_zero, List.set_cons_succ]
       refine hT (i := 13) (v := ?_) rfl rfl hHeld ?_ ?_
       rotate_left
       ·intro wh hz; iterate 20 obtain ⟨_, hz⟩ := hz
        go_simp
        (try with_reducible rfl)
       simp only [Act.put, List.setIfInBounds_toArray, List.set_cons_zero, List.set_cons_succ]
       refine hT (i := 14) (v := ?_) rfl rfl hHeld ?_ ?_
       rotate_left
       ·intro wh hz; iterate 20 obtain ⟨_, hz⟩ := hz
        go_simp
        (try with_reducible rfl)
       simp only [Act.put, List.setIfInBounds_toArray, List.set_cons_zero, List.set_cons_succ]
       refine held_call (i := 15) rfl (by kernel_rfl) (by rfl) (fun K hK => ?_)
       (go_simp; go_at_call 22; refine (KF.out _).mono ?_; rintro e w8 ⟨rfl, hb8⟩; have hB8 := hB7.trans (hb8.mono hB7.size))
       refine hK.out _ _ ⟨keep_cell q0 hB8 ltqc, keep_cell q1 hB8 ltqc, keep_cell q2 hB8 ltqc, keep_cell q3 hB8 ltqc, keep_cell q4 hB8 ltqc, keep_cell q5 hB8 ltqc, keep_cell t0 hB8 lttc, keep_cell t1 hB8 lttc, keep_cell p0 hB8 ltbc, keep_cell p1 hB8 ltbc, keep_cell p2 hB8 ltbc, keep_cell p3 hB8 ltbc, keep_cell p4 hB8 ltbc, keep_cell p5 hB8 ltbc, keep_cell d0 hB8 ltdc, keep_cell d1 hB8 ltdc, keep_cell d2 hB8 ltdc, keep_cell d3 hB8 ltdc, keep_cell d4 hB8 ltdc, keep_cell d5 hB8 ltdc, keep_cell x1 hB8 ltxc⟩ (fun hHeld => ?_)
       clear hK K
       (try simp only [Act.put, List.setIfInBounds_toArray, List.set_cons_zero, List.set_cons_succ])
       refine hT (i := 16) (v := ?_) rfl rfl hHeld ?_ ?_
       rotate_left
       ·intro wh hz; iterate 20 obtain ⟨_, hz⟩ := hz
        go_simp
        (try with_reducible rfl)
       simp only [Act.put, List.setIfInBounds_toArray, List.set_cons_zero, List.set_cons_succ]
       refine hT (i := 17) (v := ?_) rfl rfl hHeld ?_ ?_
       rotate_left
       ·intro wh hz; iterate 20 obtain ⟨_, hz⟩ := hz
        go_simp
        (try with_reducible rfl)
       simp only [Act.put, List.setIfInBounds_toArray, List.set_cons_zero, List.set_cons_succ]
       refine hT (i := 18) (v := ?_) rfl rfl hHeld ?_ ?_
       rotate_left
       ·intro wh hz; iterate 20 obtain ⟨_, hz⟩ := hz
        go_simp
        (try with_reducible rfl)
       simp only [Act.put, List.setIfInBounds_toArray, List.set_cons_zero, List.set_cons_succ]
       refine held_call (i := 19) rfl (by kernel_rfl) (by rfl) (fun K hK => ?_)
       (go_simp; go_at_call 23; refine (KK2.out _ hB8).mono ?_; rintro e w9 ⟨rfl, hb9⟩; have hB9 := hB8.trans (hb9.mono hB8.size))
       refine hK.out _ _ ⟨keep_cell q0 hB9 ltqc, keep_cell q1 hB9 ltqc, keep_cell q2 hB9 ltqc, keep_cell q3 hB9 ltqc, keep_cell q4 hB9 ltqc, keep_cell q5 hB9 ltqc, keep_cell t0 hB9 lttc, keep_cell t1 hB9 lttc, keep_cell p0 hB9 ltbc, keep_cell p1 hB9 ltbc, keep_cell p2 hB9 ltbc, keep_cell p3 hB9 ltbc, keep_cell p4 hB9 ltbc, keep_cell p5 hB9 ltbc, keep_cell d0 hB9 ltdc, keep_cell d1 hB9 ltdc, keep_cell d2 hB9 ltdc, keep_cell d3 hB9 ltdc, keep_cell d4 hB9 ltdc, keep_cell d5 hB9 ltdc, keep_cell x1 hB9 ltxc⟩ (fun hHeld => ?_)
       clear hK K
       (try simp only [Act.put, List.setIfInBounds_toArray, List.set_cons_zero, List.set_cons_succ])
       refine hT (i := 20) (v := ?_) rfl rfl hHeld ?_ ?_
       rotate_left
       ·intro wh hz; iterate 20 obtain ⟨_, hz⟩ := hz
        go_simp
        (try with_reducible rfl)
       simp only [Act.put, List.setIfInBounds_toArray, List.set_cons_zero, List.set_cons_succ]
       refine hT (i := 21) (v := ?_) rfl rfl hHeld ?_ ?_
       rotate_left
       ·intro wh hz; iterate 20 obtain ⟨_, hz⟩ := hz
        go_simp
        (try with_reducible rfl)
       simp only [Act.put, List.setIfInBounds_toArray, List.set_cons_zero, List.set_cons_succ]
       refine wpAnyH_done (by kernel_rfl) ?_ _
       have HB9 := Lib.hid (HBU.out.trans (hB9.mono HBU.out.size))
       have HO9 := Lib.hid (own_later HOU.out hB9)
       clear hB7 hb7 hB8 hb8 hB9 hb9 hd HBU HOU KK2 KR2 KF q0 q1 q2 q3 q4 q5 t0 t1 p0 p1 p2 p3 p4 p5 d0 d1 d2 d3 d4 d5 x1
       have HN1 : Hid (idxTo G L (n + 1) = idxTo G L n) := Lib.hid (by rw [HST.out, show GX = false from by rw [HGX.out]; first | rfl | simp]; simp)
       have HOq : Hid ((w9).ownsRow w6.heap.size 3 1 _ (idxTo G L (n + 1)).length ((idxTo G L (n + 1)).map I)) := Lib.hid (by rw [HN1.out]; exact HO9.out)
       obtain ⟨q0, q1, q2, q3, q4, q5⟩ := HP6.out.later HB9.out hgw6
       have t0 := keep_cell HT6.out.1 HB9.out hgl6
       have t1 := keep_cell HT6.out.2 HB9.out hgl6
       have x1 := (HX6.out.later HB9.out).get 1 _ rfl
       have kq := KQ6.out (n : Int) _ HB9.out
       rw [HQN.out] at kq
       go_wp2_with fail
       refine kq.mono ?_
       rintro e w10 ⟨r3, rfl, hI3, hb10⟩
       obtain ⟨ea, ec, rfl, _, _⟩ := RdAt.shape (RdAt.own hI3)
       have HB10 := Lib.hid (HB9.out.trans (hb10.mono HB9.out.size))
       have HO10 := Lib.hid (own_later HOq.out hb10)
       clear kq hb10 hI3 q0 q1 q2 q3 q4 q5 t0 t1 x1
       go_wp2
       go_roundw
       case rel => exact ⟨n + 1, by go_num, by omega, HO10, HB10⟩
       case measure => (simp [intOf]; try omega)
      ·rw [hck] at HGX
       have hcb : (ck == 0) = true := by simpa using hck
       clear hck
       refine wp_region_held_drew (S := (fun W => W.cell? ⟨w.heap.size, 0, none⟩ = some (.slice a0 m0 c0) ∧ W.cell? ⟨w.heap.size, 1, none⟩ = some (.slice a1 m1 c1) ∧ W.cell? ⟨w.heap.size, 2, none⟩ = some (.slice a2 m2 c2) ∧ W.cell? ⟨w.heap.size, 3, none⟩ = some (.slice a3 m3 c3) ∧ W.cell? ⟨w.heap.size, 4, none⟩ = some (.slice a4 m4 c4) ∧ W.cell? ⟨w.heap.size, 5, none⟩ = some (.slice a5 m5 c5) ∧ W.cell? ⟨gl, 0, none⟩ = some (.int .i64 at0) ∧ W.cell? ⟨gl, 1, none⟩ = some (.int .u32 3) ∧ W.cell? ⟨b, o + n * 6, none⟩ = some (.string src) ∧ W.cell? ⟨b, o + n * 6 + 1, none⟩ = some (.slice fa fl.length fc) ∧ W.cell? ⟨b, o + n * 6 + 2, none⟩ = some (.int .i64 alv) ∧ W.cell? ⟨b, o + n * 6 + 3, none⟩ = some (.int .u32 ac) ∧ W.cell? ⟨b, o + n * 6 + 4, none⟩ = some (.int .i64 fr) ∧ W.cell? ⟨b, o + n * 6 + 5, none⟩ = some (.int .i64 til) ∧ W.cell? ⟨bd, od + n * 6, none⟩ = some (.string src) ∧ W.cell? ⟨bd, od + n * 6 + 1, none⟩ = some (.slice fa fl.length fc) ∧ W.cell? ⟨bd, od + n * 6 + 2, none⟩ = some (.int .i64 alv) ∧ W.cell? ⟨bd, od + n * 6 + 3, none⟩ = some (.int .u32 ac) ∧ W.cell? ⟨bd, od + n * 6 + 4, none⟩ = some (.int .i64 fr) ∧ W.cell? ⟨bd, od + n * 6 + 5, none⟩ = some (.int .i64 til) ∧ W.cell? ⟨w.heap.size + 1, 1, none⟩ = some (.int .i64 at1))) (by kernel_rfl) ⟨q0, q1, q2, q3, q4, q5, t0, t1, p0, p1, p2, p3, p4, p5, d0, d1, d2, d3, d4, d5, x1⟩ (fun hHeld => ?_)
       have hd : Below wc.heap.size wc wc.drew := (Below.refl _ _).drew
       refine hT (i := 0) (v := ?_) rfl rfl hHeld ?_ ?_
       rotate_left
       ·intro wh hz; iterate 20 obtain ⟨_, hz⟩ := hz
        go_simp
        (try with_reducible rfl)
       simp only [Act.put, List.setIfInBounds_toArray, List.set_cons_zero, List.set_cons_succ]
       refine hT (i := 1) (v := ?_) rfl rfl hHeld ?_ ?_
       rotate_left
       ·intro wh hz; iterate 20 obtain ⟨_, hz⟩ := hz
        go_simp
        (try with_reducible rfl)
       simp only [Act.put, List.setIfInBounds_toArray, List.set_cons_zero, List.set_cons_succ]
       refine hT (i := 2) (v := ?_) rfl rfl hHeld ?_ ?_
       rotate_left
       ·intro wh hz; iterate 20 obtain ⟨_, hz⟩ := hz
        go_simp
        (try with_reducible rfl)
       simp only [Act.put, List.setIfInBounds_toArray, List.set_cons_zero, List.set_cons_succ]
       refine hT (i := 3) (v := ?_) rfl rfl hHeld ?_ ?_
       rotate_left
       ·intro wh hz; iterate 20 obtain ⟨_, hz⟩ := hz
        go_simp
        (try with_reducible rfl)
       simp only [Act.put, List.setIfInBounds_toArray, List.set_cons_zero, List.set_cons_succ]
       refine hT (i := 4) (v := ?_) rfl rfl hHeld ?_ ?_
       rotate_left
       ·intro wh hz; iterate 20 obtain ⟨_, hz⟩ := hz
        go_simp
        (try with_reducible rfl)
       simp only [Act.put, List.setIfInBounds_toArray, List.set_cons_zero, List.set_cons_succ]
       refine hT (i := 5) (v := ?_) rfl rfl hHeld ?_ ?_
       rotate_left
       ·intro wh hz; iterate 20 obtain ⟨_, hz⟩ := hz
        go_simp
        (try with_reducible rfl)
       simp only [Act.put, List.setIfInBounds_toArray, List.set_cons_zero, List.set_cons_succ]
       refine held_call (i := 6) rfl (by kernel_rfl) (by rfl) (fun K hK => ?_)
       (go_simp; go_at_call 21; refine (KR2.out _ hd).mono ?_; rintro e w7 ⟨rfl, hb7⟩; have hB7 := hd.trans (hb7.mono hd.size))
       refine hK.out _ _ ⟨keep_cell q0 hB7 ltqc, keep_cell q1 hB7 ltqc, keep_cell q2 hB7 ltqc, keep_cell q3 hB7 ltqc, keep_cell q4 hB7 ltqc, keep_cell q5 hB7 ltqc, keep_cell t0 hB7 lttc, keep_cell t1 hB7 lttc, keep_cell p0 hB7 ltbc, keep_cell p1 hB7 ltbc, keep_cell p2 hB7 ltbc, keep_cell p3 hB7 ltbc, keep_cell p4 hB7 ltbc, keep_cell p5 hB7 ltbc, keep_cell d0 hB7 ltdc, keep_cell d1 hB7 ltdc, keep_cell d2 hB7 ltdc, keep_cell d3 hB7 ltdc, keep_cell d4 hB7 ltdc, keep_cell d5 hB7 ltdc, keep_cell x1 hB7 ltxc⟩ (fun hHeld => ?_)
       clear hK K
       (try simp only [Act.put, List.setIfInBounds_toArray, List.set_cons_zero, List.set_cons_succ])
       refine hT (i := 7) (v := ?_) rfl rfl hHeld ?_ ?_
       rotate_left
       ·intro wh hz; iterate 20 obtain ⟨_, hz⟩ := hz
        go_simp
        (try with_reducible rfl)
       simp only [Act.put, List.setIfInBounds_toArray, List.set_cons_zero, List.set_cons_succ]
       refine hT (i := 8) (v := ?_) rfl rfl hHeld ?_ ?_
       rotate_left
       ·intro wh hz; iterate 20 obtain ⟨_, hz⟩ := hz
        go_simp
        (try with_reducible rfl)
       simp only [Act.put, List.setIfInBounds_toArray, List.set_cons_zero, List.set_cons_succ]
       refine hT (i := 9) (v := ?_) rfl rfl hHeld ?_ ?_
       rotate_left
       ·intro wh hz; iterate 20 obtain ⟨_, hz⟩ := hz
        go_simp
        (try with_reducible rfl)
       simp only [Act.put, List.setIfInBounds_toArray, List.set_cons_zero, List.set_cons_succ]
       refine hT (i := 10) (v := ?_) rfl rfl hHeld ?_ ?_
       rotate_left
       ·intro wh hz; iterate 20 obtain ⟨_, hz⟩ := hz
        go_simp
        (try with_reducible rfl)
       simp only [Act.put, List.setIfInBounds_toArray, List.set_cons_zero, List.set_cons_succ]
       refine hT (i := 11) (v := ?_) rfl rfl hHeld ?_ ?_
       rotate_left
       ·intro wh hz; iterate 20 obtain ⟨_, hz⟩ := hz
        go_simp
        (try with_reducible rfl)
       simp only [Act.put, List.setIfInBounds_toArray, List.set_cons_zero, List.set_cons_succ]
       refine hT (i := 12) (v := ?_) rfl rfl hHeld ?_ ?_
       rotate_left
       ·intro wh hz; iterate 20 obtain ⟨_, hz⟩ := hz
        go_simp
        (try with_reducible rfl)
       simp only [Act.put, List.setIfInBounds_toArray, List.set_cons_zero, List.set_cons_succ]
       refine hT (i := 13) (v := ?_) rfl rfl hHeld ?_ ?_
       rotate_left
       ·intro wh hz; iterate 20 obtain ⟨_, hz⟩ := hz
        go_simp
        (try with_reducible rfl)
       simp only [Act.put, List.setIfInBounds_toArray, List.set_cons_zero, List.set_cons_succ]
       refine hT (i := 14) (v := ?_) rfl rfl hHeld ?_ ?_
       rotate_left
       ·intro wh hz; iterate 20 obtain ⟨_, hz⟩ := hz
        go_simp
        (try with_reducible rfl)
       simp only [Act.put, List.setIfInBounds_toArray, List.set_cons_zero, List.set_cons_succ]
       refine held_call (i := 15) rfl (by kernel_rfl) (by rfl) (fun K hK => ?_)
       (go_simp; go_at_call 22; refine (KF.out _).mono ?_; rintro e w8 ⟨rfl, hb8⟩; have hB8 := hB7.trans (hb8.mono hB7.size))
       refine hK.out _ _ ⟨keep_cell q0 hB8 ltqc, keep_cell q1 hB8 ltqc, keep_cell q2 hB8 ltqc, keep_cell q3 hB8 ltqc, keep_cell q4 hB8 ltqc, keep_cell q5 hB8 ltqc, keep_cell t0 hB8 lttc, keep_cell t1 hB8 lttc, keep_cell p0 hB8 ltbc, keep_cell p1 hB8 ltbc, keep_cell p2 hB8 ltbc, keep_cell p3 hB8 ltbc, keep_cell p4 hB8 ltbc, keep_cell p5 hB8 ltbc, keep_cell d0 hB8 ltdc, keep_cell d1 hB8 ltdc, keep_cell d2 hB8 ltdc, keep_cell d3 hB8 ltdc, keep_cell d4 hB8 ltdc, keep_cell d5 hB8 ltdc, keep_cell x1 hB8 ltxc⟩ (fun hHeld => ?_)
       clear hK K
       (try simp only [Act.put, List.setIfInBounds_toArray, List.set_cons_zero, List.set_cons_succ])
       refine hT (i := 16) (v := ?_) rfl rfl hHeld ?_ ?_
       rotate_left
       ·intro wh hz; iterate 20 obtain ⟨_, hz⟩ := hz
        go_simp
        (try with_reducible rfl)
       simp only [Act.put, List.setIfInBounds_toArray, List.set_cons_zero, List.set_cons_succ]
       refine hT (i := 17) (v := ?_) rfl rfl hHeld ?_ ?_
       rotate_left
       ·intro wh hz; iterate 20 obtain ⟨_, hz⟩ := hz
        go_simp
        (try with_reducible rfl)
       simp only [Act.put, List.setIfInBounds_toArray, List.set_cons_zero, List.set_cons_succ]
       refine hT (i := 18) (v := ?_) rfl rfl hHeld ?_ ?_
       rotate_left
       ·intro wh hz; iterate 20 obtain ⟨_, hz⟩ := hz
        go_simp
        (try with_reducible rfl)
       simp only [Act.put, List.setIfInBounds_toArray, List.set_cons_zero, List.set_cons_succ]
       refine held_call (i := 19) rfl (by kernel_rfl) (by rfl) (fun K hK => ?_)
       (go_simp; go_at_call 23; refine (KK2.out _ hB8).mono ?_; rintro e w9 ⟨rfl, hb9⟩; have hB9 := hB8.trans (hb9.mono hB8.size))
       refine hK.out _ _ ⟨keep_cell q0 hB9 ltqc, keep_cell q1 hB9 ltqc, keep_cell q2 hB9 ltqc, keep_cell q3 hB9 ltqc, keep_cell q4 hB9 ltqc, keep_cell q5 hB9 ltqc, keep_cell t0 hB9 lttc, keep_cell t1 hB9 lttc, keep_cell p0 hB9 ltbc, keep_cell p1 hB9 ltbc, keep_cell p2 hB9 ltbc, keep_cell p3 hB9 ltbc, keep_cell p4 hB9 ltbc, keep_cell p5 hB9 ltbc, keep_cell d0 hB9 ltdc, keep_cell d1 hB9 ltdc, keep_cell d2 hB9 ltdc, keep_cell d3 hB9 ltdc, keep_cell d4 hB9 ltdc, keep_cell d5 hB9 ltdc, keep_cell x1 hB9 ltxc⟩ (fun hHeld => ?_)
       clear hK K
       (try simp only [Act.put, List.setIfInBounds_toArray, List.set_cons_zero, List.set_cons_succ])
       refine hT (i := 20) (v := ?_) rfl rfl hHeld ?_ ?_
       rotate_left
       ·intro wh hz; iterate 20 obtain ⟨_, hz⟩ := hz
        go_simp
        (try with_reducible rfl)
       simp only [Act.put, List.setIfInBounds_toArray, List.set_cons_zero, List.set_cons_succ]
       refine hT (i := 21) (v := ?_) rfl rfl hHeld ?_ ?_
       rotate_left
       ·intro wh hz; iterate 20 obtain ⟨_, hz⟩ := hz
        go_simp
        (try with_reducible rfl)
       simp only [Act.put, List.setIfInBounds_toArray, List.set_cons_zero, List.set_cons_succ]
       refine wpAnyH_done (by kernel_rfl) ?_ _
       have HB9 := Lib.hid (HBU.out.trans (hB9.mono HBU.out.size))
       have HO9 := Lib.hid (own_later HOU.out hB9)
       clear hB7 hb7 hB8 hb8 hB9 hb9 hd HBU HOU KK2 KR2 KF q0 q1 q2 q3 q4 q5 t0 t1 p0 p1 p2 p3 p4 p5 d0 d1 d2 d3 d4 d5 x1
       have HN1 : Hid (idxTo G L (n + 1) = idxTo G L n ++ [(n : Int)]) := Lib.hid (by rw [HST.out, show GX = true from by rw [HGX.out]; rfl]; simp)
       have hb8 := alloc_below w9 (.cells #[I n] 3)
       have hown8 := HO9.out.alloc (.cells #[I n] 3)
       have hsz8 := HB9.out.size
       go_upto_region 18 with (at_builtin; (refine wpList_append_own _ rfl _ _ 38 rfl w6.heap.size 3 i0 (.int .i64 0) 1 8 Tryz.underlying38 hi hz0 hz1 hz2 rfl (by decide) _ _ _ rfl hown8 ⟨w9.heap.size, 0, none⟩ 1 1 [I n] rfl rfl (cell_one_new _ _ _) (by simp [Value.oneCell']) (by unfold maxLen; omega) (by omega) (by simp; omega) ?_); intro v' wz hown' hg8 hnil8)
       have HBz := Lib.hid ((HB9.out.trans (hb8.mono HB9.out.size)).grown hg8 (by simp; omega) (fun j e => (hown8.lt j e).1))
       have HOz : Hid (wz.ownsRow w6.heap.size 3 1 v' (idxTo G L (n + 1)).length ((idxTo G L (n + 1)).map I)) := Lib.hid (by rw [HN1.out]; simpa using hown')
       clear hown' hg8 hnil8 hown8 hb8 HB9 HO9
       have HOq : Hid ((wz).ownsRow w6.heap.size 3 1 _ (idxTo G L (n + 1)).length ((idxTo G L (n + 1)).map I)) := Lib.hid HOz.out
       obtain ⟨q0, q1, q2, q3, q4, q5⟩ := HP6.out.later HBz.out hgw6
       have t0 := keep_cell HT6.out.1 HBz.out hgl6
       have t1 := keep_cell HT6.out.2 HBz.out hgl6
       have x1 := (HX6.out.later HBz.out).get 1 _ rfl
       have kq := KQ6.out (n : Int) _ HBz.out
       rw [HQN.out] at kq
       go_wp2_with fail
       refine kq.mono ?_
       rintro e w10 ⟨r3, rfl, hI3, hb10⟩
       obtain ⟨ea, ec, rfl, _, _⟩ := RdAt.shape (RdAt.own hI3)
       have HB10 := Lib.hid (HBz.out.trans (hb10.mono HBz.out.size))
       have HO10 := Lib.hid (own_later HOq.out hb10)
       clear kq hb10 hI3 q0 q1 q2 q3 q4 q5 t0 t1 x1
       go_wp2
       go_roundw
       case rel => exact ⟨n + 1, by go_num, by omega, HO10, HB10⟩
       case measure => (simp [intOf]; try omega)
    ·obtain rfl : n = L.length := by omega
     obtain ⟨q0, q1, q2, q3, q4, q5⟩ := HP6.out.later HB.out hgw6
     have t0 := keep_cell HT6.out.1 HB.out hgl6
     have t1 := keep_cell HT6.out.2 HB.out hgl6
     have x1 := (HX6.out.later HB.out).get 1 _ rfl
     have kl2 := KL6.out _ HB.out
     have hrd := RdAt.own HO.out
     have hil := idxTo_len G L L.length
     have hil2 : (idxF G L).length ≤ 1000 := by unfold idxF; omega
     obtain ⟨ga, gc, rfl, _, _⟩ := RdAt.shape hrd
     have HRD := Lib.hid hrd
     clear hrd HO
     go_wp2_with fail
     refine kl2.mono ?_
     rintro e w7 ⟨r3, rfl, hI3, hb7⟩
     have ks := same_ints (idxF G L) (idxF G L) w7 _ _ hI3 (HRD.out.later hb7) hil2 hil2
     obtain ⟨za, zc, rfl, _, _⟩ := RdAt.shape hI3
     have HB7 := Lib.hid (HB.out.trans (hb7.mono HB.out.size))
     rw [decide_eq_true rfl] at ks
     clear kl2 hb7 q0 q1 q2 q3 q4 q5 t0 t1 x1 hI3
     go_wp2_with fail
     refine ks.mono ?_
     rintro e w8 ⟨rfl, hb8⟩
     have HB8 := Lib.hid (HB6.out.trans ((HB7.out.trans (hb8.mono HB7.out.size)).mono HB6.out.size))
     clear ks hb8
     go_wp2
     go_ret
     exact ⟨rfl, HB8.out⟩
end lawLow
end Go.Proofs.YtipnhpfpppblhaaGreat
/- Arguments: two numbers. -/
namespace Go.Proofs.YtipnhpfpppblhaaGreat
open Go.RowKit Go.WideShapes Go.ChangeShapes Go.Deep
theorem trod_array2 {H : Type} {enc : TypeId × Value → H} {P : Program} {w : World} {base : Nat} {spare : Nat → Bool} {held : Bool} {t e : TypeId} {fuel : Nat} {c0 c1 : Value} {x : DataW H × List MemPlace} (ht : P.underlying t = some (.array 2 e)) (hce : P.cellsOf e = 1)
  (h : DataW.trod enc P w base spare held fuel t [c0, c1] = some x) :
  ∃ y0 y1 n, x = (.agg [y0.1, y1.1], y0.2 ++ y1.2) ∧ DataW.trod enc P w base spare held n e [c0] = some y0 ∧ DataW.trod enc P w base spare held n e [c1] = some y1 := by
 cases fuel with
 | zero => simp [DataW.trod] at h
 | succ n =>
  unfold DataW.trod at h
  rw [ht] at h
  have r2 : List.range 2 = [0, 1] := rfl
  simp [r2, hce] at h
  obtain ⟨_, h⟩ := h
  cases h0 : DataW.trod enc P w base spare held n e [c0] with
  | none => simp [h0] at h
  | some y0 =>
   cases h1 : DataW.trod enc P w base spare held n e [c1] with
   | none => simp [h0, h1] at h
   | some y1 =>
    simp [h0, h1] at h
    exact ⟨y0, y1, n, h.symm, h0, h1⟩
set_option maxRecDepth 100000 in
theorem open_two {H : Type} {enc : TypeId × Value → H} {W : World} {base : Nat} {v : Value} {d : DataW H} {p : List MemPlace} (hval : Value.okWide Tryz.prog W .any base 28 v) (h : DataW.Trod enc Tryz.prog W 0 (fun _ => true) true 28 v d p) :
  ∃ a b : Int, v = .agg #[.int .i64 a, .int .i64 b] := by
 obtain ⟨cs, rfl, hsz, _⟩ : ∃ cs, v = .agg cs ∧ cs.size = Tryz.prog.cellsOf 28 ∧ Row.okWide Tryz.prog W .any base 28 cs := by
  simpa [Value.okWide, Tryz.underlying28] using hval
 rw [show Tryz.prog.cellsOf 28 = 2 by kernel_rfl] at hsz
 obtain ⟨fuel, hf⟩ := h
 obtain ⟨l⟩ := cs
 match l, hsz with
 | [c0, c1], _ =>
  obtain ⟨y0, y1, m, hx, hy0, hy1⟩ := trod_array2 Tryz.underlying28 (by kernel_rfl) hf
  obtain ⟨x0, e0, _, _⟩ := DataW.trod_int Tryz.underlying3 hy0
  obtain ⟨x1, e1, _, _⟩ := DataW.trod_int Tryz.underlying3 hy1
  cases e0; cases e1
  exact ⟨x0, x1, rfl⟩
end Go.Proofs.YtipnhpfpppblhaaGreat
/- InhibitLow: the walk, of its arguments. -/
namespace Go.Proofs.YtipnhpfpppblhaaGreat
open Go.RowKit
namespace lawLow
theorem walk (v : Value) (x : PV) (p : PD) (u : Value) (l : List (Al × Value)) (at0 at1 : Int) (w : World) (h1 : ArgPolC w v x p) (h2 : ArgAls w u l) : Calls Tryz.prog 4 #[v, u, .agg #[.int .i64 at0, .int .i64 at1]] w fun e w' => e = .returned (.bool true) ∧ Below w.heap.size w w' := by
 obtain ⟨⟨rfl, p2, p3⟩, p4⟩ := h1
 obtain ⟨y, rfl, _⟩ := pol_shape p2
 exact walk0 y p l u at0 at1 w p2 p4 p3 h2.1 h2.2
end lawLow
end Go.Proofs.YtipnhpfpppblhaaGreat
/- InhibitLow: the card: whatever the arguments, the law returns true and its arguments read as they did. No condition. -/
namespace Go.Proofs.YtipnhpfpppblhaaGreat.lawLow
open Go.ChangeShapes Go.WideShapes Go.ChangeAt Go.RowKit
open Go.ChangeMaps (open_string)

set_option maxRecDepth 100000 in
theorem contract (H : Type) (enc : TypeId × Value → H) (W : World) (base : Nat) (args : Array Value) (ds gs : List (DataW H)) (before : List MemPlace)
  (hval : ∀ (j : Nat) t v, Tryz.f4.params[j]? = some t → args[j]? = some v → Value.okWide Tryz.prog W .any base t v)
  (hW : DataW.Whole enc Tryz.prog Tryz.f4.params.toList Rows.inhibitLowSpec.vars false W args.toList ds gs before) :
  Calls Tryz.prog 4 args W fun e W' => ∃ v, e = .returned v ∧ Rows.inhibitLowSpec.post enc Tryz.prog Tryz.f4 false true false false W args v W' := by
 have hW' := hW
 obtain ⟨p, q, hA0, hV, rfl, hfz, hnd⟩ := hW
 have hA : DataW.TrodAll enc Tryz.prog W 0 (fun _ => true) true Tryz.f4.params.toList args.toList ds p := hA0
 rw [Tryz.params4] at hA hval
 obtain ⟨v0, vs0, d0, ds0, p0, q0, hargs, rfl, rfl, h0, r0⟩ := trodAll_cons hA
 obtain ⟨v1, vs1, d1, ds1, p1, q1, rfl, rfl, rfl, h1, r1⟩ := trodAll_cons r0
 obtain ⟨v2, vs2, d2, ds2, p2, q2, rfl, rfl, rfl, h2, r2⟩ := trodAll_cons r1
 obtain ⟨rfl, rfl, rfl⟩ := trodAll_nil r2
 obtain rfl : args = #[v0, v1, v2] := by cases args; simp_all
 obtain ⟨rfl, rfl⟩ := trodVars_none hV
 obtain ⟨x0, y0, hx0⟩ := polC_of_arg (hval 0 26 v0 rfl rfl) h0
 obtain ⟨x1, hx1⟩ := alsG_of_arg (hval 1 27 v1 rfl rfl) h1
 obtain ⟨a2, b2, rfl⟩ := open_two (hval 2 28 v2 rfl rfl) h2
 clear hA0
 refine (walk v0 x0 y0 v1 x1 (a2) b2 W hx0 hx1).mono ?_
 rintro e W' ⟨rfl, hb⟩
 exact ⟨_, rfl, law_post laidOut Tryz.underlying4 rfl rfl (by kernel_rfl) hW' rfl rfl rfl hb⟩

theorem laid_met (os : Os) : laidMet Tryz.prog Rows.inhibitLowRow.laid ((laidWorld os).forCall (fun _ _ => 0) ⟨#[], #[.agg #[.slice none 0 0, .slice none 0 0, .slice none 0 0, .slice none 0 0, .slice none 0 0, .slice none 0 0], .slice none 0 0, .agg #[.int .i64 0, .int .i64 0]], []⟩).memory :=
 ⟨[], rfl, List.nodup_nil, fun _ _ h => by cases h⟩
theorem reads (os : Os) {H : Type} (enc : TypeId × Value → H) : ∃ places, DataW.whole enc Tryz.prog ((laidWorld os).forCall (fun _ _ => 0) ⟨#[], #[.agg #[.slice none 0 0, .slice none 0 0, .slice none 0 0, .slice none 0 0, .slice none 0 0, .slice none 0 0], .slice none 0 0, .agg #[.int .i64 0, .int .i64 0]], []⟩).memory Tryz.f4.params.toList Rows.inhibitLowSpec.vars false (#[.agg #[.slice none 0 0, .slice none 0 0, .slice none 0 0, .slice none 0 0, .slice none 0 0, .slice none 0 0], .slice none 0 0, .agg #[.int .i64 0, .int .i64 0]] : Array Value).toList 8 = some ([.agg [.nil, .nil, .nil, .nil, .nil, .nil], .nil, .agg [.lit (.int .i64 0), .lit (.int .i64 0)]], [], places) :=
 ⟨[], by kernel_rfl⟩

set_option maxRecDepth 100000 in
theorem lifted (os : Os) (started : os.Started) (H : Type) (enc : TypeId × Value → H) (F : Stop.Interp) :
  ReturnsInHanded {} Tryz.checked os 4 .any ((OpenSpec.ofChange Rows.inhibitLowSpec).preRow enc Tryz.prog Tryz.f4 Rows.inhibitLowRow.domain false Rows.inhibitLowRow.laid) (((OpenSpec.ofChange Rows.inhibitLowSpec).at F).post enc Tryz.prog Tryz.f4 false true false false) := by
 obtain ⟨places, hx⟩ := reads os enc
 refine returnsInHanded_of_row (C := Tryz.checked) (s := OpenSpec.ofChange Rows.inhibitLowSpec) ownNone started (by kernel_rfl) Tryz.func4
  (witness_row_at (enc := enc) (C := Tryz.checked) false (laidWorld os) #[.agg #[.slice none 0 0, .slice none 0 0, .slice none 0 0, .slice none 0 0, .slice none 0 0, .slice none 0 0], .slice none 0 0, .agg #[.int .i64 0, .int .i64 0]] rfl (by kernel_rfl) (by kernel_rfl) (by kernel_rfl)
   (OpenSpec.preRow_of_cond 8 hx (by kernel_rfl) (fun k hk => by cases hk) (by kernel_rfl) (laid_met os))) ?_
 intro W base args ds gs before hval hW _ _ _ _ _ _
 exact contract H enc W base args ds gs before hval hW

theorem said : Rows.InhibitLowSaid :=
 OpenClaim.holds_of_cond 4 Tryz.f4 rfl rfl rfl rfl rfl rfl rfl ⟨rfl, rfl, rfl, rfl, rfl⟩ rfl rfl rfl rfl rfl (by kernel_rfl) Tryz.func4 (by kernel_rfl)
  (of_decide_eq_true (by kernel_rfl)) (by unfold Func.isWrapper; first | (rw [if_pos (by decide +kernel)]; kernel_rfl) | (rw [if_neg (by decide +kernel)]; exact ⟨rfl, rfl⟩))
  (fun os started H enc _ F => by rw [OpenClaim.pre_eq_preRow]; exact lifted os started H enc F)

end Go.Proofs.YtipnhpfpppblhaaGreat.lawLow
