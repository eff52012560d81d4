/- InhibitRules: the card: whatever the arguments, the law returns true and its arguments read as they did. No condition. -/
import Derived.Test.YtipnhpfpppblhaaGreatU13P5
import Derived.Test.YtipnhpfpppblhaaGreatFrame12

/- A box beside the policy's: what stands in it stays. No program in sight but types. -/
namespace Go.Proofs.YtipnhpfpppblhaaGreat
open Go.RowKit

/-- a box, and its cells -/
structure BxAt (b : Nat) (cs : List Value) (W : World) : Prop where
 lt : b < W.heap.size
 get : ∀ (j : Nat) (v : Value), cs[j]? = some v → W.cell? ⟨b, j, none⟩ = some v
theorem BxAt.later {b : Nat} {cs : List Value} {W W' : World} (h : BxAt b cs W) (hb : Below W.heap.size W W') : BxAt b cs W' :=
 ⟨Nat.lt_of_lt_of_le h.lt hb.size, fun j v hj => keep_cell (h.get j v hj) hb h.lt⟩
theorem BxAt.puts {b : Nat} {cs : List Value} {W : World} (h : BxAt b cs W) {g o : Nat} (hne : b ≠ g) (vs : List Value) : BxAt b cs (W.setCells g o vs) :=
 ⟨Nat.lt_of_lt_of_le h.lt (below_puts_base (g := g) (o := o) (Below.refl 0 W) (Nat.zero_le _) vs).size, fun j v hj => by
  rw [World.cell?_setCells_out _ _ _ _ _ (fun hb _ => absurd hb hne)]
  exact h.get j v hj⟩
theorem two_boxes (w : World) (v0 v1 v2 v3 v4 v5 : Value) (cs : List Value) (s t : TypeId) (W : World) (h : (w.alloc (.cells #[v0, v1, v2, v3, v4, v5] s)).alloc (.cells cs.toArray t) = W) :
  C6 w.heap.size v0 v1 v2 v3 v4 v5 W ∧ W.there w.heap.size 0 6 ∧ BxAt (w.heap.size + 1) cs W ∧ Below w.heap.size w W ∧ w.heap.size < W.heap.size := by
 subst h
 obtain ⟨W1, h1⟩ : ∃ z, w.alloc (.cells #[v0, v1, v2, v3, v4, v5] s) = z := ⟨_, rfl⟩
 rw [h1]
 have s1 : W1.heap.size = w.heap.size + 1 := by rw [← h1, World.size_alloc]
 have b1 : Below w.heap.size w W1 := by rw [← h1]; exact alloc_below _ _
 have x6 : C6 w.heap.size v0 v1 v2 v3 v4 v5 W1 := by rw [← h1]; exact box6n w _ _ _ _ _ _ _
 have ht : W1.there w.heap.size 0 6 := h1 ▸ box_there (Below.refl _ _)
 obtain ⟨s2, b2, c2⟩ := alloc_facts W1 cs t _ rfl
 refine ⟨x6.later b2 (by omega), there_later ht b2 (by omega), ⟨by omega, fun j v hj => ?_⟩, b1.trans (b2.mono (by omega)), by omega⟩
 rw [← s1]
 exact c2 j v hj
theorem c6_put3 {w : World} {g : Nat} {a b c d e f : Value} (x : Value) (h : C6 g a b c d e f w) (ht : w.there g 0 6) : C6 g a b c x e f (w.setCells g 3 [x]) := by
 obtain ⟨h0, h1, h2, h3, h4, h5⟩ := h
 have ht' : w.there g 3 1 := fun j hj => by
  have := ht (3 + j) (by omega)
  rwa [Nat.zero_add] at this
 have h3' : (w.setCells g 3 [x]).cell? ⟨g, 3, none⟩ = some x := by
  have := World.rangeAt_setCells_same w g 3 [x] ht' 0 x rfl
  simpa using this
 refine ⟨?_, ?_, ?_, h3', ?_, ?_⟩
 ·rw [World.cell?_setCells_out _ _ _ _ _ (fun _ _ => by first | (left; simp; done) | (right; simp; done))]; exact h0
 ·rw [World.cell?_setCells_out _ _ _ _ _ (fun _ _ => by first | (left; simp; done) | (right; simp; done))]; exact h1
 ·rw [World.cell?_setCells_out _ _ _ _ _ (fun _ _ => by first | (left; simp; done) | (right; simp; done))]; exact h2
 ·rw [World.cell?_setCells_out _ _ _ _ _ (fun _ _ => by first | (left; simp; done) | (right; simp; done))]; exact h4
 ·rw [World.cell?_setCells_out _ _ _ _ _ (fun _ _ => by first | (left; simp; done) | (right; simp; done))]; exact h5
end Go.Proofs.YtipnhpfpppblhaaGreat
/- InhibitRules: the walk. -/
namespace Go.Proofs.YtipnhpfpppblhaaGreat
open Go.RowKit Go.Maps

namespace lawRules
set_option maxHeartbeats 6400000 in
set_option maxRecDepth 100000 in
theorem walk0 (x : PA) (p : PD) (l : List (Al × Value)) (v : Value) (l0 : Int) (k0 : Nat) (l1 : Int) (k1 : Nat) (w : World) (hp : PolAt w (x.pv p) p) (hc : PCap (x.pv p)) (hpf : PolFitD p) (ha : AlsAt w v l) (hl : l.length ≤ maxLen) (hk0 : k0 < 4294967296) (hk1 : k1 < 4294967296) :
  Calls Tryz.prog 8 #[(x.pv p).v, v, .agg #[.int .i64 l0, .int .u32 k0, .int .i64 l1, .int .u32 k1]] w fun e w' => e = .returned (.bool true) ∧ Below w.heap.size w w' := by
 have kl := lives_any
 have kc := fun W (h : Below w.heap.size w W) => rcutD_any x p W (hp.later h) hc
 have kfew := fun W (h : Below w.heap.size w W) => few13_any l v W (ha.later h) hl
 have hq := pol_cut hp
 have hqf := cutD_fit hpf
 have h14 : p.cut.ih.length ≤ 14 := by unfold PD.cut; exact List.length_take_le _ _
 generalize p.cut = q at *
 have HRA : Hid (({ q with ra := [] } : PD).ra = []) := Lib.hid rfl
 have HIH : Hid (({ q with ra := [] } : PD).ih = q.ih) := Lib.hid rfl
 have hq2 : PolAt w ⟨(x.pv q).v0, (x.pv q).v1, (x.pv q).v2, .slice none 0 0, (x.pv q).v4, (x.pv q).v5⟩ { q with ra := [] } := ⟨hq.h0, hq.h1, hq.h2, RdAt.nil _ _, hq.h4, hq.h5⟩
 have hqf2 : PolFitD { q with ra := [] } := ⟨hqf.h0, hqf.h1, hqf.h2, ⟨Nat.zero_le _, fun x hx => (by cases hx), fun x hx => (by cases hx)⟩, hqf.l4, hqf.h4, hqf.l5, hqf.h5⟩
 have h14b : ({ q with ra := [] } : PD).ih.length ≤ 14 := h14
 generalize ({ q with ra := [] } : PD) = q2 at *
 obtain ⟨a0, c0, a1, c1, a2, c2, a3, c3, a4, c4, a5, c5⟩ := x
 have KQT := Lib.hid (fun (L : List (Al × Value)) (u : Value) (k : Int) (tl : Int) (tc : Nat) (nw : Int) (W : World) (h : Below w.heap.size w W) (hL : AlsAt W u L) (hn : L.length ≤ maxLen) => iquiet_any _ q2 L u k tl tc nw W (hq2.later h) hqf2 hL hn)
 have KBT := Lib.hid (fun (L : List (Al × Value)) (u : Value) (tl : Int) (tc : Nat) (nw : Int) (W : World) (h : Below w.heap.size w W) (hL : AlsAt W u L) (hn : L.length ≤ 1000000) (h12 : ∀ y ∈ L, y.1.fl.length ≤ 12) => ibits_any _ q2 L u tl tc nw W (hq2.later h) hqf2 hL hn h12 h14b)
 clear hq2 hqf2 h14b
 have HQP := Lib.hid hq
 have HQF := Lib.hid hqf
 dsimp only [PA.pv, PV.v] at *
 generalize p.so.length = n0 at *
 generalize p.re.length = n1 at *
 generalize p.pe.length = n2 at *
 generalize p.ra.length = n3 at *
 generalize p.ro.length = n4 at *
 generalize p.ih.length = n5 at *
 obtain ⟨m0, hm0⟩ : ∃ z, q.so.length = z := ⟨_, rfl⟩
 obtain ⟨m1, hm1⟩ : ∃ z, q.re.length = z := ⟨_, rfl⟩
 obtain ⟨m2, hm2⟩ : ∃ z, q.pe.length = z := ⟨_, rfl⟩
 obtain ⟨m3, hm3⟩ : ∃ z, q.ra.length = z := ⟨_, rfl⟩
 obtain ⟨m4, hm4⟩ : ∃ z, q.ro.length = z := ⟨_, rfl⟩
 obtain ⟨m5, hm5⟩ : ∃ z, q.ih.length = z := ⟨_, rfl⟩
 rw [hm0, hm1, hm2, hm4, hm5] at KQT KBT
 rw [hm0, hm1, hm2, hm3, hm4, hm5] at kc HQP
 have HM5 := Lib.hid hm5
 have H14 := Lib.hid h14
 have KC := Lib.hid kc
 have KFEW := Lib.hid kfew
 have HA := Lib.hid ha
 clear kc kfew hp hc hpf ha hq hqf hl h14 hm0 hm1 hm2 hm3 hm4 hm5
 obtain ⟨W0, hW0⟩ : ∃ z, (w.alloc (.cells #[.slice a0 n0 c0, .slice a1 n1 c1, .slice a2 n2 c2, .slice a3 n3 c3, .slice a4 n4 c4, .slice a5 n5 c5] 26)).alloc (.cells #[.int .i64 l0, .int .u32 k0, .int .i64 l1, .int .u32 k1] 64) = z := ⟨_, rfl⟩
 obtain ⟨hP, hT, hX, hb0, hz⟩ := two_boxes w (.slice a0 n0 c0) (.slice a1 n1 c1) (.slice a2 n2 c2) (.slice a3 n3 c3) (.slice a4 n4 c4) (.slice a5 n5 c5) [.int .i64 l0, .int .u32 k0, .int .i64 l1, .int .u32 k1] _ _ W0 hW0
 have HX0 := Lib.hid hX
 clear hX
 have HP := Lib.hid hP
 have HT := Lib.hid hT
 have HB0 := Lib.hid hb0
 have HZ := Lib.hid hz
 have HW0 := Lib.hid hW0
 obtain ⟨va, vc, rfl, _, _⟩ := RdAt.shape HA.out.row
 clear hb0 hz hT hP hW0
 go_enter Tryz.func8, Tryz.ntmps8
 go_upto_region 1 with fail
 rw [HW0.out]
 clear HW0
 go_wp2_with fail
 refine (kl _).mono ?_
 rintro e w1 ⟨rfl, hb1⟩
 have HB1 := Lib.hid (HB0.out.trans (hb1.mono HB0.out.size))
 have HT1 := Lib.hid (there_later HT.out hb1 HZ.out)
 have HZ1 := Lib.hid (Nat.lt_of_lt_of_le HZ.out hb1.size)
 obtain ⟨p0, p1, p2, p3, p4, p5⟩ := HP.out.later hb1 HZ.out
 have HX1 := Lib.hid (HX0.out.later hb1)
 clear hb1 kl HB0 HP HT HZ
 go_wp2_with fail
 refine (KC.out _ HB1.out).mono ?_
 rintro e w2 ⟨rfl, hb2⟩
 have HB2 := Lib.hid (HB1.out.trans (hb2.mono HB1.out.size))
 have HT2 := Lib.hid (there_later HT1.out hb2 HZ1.out)
 have HZ2 := Lib.hid (Nat.lt_of_lt_of_le HZ1.out hb2.size)
 have HX2 := Lib.hid (HX1.out.later hb2)
 clear HX1 HX0
 have P0 := keep_cell p0 hb2 HZ1.out
 have P1 := keep_cell p1 hb2 HZ1.out
 have P2 := keep_cell p2 hb2 HZ1.out
 have P3 := keep_cell p3 hb2 HZ1.out
 have P4 := keep_cell p4 hb2 HZ1.out
 have P5 := keep_cell p5 hb2 HZ1.out
 clear hb2 p0 p1 p2 p3 p4 p5 KC HB1 HT1 HZ1
 have f0 := there_free HT2.out 0 (by decide)
 have f1 := there_free HT2.out 1 (by decide)
 have f2 := there_free HT2.out 2 (by decide)
 have f3 := there_free HT2.out 3 (by decide)
 have f4 := there_free HT2.out 4 (by decide)
 have f5 := there_free HT2.out 5 (by decide)
 go_upto_region 4 with fail
 change Code.wp _ _ _ _ (w2.setCells w.heap.size 0 [.slice a0 m0 c0, .slice a1 m1 c1, .slice a2 m2 c2, .slice a3 m3 c3, .slice a4 m4 c4, .slice a5 m5 c5])
 have HX3a := Lib.hid (HX2.out.puts (g := w.heap.size) (o := 0) (by omega) [.slice a0 m0 c0, .slice a1 m1 c1, .slice a2 m2 c2, .slice a3 m3 c3, .slice a4 m4 c4, .slice a5 m5 c5])
 clear HX2
 have hP3a := c6_puts w2 w.heap.size (.slice a0 m0 c0) (.slice a1 m1 c1) (.slice a2 m2 c2) (.slice a3 m3 c3) (.slice a4 m4 c4) (.slice a5 m5 c5) HT2.out
 have hB3a := below_puts (g := w.heap.size) (o := 0) HB2.out (Nat.le_refl _) [.slice a0 m0 c0, .slice a1 m1 c1, .slice a2 m2 c2, .slice a3 m3 c3, .slice a4 m4 c4, .slice a5 m5 c5]
 have hZ3a := Nat.lt_of_lt_of_le HZ2.out (below_puts_base (g := w.heap.size) (o := 0) (Below.refl 0 w2) (Nat.zero_le _) [.slice a0 m0 c0, .slice a1 m1 c1, .slice a2 m2 c2, .slice a3 m3 c3, .slice a4 m4 c4, .slice a5 m5 c5]).size
 have HT3a := Lib.hid (World.there_setCells HT2.out w.heap.size 0 [.slice a0 m0 c0, .slice a1 m1 c1, .slice a2 m2 c2, .slice a3 m3 c3, .slice a4 m4 c4, .slice a5 m5 c5])
 generalize w2.setCells w.heap.size 0 [.slice a0 m0 c0, .slice a1 m1 c1, .slice a2 m2 c2, .slice a3 m3 c3, .slice a4 m4 c4, .slice a5 m5 c5] = w3a at *
 clear f0 f1 f2 f3 f4 f5 P0 P1 P2 P3 P4 P5 HB2 HT2 HZ2
 have HP3a := Lib.hid hP3a
 have HB3a := Lib.hid hB3a
 have HZ3a := Lib.hid hZ3a
 clear hP3a hB3a hZ3a
 obtain ⟨P0, P1, P2, P3, P4, P5⟩ := HP3a.out
 have f3 := there_free HT3a.out 3 (by decide)
 go_upto_region 5 with fail
 change Code.wp _ _ _ _ (w3a.setCells w.heap.size 3 [.slice none 0 0])
 have HX3 := Lib.hid (HX3a.out.puts (g := w.heap.size) (o := 3) (by omega) [.slice none 0 0])
 have hP3 := c6_put3 (.slice none 0 0) HP3a.out HT3a.out
 have hB3 := below_puts (g := w.heap.size) (o := 3) HB3a.out (Nat.le_refl _) [.slice none 0 0]
 have hZ3 := Nat.lt_of_lt_of_le HZ3a.out (below_puts_base (g := w.heap.size) (o := 3) (Below.refl 0 w3a) (Nat.zero_le _) [.slice none 0 0]).size
 generalize w3a.setCells w.heap.size 3 [.slice none 0 0] = w3 at *
 clear f3 P0 P1 P2 P3 P4 P5 HB3a HT3a HZ3a HP3a HX3a
 have HP3 := Lib.hid hP3
 have HB3 := Lib.hid hB3
 have HZ3 := Lib.hid hZ3
 clear hP3 hB3 hZ3
 have kf := KFEW.out w3 HB3.out
 clear KFEW HA
 go_wp2_with fail
 refine kf.mono ?_
 rintro e w4 ⟨u1, u2, L, rfl, hb4, hO, hD, hmap⟩
 have h10 : L.length ≤ 10 := by
  have := congrArg List.length hmap
  rw [List.length_map, List.length_map, List.length_take] at this
  omega
 have H12 : Hid (∀ y ∈ L, y.1.fl.length ≤ 12) := Lib.hid (fun y hy => by
  have hm : y.1 ∈ (l.take 10).map (fun p => cutA p.1) := hmap ▸ List.mem_map_of_mem hy
  obtain ⟨z, _, hz⟩ := List.mem_map.1 hm
  rw [← hz]
  exact List.length_take_le _ _)
 obtain ⟨oa, oc, rfl, hoc, hor⟩ := RdAt.shape hO.row
 obtain ⟨da, dc, rfl, hdc, _⟩ := RdAt.shape hD.row
 have HB4 := Lib.hid (HB3.out.trans (hb4.mono HB3.out.size))
 have HP4 := Lib.hid (HP3.out.later hb4 HZ3.out)
 have HZ4 := Lib.hid (Nat.lt_of_lt_of_le HZ3.out hb4.size)
 have HX4 := Lib.hid (HX3.out.later hb4)
 clear HX3
 have HO4 := Lib.hid hO
 have HD4 := Lib.hid hD
 clear kf hb4 hO hD hmap hor HB3 HP3 HZ3
 have hqq := HQP.out
 obtain ⟨_, _, _, _, _, h5, h5b⟩ := hqq
 dsimp only at h5
 rw [HM5.out] at h5
 obtain ⟨a5', c5', hs5, _, hir⟩ := RdAt.shape h5
 simp only [Value.slice.injEq] at hs5
 obtain ⟨hs5a, _, hs5c⟩ := hs5
 subst hs5a
 subst hs5c
 have HIR := Lib.hid hir
 have hm14 := H14.out
 rw [HM5.out] at hm14
 have hmi : q2.ih.length = m5 := by rw [HIH.out]; exact HM5.out
 have HMI := Lib.hid hmi
 have KB := Lib.hid (fun (tl : Int) (tc : Nat) W (h : Below w4.heap.size w4 W) => KBT.out L _ tl tc 20 W (HB4.out.trans (h.mono HB4.out.size)) (HO4.out.later h) (by omega) H12.out)
 have KQ := Lib.hid (fun k W (h : Below w4.heap.size w4 W) => KQT.out L _ k l0 k0 20 W (HB4.out.trans (h.mono HB4.out.size)) (HO4.out.later h) (by unfold maxLen; omega))
 rw [hmi] at KB
 clear h5 h5b hir KQT KBT hmi
 obtain ⟨y0, y1, y2, y3, y4, y5⟩ := HP4.out
 have x0 := HX4.out.get 0 _ rfl
 have x1 := HX4.out.get 1 _ rfl
 have x2 := HX4.out.get 2 _ rfl
 have x3 := HX4.out.get 3 _ rfl
 have ltq := HZ4.out
 have ltx := HX4.out.lt
 go_upto_region 6 with fail
 refine wp_region_held_drew (S := (fun W => W.cell? ⟨w.heap.size, 0, none⟩ = some (.slice a0 m0 c0) ∧ W.cell? ⟨w.heap.size, 1, none⟩ = some (.slice a1 m1 c1) ∧ W.cell? ⟨w.heap.size, 2, none⟩ = some (.slice a2 m2 c2) ∧ W.cell? ⟨w.heap.size, 3, none⟩ = some (.slice none 0 0) ∧ W.cell? ⟨w.heap.size, 4, none⟩ = some (.slice a4 m4 c4) ∧ W.cell? ⟨w.heap.size, 5, none⟩ = some (.slice a5 m5 c5) ∧ W.cell? ⟨w.heap.size + 1, 0, none⟩ = some (.int .i64 l0) ∧ W.cell? ⟨w.heap.size + 1, 1, none⟩ = some (.int .u32 k0) ∧ W.cell? ⟨w.heap.size + 1, 2, none⟩ = some (.int .i64 l1) ∧ W.cell? ⟨w.heap.size + 1, 3, none⟩ = some (.int .u32 k1))) (by kernel_rfl) ⟨y0, y1, y2, y3, y4, y5, x0, x1, x2, x3⟩ (fun hHeld => ?_)
 have hd : Below w4.heap.size w4 w4.drew := (Below.refl _ _).drew
 refine hT (i := 0) (v := ?_) rfl rfl hHeld ?_ ?_
 rotate_left
 ·intro wh hz; iterate 9 obtain ⟨_, hz⟩ := hz
  go_simp
  (try with_reducible rfl)
 simp only [Act.put, List.setIfInBounds_toArray, List.set_cons_zero, List.set_cons_succ]
 refine hT (i := 1) (v := ?_) rfl rfl hHeld ?_ ?_
 rotate_left
 ·intro wh hz; iterate 9 obtain ⟨_, hz⟩ := hz
  go_simp
  (try with_reducible rfl)
 simp only [Act.put, List.setIfInBounds_toArray, List.set_cons_zero, List.set_cons_succ]
 refine hT (i := 2) (v := ?_) rfl rfl hHeld ?_ ?_
 rotate_left
 ·intro wh hz; iterate 9 obtain ⟨_, hz⟩ := hz
  go_simp
  (try with_reducible rfl)
 simp only [Act.put, List.setIfInBounds_toArray, List.set_cons_zero, List.set_cons_succ]
 refine hT (i := 3) (v := ?_) rfl rfl hHeld ?_ ?_
 rotate_left
 ·intro wh hz; iterate 9 obtain ⟨_, hz⟩ := hz
  go_simp
  (try with_reducible rfl)
 simp only [Act.put, List.setIfInBounds_toArray, List.set_cons_zero, List.set_cons_succ]
 refine hT (i := 5) (v := ?_) rfl rfl hHeld ?_ ?_
 rotate_left
 ·intro wh hz; iterate 9 obtain ⟨_, hz⟩ := hz
  go_simp
  (try with_reducible rfl)
 simp only [Act.put, List.setIfInBounds_toArray, List.set_cons_zero, List.set_cons_succ]
 refine hT (i := 6) (v := ?_) rfl rfl hHeld ?_ ?_
 rotate_left
 ·intro wh hz; iterate 9 obtain ⟨_, hz⟩ := hz
  go_simp
  (try with_reducible rfl)
 simp only [Act.put, List.setIfInBounds_toArray, List.set_cons_zero, List.set_cons_succ]
 refine hT (i := 7) (v := ?_) rfl rfl hHeld ?_ ?_
 rotate_left
 ·intro wh hz; iterate 9 obtain ⟨_, hz⟩ := hz
  go_simp
  (try with_reducible rfl)
 simp only [Act.put, List.setIfInBounds_toArray, List.set_cons_zero, List.set_cons_succ]
 refine hT (i := 8) (v := ?_) rfl rfl hHeld ?_ ?_
 rotate_left
 ·intro wh hz; iterate 9 obtain ⟨_, hz⟩ := hz
  go_simp
  (try with_reducible rfl)
 simp only [Act.put, List.setIfInBounds_toArray, List.set_cons_zero, List.set_cons_succ]
 refine held_call (i := 4) rfl (by kernel_rfl) (by rfl) (fun K hK => ?_)
 (go_simp; go_at_call 15; refine (KB.out _ _ _ hd).mono ?_; rintro e w5 ⟨rr5, rfl, hO5, hb5⟩; have hB5 := hd.trans (hb5.mono hd.size))
 refine hK.out _ _ ⟨keep_cell y0 hB5 ltq, keep_cell y1 hB5 ltq, keep_cell y2 hB5 ltq, keep_cell y3 hB5 ltq, keep_cell y4 hB5 ltq, keep_cell y5 hB5 ltq, keep_cell x0 hB5 ltx, keep_cell x1 hB5 ltx, keep_cell x2 hB5 ltx, keep_cell x3 hB5 ltx⟩ (fun hHeld => ?_)
 clear hK K
 (try simp only [Act.put, List.setIfInBounds_toArray, List.set_cons_zero, List.set_cons_succ])
 refine held_call (i := 9) rfl (by kernel_rfl) (by rfl) (fun K hK => ?_)
 (go_simp; go_at_call 15; refine (KB.out _ _ _ hB5).mono ?_; rintro e w6 ⟨rr6, rfl, hO6, hb6⟩; have hB6 := hB5.trans (hb6.mono hB5.size))
 refine hK.out _ _ ⟨keep_cell y0 hB6 ltq, keep_cell y1 hB6 ltq, keep_cell y2 hB6 ltq, keep_cell y3 hB6 ltq, keep_cell y4 hB6 ltq, keep_cell y5 hB6 ltq, keep_cell x0 hB6 ltx, keep_cell x1 hB6 ltx, keep_cell x2 hB6 ltx, keep_cell x3 hB6 ltx⟩ (fun hHeld => ?_)
 clear hK K
 (try simp only [Act.put, List.setIfInBounds_toArray, List.set_cons_zero, List.set_cons_succ])
 refine hT (i := 10) (v := ?_) rfl rfl hHeld ?_ ?_
 rotate_left
 ·intro wh hz; iterate 9 obtain ⟨_, hz⟩ := hz
  go_simp
  (try with_reducible rfl)
 simp only [Act.put, List.setIfInBounds_toArray, List.set_cons_zero, List.set_cons_succ]
 refine hT (i := 11) (v := ?_) rfl rfl hHeld ?_ ?_
 rotate_left
 ·intro wh hz; iterate 9 obtain ⟨_, hz⟩ := hz
  go_simp
  (try with_reducible rfl)
 simp only [Act.put, List.setIfInBounds_toArray, List.set_cons_zero, List.set_cons_succ]
 refine wpAnyH_done (by kernel_rfl) ?_ _
 have HA6 := Lib.hid (hO5.later hb6)
 have HC6 := Lib.hid hO6
 obtain ⟨ga, rfl, _⟩ := hO5
 obtain ⟨gb, rfl, _⟩ := hO6
 have HB6 := Lib.hid (HB4.out.trans (hB6.mono HB4.out.size))
 have HP6 := Lib.hid (HP4.out.later hB6 ltq)
 have HX6 := Lib.hid (HX4.out.later hB6)
 have HZ6 : Hid (w.heap.size < w6.heap.size) := Lib.hid (Nat.lt_of_lt_of_le ltq hB6.size)
 have HO6 := Lib.hid (HO4.out.later hB6)
 have KQ6 := Lib.hid (fun k W (h : Below w6.heap.size w6 W) => KQ.out k W (hB6.trans (h.mono hB6.size)))
 have HFL : Hid (∀ (i : Nat) (h : i < q.ih.length), bitX q2 L (l0, k0) 20 i = true → flowsL (q.ih[i]).lv (q.ih[i]).c l0 k0 = true) := Lib.hid (fun i h hb => by
  have h2 : i < q2.ih.length := by rw [HIH.out]; exact h
  have := bit_flows h2 hb
  simpa only [HIH.out] using this)
 have HUP : Hid (∀ i : Nat, flowsL l0 k0 l1 k1 = true → bitX q2 L (l0, k0) 20 i = true → bitX q2 L (l1, k1) 20 i = true) := Lib.hid (fun i hf h => bit_up HRA.out hf h)
 have HSB : Hid (∀ i : Nat, someTo q2 L (l0, k0) 20 i L.length = bitX q2 L (l0, k0) 20 i) := Lib.hid (fun i => some_bit q2 L (l0, k0) 20 i)
 have HSS : Hid (∀ i n (h : n < L.length), someTo q2 L (l0, k0) 20 i (n + 1) = (someTo q2 L (l0, k0) 20 i n || ((quietK q2 L (n : Int) (l0, k0) 20).contains (i : Int) && firesA L[n].1 20))) := Lib.hid (fun i n h => someTo_step h)
 have HS0 : Hid (∀ i, someTo q2 L (l0, k0) 20 i 0 = false) := Lib.hid (fun i => by unfold someTo; rfl)
 have HQL := Lib.hid (fun k => quietK_len q2 L k (l0, k0) 20)
 generalize bitX q2 L (l0, k0) 20 = XA at *
 generalize bitX q2 L (l1, k1) 20 = XB at *
 generalize someTo q2 L (l0, k0) 20 = SM at *
 clear y0 y1 y2 y3 y4 y5 x0 x1 x2 x3 ltq ltx hd hb5 hb6 hB5 hB6 HB4 HP4 HX4 HZ4 HO4 HD4 KB KQ
 go_wp2
 go_loopw [11] (fun i wr => ∃ (n : Nat), i = .int .i64 n ∧ n ≤ m5 ∧ Hid (Below w6.heap.size w6 wr)) (fun i _ => m5 - (intOf i).toNat)
 case atStart => exact ⟨0, rfl, Nat.zero_le _, Lib.hid (Below.refl _ _)⟩
 case round =>
  obtain ⟨n, rfl, hn, HB⟩ := hrel
  by_cases hnl : n < m5
  ·obtain ⟨wo, rfl⟩ : ∃ z, z = wr := ⟨_, rfl⟩
   have HSN := Lib.hid (HSS.out n)
   have HSZ := Lib.hid (HS0.out n)
   have HSL := Lib.hid (HSB.out n)
   go_wp2
   go_loopw [12, 13] (fun sm i wr => ∃ (k : Nat), i = .int .i64 k ∧ k ≤ L.length ∧ sm = .bool (SM n k) ∧ Hid (Below w6.heap.size w6 wr)) (fun _ i _ => L.length - (intOf i).toNat)
   case atStart => exact ⟨0, rfl, Nat.zero_le _, by rw [HSZ.out], HB⟩
   case round =>
    clear HB
    obtain ⟨k, rfl, hk, rfl, HB⟩ := hrel
    by_cases hkl : k < L.length
    ·obtain ⟨wp, rfl⟩ : ∃ z, z = wr := ⟨_, rfl⟩
     have HSK := Lib.hid (HSN.out k hkl)
     have hOw := HO6.out.later HB.out
     obtain ⟨la', lc', hsh, _, hor⟩ := RdAt.shape hOw.row
     obtain ⟨b, o, hb, hbl, hcell⟩ := hor (by omega)
     simp only [Value.slice.injEq] at hsh
     obtain ⟨hsh1, _, hsh3⟩ := hsh
     subst hsh1
     subst hsh3
     subst hb
     have hat := alCells_at L k hkl
     have p0 := hcell _ _ (hat 0 _ rfl)
     have p1 := hcell _ _ (hat 1 _ rfl)
     have p2 := hcell _ _ (hat 2 _ rfl)
     have p3 := hcell _ _ (hat 3 _ rfl)
     have p4 := hcell _ _ (hat 4 _ rfl)
     have p5 := hcell _ _ (hat 5 _ rfl)
     rw [Nat.add_zero] at p0
     rw [← Nat.add_assoc] at p1 p2 p3 p4 p5
     obtain ⟨hfk, _⟩ := hOw.fld _ (List.getElem_mem hkl)
     have hq14 := HQL.out (k : Int)
     have kq := KQ6.out (k : Int) _ HB.out
     obtain ⟨Q, hQ⟩ : ∃ z, quietK q2 L (k : Int) (l0, k0) 20 = z := ⟨_, rfl⟩
     rw [hQ] at kq HSK hq14
     rw [HMI.out] at hq14
     clear hQ
     generalize L[k] = y at *
     obtain ⟨⟨src, fl, alv, ac, fr, til⟩, fv⟩ := y
     dsimp only at *
     obtain ⟨fa, fc, rfl, hfc, _⟩ := RdAt.shape hfk
     have KF := Lib.hid (fun V => fires_any src fa fl.length fc alv ac fr til 20 V)
     have hF : firesA ⟨src, fl, alv, ac, fr, til⟩ 20 = (decide (fr ≤ 20) && (decide (til = 0) || decide (20 < til))) := rfl
     rw [← hF] at KF
     generalize firesA ⟨src, fl, alv, ac, fr, til⟩ 20 = FI at *
     generalize SM n k = SK0 at *
     obtain ⟨y0, y1, y2, y3, y4, y5⟩ := HP6.out.later HB.out HZ6.out
     have x0 := (HX6.out.later HB.out).get 0 _ rfl
     have x1 := (HX6.out.later HB.out).get 1 _ rfl
     have HP := Lib.hid (And.intro p0 (And.intro p1 (And.intro p2 (And.intro p3 (And.intro p4 p5)))))
     have HBL := Lib.hid hbl
     clear hfk hat hcell hor hF p0 p1 p2 p3 p4 p5 hOw
     go_wp2_with fail
     refine kq.mono ?_
     rintro e w7 ⟨r, rfl, hown, hb7⟩
     have hI := RdAt.own hown
     obtain ⟨qa, qc, rfl, _, hqr⟩ := RdAt.shape hI
     have HQR := Lib.hid hqr
     obtain ⟨p0, p1, p2, p3, p4, p5⟩ := HP.out
     have HP7 := Lib.hid (And.intro (keep_cell p0 hb7 HBL.out) (And.intro (keep_cell p1 hb7 HBL.out) (And.intro (keep_cell p2 hb7 HBL.out) (And.intro (keep_cell p3 hb7 HBL.out) (And.intro (keep_cell p4 hb7 HBL.out) (keep_cell p5 hb7 HBL.out))))))
     have HBL7 := Lib.hid (Nat.lt_of_lt_of_le HBL.out hb7.size)
     have HB7 := Lib.hid (HB.out.trans (hb7.mono HB.out.size))
     clear kq hown hI hqr y0 y1 y2 y3 y4 y5 x0 x1 p0 p1 p2 p3 p4 p5 HP hb7 HBL HB
     go_wp2
     go_loopw [12, 15] (fun sm i wr => ∃ (j : Nat), i = .int .i64 j ∧ j ≤ Q.length ∧ sm = .bool (SK0 || ((Q.take j).contains (n : Int) && FI)) ∧ Hid (Below w7.heap.size w7 wr)) (fun _ i _ => Q.length - (intOf i).toNat)
     case atStart => exact ⟨0, rfl, Nat.zero_le _, by simp, Lib.hid (Below.refl _ _)⟩
     case round =>
      obtain ⟨j, rfl, hj, rfl, HB⟩ := hrel
      by_cases hjl : j < Q.length
      ·obtain ⟨qb, qo, rfl, hqb, hqc⟩ := HQR.out (by omega)
       have z0 := keep_cell (hqc j _ (by rw [List.getElem?_map, List.getElem?_eq_getElem hjl]; rfl)) HB.out hqb
       have HTK : Hid ((Q.take (j + 1)).contains (n : Int) = ((Q.take j).contains (n : Int) || decide (Q[j] = (n : Int)))) := Lib.hid (by
        rw [Bool.eq_iff_iff, Bool.or_eq_true, List.contains_iff_mem, List.contains_iff_mem, decide_eq_true_eq, List.take_succ_eq_append_getElem hjl, List.mem_append, List.mem_singleton]
        exact or_congr Iff.rfl eq_comm)
       generalize Q[j] = z at *
       obtain ⟨p0, p1, p2, p3, p4, p5⟩ := HP7.out
       have p0 := keep_cell p0 HB.out HBL7.out
       have p1 := keep_cell p1 HB.out HBL7.out
       have p2 := keep_cell p2 HB.out HBL7.out
       have p3 := keep_cell p3 HB.out HBL7.out
       have p4 := keep_cell p4 HB.out HBL7.out
       have p5 := keep_cell p5 HB.out HBL7.out
       have hi0 : (0 : Int) ≤ (k : Int) := by omega
       have hi1 : (k : Int) < (L.length : Int) := by omega
       have hi2 : (0 : Int) ≤ (j : Int) := by omega
       have hi3 : (j : Int) < (Q.length : Int) := by omega
       generalize (Q.take j).contains (n : Int) = T0 at *
       clear hqc
       cases hS : (SK0 || (T0 && FI))
       ·by_cases hzn : z = (n : Int)
        ·have kf := KF.out wr
         have HN : Hid ((SK0 || ((Q.take (j + 1)).contains (n : Int) && FI)) = FI) := Lib.hid (by rw [HTK.out, decide_eq_true hzn, Bool.or_true, Bool.true_and]; cases SK0; (· rfl); (· cases hS))
         have hzb : (z == (n : Int)) = true := by simpa using hzn
         have HZN := Lib.hid hzn
         clear hzn hS
         go_wp2_with fail
         refine kf.mono ?_
         rintro e w8 ⟨rfl, hb8⟩
         have HB8 := Lib.hid (HB.out.trans (hb8.mono HB.out.size))
         clear kf hb8 z0 p0 p1 p2 p3 p4 p5 HB
         go_wp2
         go_roundw
         case rel => exact ⟨j + 1, by go_num, by omega, by rw [HN.out], HB8⟩
         case measure => (simp [intOf]; try omega)
        ·have hzb : (z == (n : Int)) = false := by simpa using hzn
         have HN : Hid ((SK0 || ((Q.take (j + 1)).contains (n : Int) && FI)) = false) := Lib.hid (by rw [HTK.out, decide_eq_false hzn, Bool.or_false]; exact hS)
         clear hzn hS
         go_wp2
         go_roundw
         case rel => exact ⟨j + 1, by go_num, by omega, by rw [HN.out], HB⟩
         case measure => (simp [intOf]; try omega)
       ·have HN : Hid ((SK0 || ((Q.take (j + 1)).contains (n : Int) && FI)) = true) := Lib.hid (by rw [HTK.out]; revert hS; cases SK0 <;> cases T0 <;> cases FI <;> simp)
        clear hS
        go_wp2
        go_roundw
        case rel => exact ⟨j + 1, by go_num, by omega, by rw [HN.out], HB⟩
        case measure => (simp [intOf]; try omega)
      ·obtain rfl : j = Q.length := by omega
       have HN : Hid (SM n (k + 1) = (SK0 || ((Q.take Q.length).contains (n : Int) && FI))) := Lib.hid (by rw [List.take_length]; exact HSK.out)
       have HBZ := Lib.hid (HB7.out.trans (HB.out.mono HB7.out.size))
       clear HB
       go_wp2
       go_roundw
       case rel => exact ⟨k + 1, by go_num, by omega, by rw [HN.out], HBZ⟩
       case measure => (simp [intOf]; try omega)
    ·obtain rfl : k = L.length := by omega
     rw [HSL.out]
     have hnq : n < q.ih.length := by rw [HM5.out]; exact hnl
     obtain ⟨b5, o5, rfl, hb5, hc5⟩ := HIR.out (by omega)
     have hBw := HB6.out.trans (HB.out.mono HB6.out.size)
     have hat := fun i v h => cellsG_at ihC_len q.ih n hnq i v h
     have z1 := keep_cell (hc5 _ _ (hat 1 _ rfl)) hBw hb5
     have z2 := keep_cell (hc5 _ _ (hat 2 _ rfl)) hBw hb5
     rw [← Nat.add_assoc] at z1 z2
     have hxc := (HQF.out.h5 _ (List.getElem_mem hnq)).c
     have HFN := Lib.hid (HFL.out n hnq)
     have HUN := Lib.hid (HUP.out n)
     generalize q.ih[n] = y at *
     obtain ⟨bys, xlv, xc, frm, whn, bv, fv, wv⟩ := y
     dsimp only at *
     obtain ⟨ga', hga, hra⟩ := HA6.out.later HB.out
     obtain ⟨gb', hgb, hrb⟩ := HC6.out.later HB.out
     simp only [Value.slice.injEq, Option.some.injEq, Addr.mk.injEq, and_true] at hga hgb
     subst hga
     subst hgb
     have a0 := hra.cell (i := n) hnl
     have b0 := hrb.cell (i := n) hnl
     have lta : ga < wr.heap.size := hra.lt
     have ltb : gb < wr.heap.size := hrb.lt
     obtain ⟨y0, y1, y2, y3, y4, y5⟩ := HP6.out.later HB.out HZ6.out
     have x0 := (HX6.out.later HB.out).get 0 _ rfl
     have x1 := (HX6.out.later HB.out).get 1 _ rfl
     have x2 := (HX6.out.later HB.out).get 2 _ rfl
     have x3 := (HX6.out.later HB.out).get 3 _ rfl
     have ltq : w.heap.size < wr.heap.size := Nat.lt_of_lt_of_le HZ6.out HB.out.size
     have ltx := (HX6.out.later HB.out).lt
     have ltz : b5 < wr.heap.size := Nat.lt_of_lt_of_le hb5 hBw.size
     have KF1 := Lib.hid (fun W => rflows_any xlv xc l0 k0 W hxc hk0)
     have KF2 := Lib.hid (fun W => rflows_any l0 k0 l1 k1 W hk0 hk1)
     have hi0 : (0 : Int) ≤ (n : Int) := by omega
     have hi1 : (n : Int) < (m5 : Int) := by omega
     clear hat hc5 hBw hnq hxc y0 y1 y2 y3 y4 hra hrb
     generalize XA n = A at *
     generalize XB n = Bn at *
     generalize flowsL l0 k0 l1 k1 = FL at *
     go_upto_region 19 with fail
     cases A
     ·clear HFN HUN
      cases FL
      ·refine wp_region_held_drew (S := (fun W => W.cell? ⟨w.heap.size, 5, none⟩ = some (.slice (some ⟨b5, o5, none⟩) m5 c5) ∧ W.cell? ⟨w.heap.size + 1, 0, none⟩ = some (.int .i64 l0) ∧ W.cell? ⟨w.heap.size + 1, 1, none⟩ = some (.int .u32 k0) ∧ W.cell? ⟨w.heap.size + 1, 2, none⟩ = some (.int .i64 l1) ∧ W.cell? ⟨w.heap.size + 1, 3, none⟩ = some (.int .u32 k1) ∧ W.cell? ⟨ga, n, none⟩ = some (.bool false) ∧ W.cell? ⟨gb, n, none⟩ = some (.bool Bn) ∧ W.cell? ⟨b5, o5 + n * 5 + 1, none⟩ = some (.int .i64 xlv) ∧ W.cell? ⟨b5, o5 + n * 5 + 2, none⟩ = some (.int .u32 xc))) (by kernel_rfl) ⟨y5, x0, x1, x2, x3, a0, b0, z1, z2⟩ (fun hHeld => ?_)
       have hd : Below wr.heap.size wr wr.drew := (Below.refl _ _).drew
       refine hT (i := 0) (v := ?_) rfl rfl hHeld ?_ ?_
       rotate_left
       ·rintro wh ⟨z_0, z_1, z_2, z_3, z_4, z_5, z_6, z_7, z_8⟩
        go_simp
        (try with_reducible rfl)
       simp only [Act.put, List.setIfInBounds_toArray, List.set_cons_zero, List.set_cons_succ]
       refine hT (i := 1) (v := ?_) rfl rfl hHeld ?_ ?_
       rotate_left
       ·rintro wh ⟨z_0, z_1, z_2, z_3, z_4, z_5, z_6, z_7, z_8⟩
        go_simp
        (try with_reducible rfl)
       simp only [Act.put, List.setIfInBounds_toArray, List.set_cons_zero, List.set_cons_succ]
       refine hT (i := 2) (v := ?_) rfl rfl hHeld ?_ ?_
       rotate_left
       ·rintro wh ⟨z_0, z_1, z_2, z_3, z_4, z_5, z_6, z_7, z_8⟩
        go_simp
        (try with_reducible rfl)
       simp only [Act.put, List.setIfInBounds_toArray, List.set_cons_zero, List.set_cons_succ]
       refine hT (i := 3) (v := ?_) rfl rfl hHeld ?_ ?_
       rotate_left
       ·rintro wh ⟨z_0, z_1, z_2, z_3, z_4, z_5, z_6, z_7, z_8⟩
        go_simp
        (try with_reducible rfl)
       simp only [Act.put, List.setIfInBounds_toArray, List.set_cons_zero, List.set_cons_succ]
       refine hT (i := 4) (v := ?_) rfl rfl hHeld ?_ ?_
       rotate_left
       ·rintro wh ⟨z_0, z_1, z_2, z_3, z_4, z_5, z_6, z_7, z_8⟩
        go_simp
        (try with_reducible rfl)
       simp only [Act.put, List.setIfInBounds_toArray, List.set_cons_zero, List.set_cons_succ]
       refine held_skip (i := 5) rfl rfl (by kernel_rfl) (by kernel_rfl) (by kernel_rfl) (fun _ _ _ h => h) (by rfl) hHeld ?_
       simp only [Act.put, List.setIfInBounds_toArray, List.set_cons_zero, List.set_cons_succ]
       refine held_skip (i := 6) rfl rfl (by kernel_rfl) (by kernel_rfl) (by kernel_rfl) (fun _ _ _ h => h) (by rfl) hHeld ?_
       simp only [Act.put, List.setIfInBounds_toArray, List.set_cons_zero, List.set_cons_succ]
       refine held_skip (i := 7) rfl rfl (by kernel_rfl) (by kernel_rfl) (by kernel_rfl) (fun _ _ _ h => h) (by rfl) hHeld ?_
       simp only [Act.put, List.setIfInBounds_toArray, List.set_cons_zero, List.set_cons_succ]
       refine held_skip (i := 8) rfl rfl (by kernel_rfl) (by kernel_rfl) (by kernel_rfl) (fun _ _ _ h => h) (by rfl) hHeld ?_
       simp only [Act.put, List.setIfInBounds_toArray, List.set_cons_zero, List.set_cons_succ]
       refine held_skip (i := 9) rfl rfl (by kernel_rfl) (by kernel_rfl) (by kernel_rfl) (fun _ _ _ h => h) (by rfl) hHeld ?_
       simp only [Act.put, List.setIfInBounds_toArray, List.set_cons_zero, List.set_cons_succ]
       refine held_skip (i := 10) rfl rfl (by kernel_rfl) (by kernel_rfl) (by kernel_rfl) (fun _ _ _ h => h) (by rfl) hHeld ?_
       simp only [Act.put, List.setIfInBounds_toArray, List.set_cons_zero, List.set_cons_succ]
       refine held_skip (i := 11) rfl rfl (by kernel_rfl) (by kernel_rfl) (by kernel_rfl) (fun _ _ _ h => h) (by rfl) hHeld ?_
       simp only [Act.put, List.setIfInBounds_toArray, List.set_cons_zero, List.set_cons_succ]
       refine held_skip (i := 12) rfl rfl (by kernel_rfl) (by kernel_rfl) (by kernel_rfl) (fun _ _ _ h => h) (by rfl) hHeld ?_
       simp only [Act.put, List.setIfInBounds_toArray, List.set_cons_zero, List.set_cons_succ]
       refine held_skip (i := 13) rfl rfl (by kernel_rfl) (by kernel_rfl) (by kernel_rfl) (fun _ _ _ h => h) (by rfl) hHeld ?_
       simp only [Act.put, List.setIfInBounds_toArray, List.set_cons_zero, List.set_cons_succ]
       refine held_skip (i := 14) rfl rfl (by kernel_rfl) (by kernel_rfl) (by kernel_rfl) (fun _ _ _ h => h) (by rfl) hHeld ?_
       simp only [Act.put, List.setIfInBounds_toArray, List.set_cons_zero, List.set_cons_succ]
       refine held_skip (i := 15) rfl rfl (by kernel_rfl) (by kernel_rfl) (by kernel_rfl) (fun _ _ _ h => h) (by rfl) hHeld ?_
       simp only [Act.put, List.setIfInBounds_toArray, List.set_cons_zero, List.set_cons_succ]
       refine held_skip (i := 16) rfl rfl (by kernel_rfl) (by kernel_rfl) (by kernel_rfl) (fun _ _ _ h => h) (by rfl) hHeld ?_
       simp only [Act.put, List.setIfInBounds_toArray, List.set_cons_zero, List.set_cons_succ]
       refine held_skip (i := 17) rfl rfl (by kernel_rfl) (by kernel_rfl) (by kernel_rfl) (fun _ _ _ h => h) (by rfl) hHeld ?_
       simp only [Act.put, List.setIfInBounds_toArray, List.set_cons_zero, List.set_cons_succ]
       refine held_skip (i := 18) rfl rfl (by kernel_rfl) (by kernel_rfl) (by kernel_rfl) (fun _ _ _ h => h) (by rfl) hHeld ?_
       simp only [Act.put, List.setIfInBounds_toArray, List.set_cons_zero, List.set_cons_succ]
       refine hT (i := 19) (v := ?_) rfl rfl hHeld ?_ ?_
       rotate_left
       ·rintro wh ⟨z_0, z_1, z_2, z_3, z_4, z_5, z_6, z_7, z_8⟩
        go_simp
        (try with_reducible rfl)
       simp only [Act.put, List.setIfInBounds_toArray, List.set_cons_zero, List.set_cons_succ]
       refine hT (i := 20) (v := ?_) rfl rfl hHeld ?_ ?_
       rotate_left
       ·rintro wh ⟨z_0, z_1, z_2, z_3, z_4, z_5, z_6, z_7, z_8⟩
        go_simp
        (try with_reducible rfl)
       simp only [Act.put, List.setIfInBounds_toArray, List.set_cons_zero, List.set_cons_succ]
       refine hT (i := 21) (v := ?_) rfl rfl hHeld ?_ ?_
       rotate_left
       ·rintro wh ⟨z_0, z_1, z_2, z_3, z_4, z_5, z_6, z_7, z_8⟩
        go_simp
        (try with_reducible rfl)
       simp only [Act.put, List.setIfInBounds_toArray, List.set_cons_zero, List.set_cons_succ]
       refine hT (i := 22) (v := ?_) rfl rfl hHeld ?_ ?_
       rotate_left
       ·rintro wh ⟨z_0, z_1, z_2, z_3, z_4, z_5, z_6, z_7, z_8⟩
        go_simp
        (try with_reducible rfl)
       simp only [Act.put, List.setIfInBounds_toArray, List.set_cons_zero, List.set_cons_succ]
       refine hT (i := 23) (v := ?_) rfl rfl hHeld ?_ ?_
       rotate_left
       ·rintro wh ⟨z_0, z_1, z_2, z_3, z_4, z_5, z_6, z_7, z_8⟩
        go_simp
        (try with_reducible rfl)
       simp only [Act.put, List.setIfInBounds_toArray, List.set_cons_zero, List.set_cons_succ]
       refine hT (i := 24) (v := ?_) rfl rfl hHeld ?_ ?_
       rotate_left
       ·rintro wh ⟨z_0, z_1, z_2, z_3, z_4, z_5, z_6, z_7, z_8⟩
        go_simp
        (try with_reducible rfl)
       simp only [Act.put, List.setIfInBounds_toArray, List.set_cons_zero, List.set_cons_succ]
       refine hT (i := 25) (v := ?_) rfl rfl hHeld ?_ ?_
       rotate_left
       ·rintro wh ⟨z_0, z_1, z_2, z_3, z_4, z_5, z_6, z_7, z_8⟩
        go_simp
        (try with_reducible rfl)
       simp only [Act.put, List.setIfInBounds_toArray, List.set_cons_zero, List.set_cons_succ]
       refine hT (i := 26) (v := ?_) rfl rfl hHeld ?_ ?_
       rotate_left
       ·rintro wh ⟨z_0, z_1, z_2, z_3, z_4, z_5, z_6, z_7, z_8⟩
        go_simp
        (try with_reducible rfl)
       simp only [Act.put, List.setIfInBounds_toArray, List.set_cons_zero, List.set_cons_succ]
       refine hT (i := 27) (v := ?_) rfl rfl hHeld ?_ ?_
       rotate_left
       ·rintro wh ⟨z_0, z_1, z_2, z_3, z_4, z_5, z_6, z_7, z_8⟩
        go_simp
        (try with_reducible rfl)
       simp only [Act.put, List.setIfInBounds_toArray, List.set_cons_zero, List.set_cons_succ]
       refine hT (i := 28) (v := ?_) rfl rfl hHeld ?_ ?_
       rotate_left
       ·rintro wh ⟨z_0, z_1, z_2, z_3, z_4, z_5, z_6, z_7, z_8⟩
        go_simp
        (try with_reducible rfl)
       simp only [Act.put, List.setIfInBounds_toArray, List.set_cons_zero, List.set_cons_succ]
       refine hT (i := 29) (v := ?_) rfl rfl hHeld ?_ ?_
       rotate_left
       ·rintro wh ⟨z_0, z_1, z_2, z_3, z_4, z_5, z_6, z_7, z_8⟩
        go_simp
        (try with_reducible rfl)
       simp only [Act.put, List.setIfInBounds_toArray, List.set_cons_zero, List.set_cons_succ]
       refine hT (i := 30) (v := ?_) rfl rfl hHeld ?_ ?_
       rotate_left
       ·rintro wh ⟨z_0, z_1, z_2, z_3, z_4, z_5, z_6, z_7, z_8⟩
        go_simp
        (try with_reducible rfl)
       simp only [Act.put, List.setIfInBounds_toArray, List.set_cons_zero, List.set_cons_succ]
       refine hT (i := 31) (v := ?_) rfl rfl hHeld ?_ ?_
       rotate_left
       ·rintro wh ⟨z_0, z_1, z_2, z_3, z_4, z_5, z_6, z_7, z_8⟩
        go_simp
        (try with_reducible rfl)
       simp only [Act.put, List.setIfInBounds_toArray, List.set_cons_zero, List.set_cons_succ]
       refine hT (i := 32) (v := ?_) rfl rfl hHeld ?_ ?_
       rotate_left
       ·rintro wh ⟨z_0, z_1, z_2, z_3, z_4, z_5, z_6, z_7, z_8⟩
        go_simp
        (try with_reducible rfl)
       simp only [Act.put, List.setIfInBounds_toArray, List.set_cons_zero, List.set_cons_succ]
       refine held_call (i := 33) rfl (by kernel_rfl) (by rfl) (fun K hK => ?_)
       (go_simp; go_at_call 19; refine (KF2.out _).mono ?_; rintro e w9 ⟨rfl, hb9⟩; have hB9 := hd.trans (hb9.mono hd.size))
       refine hK.out _ _ ⟨keep_cell y5 hB9 ltq, keep_cell x0 hB9 ltx, keep_cell x1 hB9 ltx, keep_cell x2 hB9 ltx, keep_cell x3 hB9 ltx, keep_cell a0 hB9 lta, keep_cell b0 hB9 ltb, keep_cell z1 hB9 ltz, keep_cell z2 hB9 ltz⟩ (fun hHeld => ?_)
       clear hK K
       (try simp only [Act.put, List.setIfInBounds_toArray, List.set_cons_zero, List.set_cons_succ])
       refine hT (i := 34) (v := ?_) rfl rfl hHeld ?_ ?_
       rotate_left
       ·rintro wh ⟨z_0, z_1, z_2, z_3, z_4, z_5, z_6, z_7, z_8⟩
        go_simp
        (try with_reducible rfl)
       simp only [Act.put, List.setIfInBounds_toArray, List.set_cons_zero, List.set_cons_succ]
       refine held_skip (i := 35) rfl rfl (by kernel_rfl) (by kernel_rfl) (by kernel_rfl) (fun _ _ _ h => h) (by rfl) hHeld ?_
       simp only [Act.put, List.setIfInBounds_toArray, List.set_cons_zero, List.set_cons_succ]
       refine held_skip (i := 36) rfl rfl (by kernel_rfl) (by kernel_rfl) (by kernel_rfl) (fun _ _ _ h => h) (by rfl) hHeld ?_
       simp only [Act.put, List.setIfInBounds_toArray, List.set_cons_zero, List.set_cons_succ]
       refine held_skip (i := 37) rfl rfl (by kernel_rfl) (by kernel_rfl) (by kernel_rfl) (fun _ _ _ h => h) (by rfl) hHeld ?_
       simp only [Act.put, List.setIfInBounds_toArray, List.set_cons_zero, List.set_cons_succ]
       refine held_skip (i := 38) rfl rfl (by kernel_rfl) (by kernel_rfl) (by kernel_rfl) (fun _ _ _ h => h) (by rfl) hHeld ?_
       simp only [Act.put, List.setIfInBounds_toArray, List.set_cons_zero, List.set_cons_succ]
       refine hT (i := 39) (v := ?_) rfl rfl hHeld ?_ ?_
       rotate_left
       ·rintro wh ⟨z_0, z_1, z_2, z_3, z_4, z_5, z_6, z_7, z_8⟩
        go_simp
        (try with_reducible rfl)
       simp only [Act.put, List.setIfInBounds_toArray, List.set_cons_zero, List.set_cons_succ]
       refine hT (i := 40) (v := ?_) rfl rfl hHeld ?_ ?_
       rotate_left
       ·rintro wh ⟨z_0, z_1, z_2, z_3, z_4, z_5, z_6, z_7, z_8⟩
        go_simp
        (try with_reducible rfl)
       simp only [Act.put, List.setIfInBounds_toArray, List.set_cons_zero, List.set_cons_succ]
       refine held_skip (i := 41) rfl rfl (by kernel_rfl) (by kernel_rfl) (by kernel_rfl) (fun _ _ _ h => h) (by rfl) hHeld ?_
       simp only [Act.put, List.setIfInBounds_toArray, List.set_cons_zero, List.set_cons_succ]
       refine held_skip (i := 42) rfl rfl (by kernel_rfl) (by kernel_rfl) (by kernel_rfl) (fun _ _ _ h => h) (by rfl) hHeld ?_
       simp only [Act.put, List.setIfInBounds_toArray, List.set_cons_zero, List.set_cons_succ]
       refine held_skip (i := 43) rfl rfl (by kernel_rfl) (by kernel_rfl) (by kernel_rfl) (fun _ _ _ h => h) (by rfl) hHeld ?_
       simp only [Act.put, List.setIfInBounds_toArray, List.set_cons_zero, List.set_cons_succ]
       refine held_skip (i := 44) rfl rfl (by kernel_rfl) (by kernel_rfl) (by kernel_rfl) (fun _ _ _ h => h) (by rfl) hHeld ?_
       simp only [Act.put, List.setIfInBounds_toArray, List.set_cons_zero, List.set_cons_succ]
       refine held_skip (i := 45) rfl rfl (by kernel_rfl) (by kernel_rfl) (by kernel_rfl) (fun _ _ _ h => h) (by rfl) hHeld ?_
       simp only [Act.put, List.setIfInBounds_toArray, List.set_cons_zero, List.set_cons_succ]
       refine hT (i := 46) (v := ?_) rfl rfl hHeld ?_ ?_
       rotate_left
       ·rintro wh ⟨z_0, z_1, z_2, z_3, z_4, z_5, z_6, z_7, z_8⟩
        go_simp
        (try with_reducible rfl)
       simp only [Act.put, List.setIfInBounds_toArray, List.set_cons_zero, List.set_cons_succ]
       refine hT (i := 47) (v := ?_) rfl rfl hHeld ?_ ?_
       rotate_left
       ·rintro wh ⟨z_0, z_1, z_2, z_3, z_4, z_5, z_6, z_7, z_8⟩
        go_simp
        (try with_reducible rfl)
       simp only [Act.put, List.setIfInBounds_toArray, List.set_cons_zero, List.set_cons_succ]
       refine wpAnyH_done (by kernel_rfl) ?_ _
       have HBZ := Lib.hid (HB.out.trans (hB9.mono HB.out.size))
       clear y5 x0 x1 x2 x3 a0 b0 z1 z2 hd hb9 hB9 HB
       go_wp2
       go_roundw
       case rel => exact ⟨n + 1, by go_num, by omega, HBZ⟩
       case measure => (simp [intOf]; try omega)
      ·refine wp_region_held_drew (S := (fun W => W.cell? ⟨w.heap.size, 5, none⟩ = some (.slice (some ⟨b5, o5, none⟩) m5 c5) ∧ W.cell? ⟨w.heap.size + 1, 0, none⟩ = some (.int .i64 l0) ∧ W.cell? ⟨w.heap.size + 1, 1, none⟩ = some (.int .u32 k0) ∧ W.cell? ⟨w.heap.size + 1, 2, none⟩ = some (.int .i64 l1) ∧ W.cell? ⟨w.heap.size + 1, 3, none⟩ = some (.int .u32 k1) ∧ W.cell? ⟨ga, n, none⟩ = some (.bool false) ∧ W.cell? ⟨gb, n, none⟩ = some (.bool Bn) ∧ W.cell? ⟨b5, o5 + n * 5 + 1, none⟩ = some (.int .i64 xlv) ∧ W.cell? ⟨b5, o5 + n * 5 + 2, none⟩ = some (.int .u32 xc))) (by kernel_rfl) ⟨y5, x0, x1, x2, x3, a0, b0, z1, z2⟩ (fun hHeld => ?_)
       have hd : Below wr.heap.size wr wr.drew := (Below.refl _ _).drew
       refine hT (i := 0) (v := ?_) rfl rfl hHeld ?_ ?_
       rotate_left
       ·rintro wh ⟨z_0, z_1, z_2, z_3, z_4, z_5, z_6, z_7, z_8⟩
        go_simp
        (try with_reducible rfl)
       simp only [Act.put, List.setIfInBounds_toArray, List.set_cons_zero, List.set_cons_succ]
       refine hT (i := 1) (v := ?_) rfl rfl hHeld ?_ ?_
       rotate_left
       ·rintro wh ⟨z_0, z_1, z_2, z_3, z_4, z_5, z_6, z_7, z_8⟩
        go_simp
        (try with_reducible rfl)
       simp only [Act.put, List.setIfInBounds_toArray, List.set_cons_zero, List.set_cons_succ]
       refine hT (i := 2) (v := ?_) rfl rfl hHeld ?_ ?_
       rotate_left
       ·rintro wh ⟨z_0, z_1, z_2, z_3, z_4, z_5, z_6, z_7, z_8⟩
        go_simp
        (try with_reducible rfl)
       simp only [Act.put, List.setIfInBounds_toArray, List.set_cons_zero, List.set_cons_succ]
       refine hT (i := 3) (v := ?_) rfl rfl hHeld ?_ ?_
       rotate_left
       ·rintro wh ⟨z_0, z_1, z_2, z_3, z_4, z_5, z_6, z_7, z_8⟩
        go_simp
        (try with_reducible rfl)
       simp only [Act.put, List.setIfInBounds_toArray, List.set_cons_zero, List.set_cons_succ]
       refine hT (i := 4) (v := ?_) rfl rfl hHeld ?_ ?_
       rotate_left
       ·rintro wh ⟨z_0, z_1, z_2, z_3, z_4, z_5, z_6, z_7, z_8⟩
        go_simp
        (try with_reducible rfl)
       simp only [Act.put, List.setIfInBounds_toArray, List.set_cons_zero, List.set_cons_succ]
       refine held_skip (i := 5) rfl rfl (by kernel_rfl) (by kernel_rfl) (by kernel_rfl) (fun _ _ _ h => h) (by rfl) hHeld ?_
       simp only [Act.put, List.setIfInBounds_toArray, List.set_cons_zero, List.set_cons_succ]
       refine held_skip (i := 6) rfl rfl (by kernel_rfl) (by kernel_rfl) (by kernel_rfl) (fun _ _ _ h => h) (by rfl) hHeld ?_
       simp only [Act.put, List.setIfInBounds_toArray, List.set_cons_zero, List.set_cons_succ]
       refine held_skip (i := 7) rfl rfl (by kernel_rfl) (by kernel_rfl) (by kernel_rfl) (fun _ _ _ h => h) (by rfl) hHeld ?_
       simp only [Act.put, List.setIfInBounds_toArray, List.set_cons_zero, List.set_cons_succ]
       refine held_skip (i := 8) rfl rfl (by kernel_rfl) (by kernel_rfl) (by kernel_rfl) (fun _ _ _ h => h) (by rfl) hHeld ?_
       simp only [Act.put, List.setIfInBounds_toArray, List.set_cons_zero, List.set_cons_succ]
       refine held_skip (i := 9) rfl rfl (by kernel_rfl) (by kernel_rfl) (by kernel_rfl) (fun _ _ _ h => h) (by rfl) hHeld ?_
       simp only [Act.put, List.setIfInBounds_toArray, List.set_cons_zero, List.set_cons_succ]
       refine held_skip (i := 10) rfl rfl (by kernel_rfl) (by kernel_rfl) (by kernel_rfl) (fun _ _ _ h => h) (by rfl) hHeld ?_
       simp only [Act.put, List.setIfInBounds_toArray, List.set_cons_zero, List.set_cons_succ]
       refine held_skip (i := 11) rfl rfl (by kernel_rfl) (by kernel_rfl) (by kernel_rfl) (fun _ _ _ h => h) (by rfl) hHeld ?_
       simp only [Act.put, List.setIfInBounds_toArray, List.set_cons_zero, List.set_cons_succ]
       refine held_skip (i := 12) rfl rfl (by kernel_rfl) (by kernel_rfl) (by kernel_rfl) (fun _ _ _ h => h) (by rfl) hHeld ?_
       simp only [Act.put, List.setIfInBounds_toArray, List.set_cons_zero, List.set_cons_succ]
       refine held_skip (i := 13) rfl rfl (by kernel_rfl) (by kernel_rfl) (by kernel_rfl) (fun _ _ _ h => h) (by rfl) hHeld ?_
       simp only [Act.put, List.setIfInBounds_toArray, List.set_cons_zero, List.set_cons_succ]
       refine held_skip (i := 14) rfl rfl (by kernel_rfl) (by kernel_rfl) (by kernel_rfl) (fun _ _ _ h => h) (by rfl) hHeld ?_
       simp only [Act.put, List.setIfInBounds_toArray, List.set_cons_zero, List.set_cons_succ]
       refine held_skip (i := 15) rfl rfl (by kernel_rfl) (by kernel_rfl) (by kernel_rfl) (fun _ _ _ h => h) (by rfl) hHeld ?_
       simp only [Act.put, List.setIfInBounds_toArray, List.set_cons_zero, List.set_cons_succ]
       refine held_skip (i := 16) rfl rfl (by kernel_rfl) (by kernel_rfl) (by kernel_rfl) (fun _ _ _ h => h) (by rfl) hHeld ?_
       simp only [Act.put, List.setIfInBounds_toArray, List.set_cons_zero, List.set_cons_succ]
       refine held_skip (i := 17) rfl rfl (by kernel_rfl) (by kernel_rfl) (by kernel_rfl) (fun _ _ _ h => h) (by rfl) hHeld ?_
       simp only [Act.put, List.setIfInBounds_toArray, List.set_cons_zero, List.set_cons_succ]
       refine held_skip (i := 18) rfl rfl (by kernel_rfl) (by kernel_rfl) (by kernel_rfl) (fun _ _ _ h => h) (by rfl) hHeld ?_
       simp only [Act.put, List.setIfInBounds_toArray, List.set_cons_zero, List.set_cons_succ]
       refine hT (i := 19) (v := ?_) rfl rfl hHeld ?_ ?_
       rotate_left
       ·rintro wh ⟨z_0, z_1, z_2, z_3, z_4, z_5, z_6, z_7, z_8⟩
        go_simp
        (try with_reducible rfl)
       simp only [Act.put, List.setIfInBounds_toArray, List.set_cons_zero, List.set_cons_succ]
       refine hT (i := 20) (v := ?_) rfl rfl hHeld ?_ ?_
       rotate_left
       ·rintro wh ⟨z_0, z_1, z_2, z_3, z_4, z_5, z_6, z_7, z_8⟩
        go_simp
        (try with_reducible rfl)
       simp only [Act.put, List.setIfInBounds_toArray, List.set_cons_zero, List.set_cons_succ]
       refine hT (i := 21) (v := ?_) rfl rfl hHeld ?_ ?_
       rotate_left
       ·rintro wh ⟨z_0, z_1, z_2, z_3, z_4, z_5, z_6, z_7, z_8⟩
        go_simp
        (try with_reducible rfl)
       simp only [Act.put, List.setIfInBounds_toArray, List.set_cons_zero, List.set_cons_succ]
       refine hT (i := 22) (v := ?_) rfl rfl hHeld ?_ ?_
       rotate_left
       ·rintro wh ⟨z_0, z_1, z_2, z_3, z_4, z_5, z_6, z_7, z_8⟩
        go_simp
        (try with_reducible rfl)
       simp only [Act.put, List.setIfInBounds_toArray, List.set_cons_zero, List.set_cons_succ]
       refine hT (i := 23) (v := ?_) rfl rfl hHeld ?_ ?_
       rotate_left
       ·rintro wh ⟨z_0, z_1, z_2, z_3, z_4, z_5, z_6, z_7, z_8⟩
        go_simp
        (try with_reducible rfl)
       simp only [Act.put, List.setIfInBounds_toArray, List.set_cons_zero, List.set_cons_succ]
       refine hT (i := 24) (v := ?_) rfl rfl hHeld ?_ ?_
       rotate_left
       ·rintro wh ⟨z_0, z_1, z_2, z_3, z_4, z_5, z_6, z_7, z_8⟩
        go_simp
        (try with_reducible rfl)
       simp only [Act.put, List.setIfInBounds_toArray, List.set_cons_zero, List.set_cons_succ]
       refine hT (i := 25) (v := ?_) rfl rfl hHeld ?_ ?_
       rotate_left
       ·rintro wh ⟨z_0, z_1, z_2, z_3, z_4, z_5, z_6, z_7, z_8⟩
        go_simp
        (try with_reducible rfl)
       simp only [Act.put, List.setIfInBounds_toArray, List.set_cons_zero, List.set_cons_succ]
       refine hT (i := 26) (v := ?_) rfl rfl hHeld ?_ ?_
       rotate_left
       ·rintro wh ⟨z_0, z_1, z_2, z_3, z_4, z_5, z_6, z_7, z_8⟩
        go_simp
        (try with_reducible rfl)
       simp only [Act.put, List.setIfInBounds_toArray, List.set_cons_zero, List.set_cons_succ]
       refine hT (i := 27) (v := ?_) rfl rfl hHeld ?_ ?_
       rotate_left
       ·rintro wh ⟨z_0, z_1, z_2, z_3, z_4, z_5, z_6, z_7, z_8⟩
        go_simp
        (try with_reducible rfl)
       simp only [Act.put, List.setIfInBounds_toArray, List.set_cons_zero, List.set_cons_succ]
       refine hT (i := 28) (v := ?_) rfl rfl hHeld ?_ ?_
       rotate_left
       ·rintro wh ⟨z_0, z_1, z_2, z_3, z_4, z_5, z_6, z_7, z_8⟩
        go_simp
        (try with_reducible rfl)
       simp only [Act.put, List.setIfInBounds_toArray, List.set_cons_zero, List.set_cons_succ]
       refine hT (i := 29) (v := ?_) rfl rfl hHeld ?_ ?_
       rotate_left
       ·rintro wh ⟨z_0, z_1, z_2, z_3, z_4, z_5, z_6, z_7, z_8⟩
        go_simp
        (try with_reducible rfl)
       simp only [Act.put, List.setIfInBounds_toArray, List.set_cons_zero, List.set_cons_succ]
       refine hT (i := 30) (v := ?_) rfl rfl hHeld ?_ ?_
       rotate_left
       ·rintro wh ⟨z_0, z_1, z_2, z_3, z_4, z_5, z_6, z_7, z_8⟩
        go_simp
        (try with_reducible rfl)
       simp only [Act.put, List.setIfInBounds_toArray, List.set_cons_zero, List.set_cons_succ]
       refine hT (i := 31) (v := ?_) rfl rfl hHeld ?_ ?_
       rotate_left
       ·rintro wh ⟨z_0, z_1, z_2, z_3, z_4, z_5, z_6, z_7, z_8⟩
        go_simp
        (try with_reducible rfl)
       simp only [Act.put, List.setIfInBounds_toArray, List.set_cons_zero, List.set_cons_succ]
       refine hT (i := 32) (v := ?_) rfl rfl hHeld ?_ ?_
       rotate_left
       ·rintro wh ⟨z_0, z_1, z_2, z_3, z_4, z_5, z_6, z_7, z_8⟩
        go_simp
        (try with_reducible rfl)
       simp only [Act.put, List.setIfInBounds_toArray, List.set_cons_zero, List.set_cons_succ]
       refine held_call (i := 33) rfl (by kernel_rfl) (by rfl) (fun K hK => ?_)
       (go_simp; go_at_call 19; refine (KF2.out _).mono ?_; rintro e w9 ⟨rfl, hb9⟩; have hB9 := hd.trans (hb9.mono hd.size))
       refine hK.out _ _ ⟨keep_cell y5 hB9 ltq, keep_cell x0 hB9 ltx, keep_cell x1 hB9 ltx, keep_cell x2 hB9 ltx, keep_cell x3 hB9 ltx, keep_cell a0 hB9 lta, keep_cell b0 hB9 ltb, keep_cell z1 hB9 ltz, keep_cell z2 hB9 ltz⟩ (fun hHeld => ?_)
       clear hK K
       (try simp only [Act.put, List.setIfInBounds_toArray, List.set_cons_zero, List.set_cons_succ])
       refine hT (i := 34) (v := ?_) rfl rfl hHeld ?_ ?_
       rotate_left
       ·rintro wh ⟨z_0, z_1, z_2, z_3, z_4, z_5, z_6, z_7, z_8⟩
        go_simp
        (try with_reducible rfl)
       simp only [Act.put, List.setIfInBounds_toArray, List.set_cons_zero, List.set_cons_succ]
       refine hT (i := 35) (v := ?_) rfl rfl hHeld ?_ ?_
       rotate_left
       ·rintro wh ⟨z_0, z_1, z_2, z_3, z_4, z_5, z_6, z_7, z_8⟩
        go_simp
        (try with_reducible rfl)
       simp only [Act.put, List.setIfInBounds_toArray, List.set_cons_zero, List.set_cons_succ]
       refine hT (i := 36) (v := ?_) rfl rfl hHeld ?_ ?_
       rotate_left
       ·rintro wh ⟨z_0, z_1, z_2, z_3, z_4, z_5, z_6, z_7, z_8⟩
        go_simp
        (try with_reducible rfl)
       simp only [Act.put, List.setIfInBounds_toArray, List.set_cons_zero, List.set_cons_succ]
       refine hT (i := 37) (v := ?_) rfl rfl hHeld ?_ ?_
       rotate_left
       ·rintro wh ⟨z_0, z_1, z_2, z_3, z_4, z_5, z_6, z_7, z_8⟩
        go_simp
        (try with_reducible rfl)
       simp only [Act.put, List.setIfInBounds_toArray, List.set_cons_zero, List.set_cons_succ]
       refine hT (i := 38) (v := ?_) rfl rfl hHeld ?_ ?_
       rotate_left
       ·rintro wh ⟨z_0, z_1, z_2, z_3, z_4, z_5, z_6, z_7, z_8⟩
        go_simp
        (try with_reducible rfl)
       simp only [Act.put, List.setIfInBounds_toArray, List.set_cons_zero, List.set_cons_succ]
       refine hT (i := 39) (v := ?_) rfl rfl hHeld ?_ ?_
       rotate_left
       ·rintro wh ⟨z_0, z_1, z_2, z_3, z_4, z_5, z_6, z_7, z_8⟩
        go_simp
        (try with_reducible rfl)
       simp only [Act.put, List.setIfInBounds_toArray, List.set_cons_zero, List.set_cons_succ]
       refine hT (i := 40) (v := ?_) rfl rfl hHeld ?_ ?_
       rotate_left
       ·rintro wh ⟨z_0, z_1, z_2, z_3, z_4, z_5, z_6, z_7, z_8⟩
        go_simp
        (try with_reducible rfl)
       simp only [Act.put, List.setIfInBounds_toArray, List.set_cons_zero, List.set_cons_succ]
       refine held_skip (i := 41) rfl rfl (by kernel_rfl) (by kernel_rfl) (by kernel_rfl) (fun _ _ _ h => h) (by rfl) hHeld ?_
       simp only [Act.put, List.setIfInBounds_toArray, List.set_cons_zero, List.set_cons_succ]
       refine held_skip (i := 42) rfl rfl (by kernel_rfl) (by kernel_rfl) (by kernel_rfl) (fun _ _ _ h => h) (by rfl) hHeld ?_
       simp only [Act.put, List.setIfInBounds_toArray, List.set_cons_zero, List.set_cons_succ]
       refine held_skip (i := 43) rfl rfl (by kernel_rfl) (by kernel_rfl) (by kernel_rfl) (fun _ _ _ h => h) (by rfl) hHeld ?_
       simp only [Act.put, List.setIfInBounds_toArray, List.set_cons_zero, List.set_cons_succ]
       refine held_skip (i := 44) rfl rfl (by kernel_rfl) (by kernel_rfl) (by kernel_rfl) (fun _ _ _ h => h) (by rfl) hHeld ?_
       simp only [Act.put, List.setIfInBounds_toArray, List.set_cons_zero, List.set_cons_succ]
       refine held_skip (i := 45) rfl rfl (by kernel_rfl) (by kernel_rfl) (by kernel_rfl) (fun _ _ _ h => h) (by rfl) hHeld ?_
       simp only [Act.put, List.setIfInBounds_toArray, List.set_cons_zero, List.set_cons_succ]
       refine hT (i := 46) (v := ?_) rfl rfl hHeld ?_ ?_
       rotate_left
       ·rintro wh ⟨z_0, z_1, z_2, z_3, z_4, z_5, z_6, z_7, z_8⟩
        go_simp
        (try with_reducible rfl)
       simp only [Act.put, List.setIfInBounds_toArray, List.set_cons_zero, List.set_cons_succ]
       refine hT (i := 47) (v := ?_) rfl rfl hHeld ?_ ?_
       rotate_left
       ·rintro wh ⟨z_0, z_1, z_2, z_3, z_4, z_5, z_6, z_7, z_8⟩
        go_simp
        (try with_reducible rfl)
       simp only [Act.put, List.setIfInBounds_toArray, List.set_cons_zero, List.set_cons_succ]
       refine wpAnyH_done (by kernel_rfl) ?_ _
       have HBZ := Lib.hid (HB.out.trans (hB9.mono HB.out.size))
       clear y5 x0 x1 x2 x3 a0 b0 z1 z2 hd hb9 hB9 HB
       go_wp2
       go_roundw
       case rel => exact ⟨n + 1, by go_num, by omega, HBZ⟩
       case measure => (simp [intOf]; try omega)
     ·have hfn := HFN.out rfl
      rw [hfn] at KF1
      cases FL
      ·refine wp_region_held_drew (S := (fun W => W.cell? ⟨w.heap.size, 5, none⟩ = some (.slice (some ⟨b5, o5, none⟩) m5 c5) ∧ W.cell? ⟨w.heap.size + 1, 0, none⟩ = some (.int .i64 l0) ∧ W.cell? ⟨w.heap.size + 1, 1, none⟩ = some (.int .u32 k0) ∧ W.cell? ⟨w.heap.size + 1, 2, none⟩ = some (.int .i64 l1) ∧ W.cell? ⟨w.heap.size + 1, 3, none⟩ = some (.int .u32 k1) ∧ W.cell? ⟨ga, n, none⟩ = some (.bool true) ∧ W.cell? ⟨gb, n, none⟩ = some (.bool Bn) ∧ W.cell? ⟨b5, o5 + n * 5 + 1, none⟩ = some (.int .i64 xlv) ∧ W.cell? ⟨b5, o5 + n * 5 + 2, none⟩ = some (.int .u32 xc))) (by kernel_rfl) ⟨y5, x0, x1, x2, x3, a0, b0, z1, z2⟩ (fun hHeld => ?_)
       have hd : Below wr.heap.size wr wr.drew := (Below.refl _ _).drew
       refine hT (i := 0) (v := ?_) rfl rfl hHeld ?_ ?_
       rotate_left
       ·rintro wh ⟨z_0, z_1, z_2, z_3, z_4, z_5, z_6, z_7, z_8⟩
        go_simp
        (try with_reducible rfl)
       simp only [Act.put, List.setIfInBounds_toArray, List.set_cons_zero, List.set_cons_succ]
       refine hT (i := 1) (v := ?_) rfl rfl hHeld ?_ ?_
       rotate_left
       ·rintro wh ⟨z_0, z_1, z_2, z_3, z_4, z_5, z_6, z_7, z_8⟩
        go_simp
        (try with_reducible rfl)
       simp only [Act.put, List.setIfInBounds_toArray, List.set_cons_zero, List.set_cons_succ]
       refine hT (i := 2) (v := ?_) rfl rfl hHeld ?_ ?_
       rotate_left
       ·rintro wh ⟨z_0, z_1, z_2, z_3, z_4, z_5, z_6, z_7, z_8⟩
        go_simp
        (try with_reducible rfl)
       simp only [Act.put, List.setIfInBounds_toArray, List.set_cons_zero, List.set_cons_succ]
       refine hT (i := 3) (v := ?_) rfl rfl hHeld ?_ ?_
       rotate_left
       ·rintro wh ⟨z_0, z_1, z_2, z_3, z_4, z_5, z_6, z_7, z_8⟩
        go_simp
        (try with_reducible rfl)
       simp only [Act.put, List.setIfInBounds_toArray, List.set_cons_zero, List.set_cons_succ]
       refine hT (i := 4) (v := ?_) rfl rfl hHeld ?_ ?_
       rotate_left
       ·rintro wh ⟨z_0, z_1, z_2, z_3, z_4, z_5, z_6, z_7, z_8⟩
        go_simp
        (try with_reducible rfl)
       simp only [Act.put, List.setIfInBounds_toArray, List.set_cons_zero, List.set_cons_succ]
       refine hT (i := 5) (v := ?_) rfl rfl hHeld ?_ ?_
       rotate_left
       ·rintro wh ⟨z_0, z_1, z_2, z_3, z_4, z_5, z_6, z_7, z_8⟩
        go_simp
        (try with_reducible rfl)
       simp only [Act.put, List.setIfInBounds_toArray, List.set_cons_zero, List.set_cons_succ]
       refine hT (i := 6) (v := ?_) rfl rfl hHeld ?_ ?_
       rotate_left
       ·rintro wh ⟨z_0, z_1, z_2, z_3, z_4, z_5, z_6, z_7, z_8⟩
        go_simp
        (try with_reducible rfl)
       simp only [Act.put, List.setIfInBounds_toArray, List.set_cons_zero, List.set_cons_succ]
       refine hT (i := 7) (v := ?_) rfl rfl hHeld ?_ ?_
       rotate_left
       ·rintro wh ⟨z_0, z_1, z_2, z_3, z_4, z_5, z_6, z_7, z_8⟩
        go_simp
        (try with_reducible rfl)
       simp only [Act.put, List.setIfInBounds_toArray, List.set_cons_zero, List.set_cons_succ]
       refine hT (i := 8) (v := ?_) rfl rfl hHeld ?_ ?_
       rotate_left
       ·rintro wh ⟨z_0, z_1, z_2, z_3, z_4, z_5, z_6, z_7, z_8⟩
        go_simp
        (try with_reducible rfl)
       simp only [Act.put, List.setIfInBounds_toArray, List.set_cons_zero, List.set_cons_succ]
       refine hT (i := 9) (v := ?_) rfl rfl hHeld ?_ ?_
       rotate_left
       ·rintro wh ⟨z_0, z_1, z_2, z_3, z_4, z_5, z_6, z_7, z_8⟩
        go_simp
        (try with_reducible rfl)
       simp only [Act.put, List.setIfInBounds_toArray, List.set_cons_zero, List.set_cons_succ]
       refine hT (i := 10) (v := ?_) rfl rfl hHeld ?_ ?_
       rotate_left
       ·rintro wh ⟨z_0, z_1, z_2, z_3, z_4, z_5, z_6, z_7, z_8⟩
        go_simp
        (try with_reducible rfl)
       simp only [Act.put, List.setIfInBounds_toArray, List.set_cons_zero, List.set_cons_succ]
       refine hT (i := 11) (v := ?_) rfl rfl hHeld ?_ ?_
       rotate_left
       ·rintro wh ⟨z_0, z_1, z_2, z_3, z_4, z_5, z_6, z_7, z_8⟩
        go_simp
        (try with_reducible rfl)
       simp only [Act.put, List.setIfInBounds_toArray, List.set_cons_zero, List.set_cons_succ]
       refine hT (i := 12) (v := ?_) rfl rfl hHeld ?_ ?_
       rotate_left
       ·rintro wh ⟨z_0, z_1, z_2, z_3, z_4, z_5, z_6, z_7, z_8⟩
        go_simp
        (try with_reducible rfl)
       simp only [Act.put, List.setIfInBounds_toArray, List.set_cons_zero, List.set_cons_succ]
       refine hT (i := 13) (v := ?_) rfl rfl hHeld ?_ ?_
       rotate_left
       ·rintro wh ⟨z_0, z_1, z_2, z_3, z_4, z_5, z_6, z_7, z_8⟩
        go_simp
        (try with_reducible rfl)
       simp only [Act.put, List.setIfInBounds_toArray, List.set_cons_zero, List.set_cons_succ]
       refine hT (i := 14) (v := ?_) rfl rfl hHeld ?_ ?_
       rotate_left
       ·rintro wh ⟨z_0, z_1, z_2, z_3, z_4, z_5, z_6, z_7, z_8⟩
        go_simp
        (try with_reducible rfl)
       simp only [Act.put, List.setIfInBounds_toArray, List.set_cons_zero, List.set_cons_succ]
       refine hT (i := 15) (v := ?_) rfl rfl hHeld ?_ ?_
       rotate_left
       ·rintro wh ⟨z_0, z_1, z_2, z_3, z_4, z_5, z_6, z_7, z_8⟩
        go_simp
        (try with_reducible rfl)
       simp only [Act.put, List.setIfInBounds_toArray, List.set_cons_zero, List.set_cons_succ]
       refine held_call (i := 16) rfl (by kernel_rfl) (by rfl) (fun K hK => ?_)
       (go_simp; go_at_call 19; refine (KF1.out _).mono ?_; rintro e w8 ⟨rfl, hb8⟩; have hB8 := hd.trans (hb8.mono hd.size))
       refine hK.out _ _ ⟨keep_cell y5 hB8 ltq, keep_cell x0 hB8 ltx, keep_cell x1 hB8 ltx, keep_cell x2 hB8 ltx, keep_cell x3 hB8 ltx, keep_cell a0 hB8 lta, keep_cell b0 hB8 ltb, keep_cell z1 hB8 ltz, keep_cell z2 hB8 ltz⟩ (fun hHeld => ?_)
       clear hK K
       (try simp only [Act.put, List.setIfInBounds_toArray, List.set_cons_zero, List.set_cons_succ])
       refine hT (i := 17) (v := ?_) rfl rfl hHeld ?_ ?_
       rotate_left
       ·rintro wh ⟨z_0, z_1, z_2, z_3, z_4, z_5, z_6, z_7, z_8⟩
        go_simp
        (try with_reducible rfl)
       simp only [Act.put, List.setIfInBounds_toArray, List.set_cons_zero, List.set_cons_succ]
       refine hT (i := 18) (v := ?_) rfl rfl hHeld ?_ ?_
       rotate_left
       ·rintro wh ⟨z_0, z_1, z_2, z_3, z_4, z_5, z_6, z_7, z_8⟩
        go_simp
        (try with_reducible rfl)
       simp only [Act.put, List.setIfInBounds_toArray, List.set_cons_zero, List.set_cons_succ]
       refine hT (i := 19) (v := ?_) rfl rfl hHeld ?_ ?_
       rotate_left
       ·rintro wh ⟨z_0, z_1, z_2, z_3, z_4, z_5, z_6, z_7, z_8⟩
        go_simp
        (try with_reducible rfl)
       simp only [Act.put, List.setIfInBounds_toArray, List.set_cons_zero, List.set_cons_succ]
       refine hT (i := 20) (v := ?_) rfl rfl hHeld ?_ ?_
       rotate_left
       ·rintro wh ⟨z_0, z_1, z_2, z_3, z_4, z_5, z_6, z_7, z_8⟩
        go_simp
        (try with_reducible rfl)
       simp only [Act.put, List.setIfInBounds_toArray, List.set_cons_zero, List.set_cons_succ]
       refine hT (i := 21) (v := ?_) rfl rfl hHeld ?_ ?_
       rotate_left
       ·rintro wh ⟨z_0, z_1, z_2, z_3, z_4, z_5, z_6, z_7, z_8⟩
        go_simp
        (try with_reducible rfl)
       simp only [Act.put, List.setIfInBounds_toArray, List.set_cons_zero, List.set_cons_succ]
       refine hT (i := 22) (v := ?_) rfl rfl hHeld ?_ ?_
       rotate_left
       ·rintro wh ⟨z_0, z_1, z_2, z_3, z_4, z_5, z_6, z_7, z_8⟩
        go_simp
        (try with_reducible rfl)
       simp only [Act.put, List.setIfInBounds_toArray, List.set_cons_zero, List.set_cons_succ]
       refine hT (i := 23) (v := ?_) rfl rfl hHeld ?_ ?_
       rotate_left
       ·rintro wh ⟨z_0, z_1, z_2, z_3, z_4, z_5, z_6, z_7, z_8⟩
        go_simp
        (try with_reducible rfl)
       simp only [Act.put, List.setIfInBounds_toArray, List.set_cons_zero, List.set_cons_succ]
       refine hT (i := 24) (v := ?_) rfl rfl hHeld ?_ ?_
       rotate_left
       ·rintro wh ⟨z_0, z_1, z_2, z_3, z_4, z_5, z_6, z_7, z_8⟩
        go_simp
        (try with_reducible rfl)
       simp only [Act.put, List.setIfInBounds_toArray, List.set_cons_zero, List.set_cons_succ]
       refine hT (i := 25) (v := ?_) rfl rfl hHeld ?_ ?_
       rotate_left
       ·rintro wh ⟨z_0, z_1, z_2, z_3, z_4, z_5, z_6, z_7, z_8⟩
        go_simp
        (try with_reducible rfl)
       simp only [Act.put, List.setIfInBounds_toArray, List.set_cons_zero, List.set_cons_succ]
       refine hT (i := 26) (v := ?_) rfl rfl hHeld ?_ ?_
       rotate_left
       ·rintro wh ⟨z_0, z_1, z_2, z_3, z_4, z_5, z_6, z_7, z_8⟩
        go_simp
        (try with_reducible rfl)
       simp only [Act.put, List.setIfInBounds_toArray, List.set_cons_zero, List.set_cons_succ]
       refine hT (i := 27) (v := ?_) rfl rfl hHeld ?_ ?_
       rotate_left
       ·rintro wh ⟨z_0, z_1, z_2, z_3, z_4, z_5, z_6, z_7, z_8⟩
        go_simp
        (try with_reducible rfl)
       simp only [Act.put, List.setIfInBounds_toArray, List.set_cons_zero, List.set_cons_succ]
       refine hT (i := 28) (v := ?_) rfl rfl hHeld ?_ ?_
       rotate_left
       ·rintro wh ⟨z_0, z_1, z_2, z_3, z_4, z_5, z_6, z_7, z_8⟩
        go_simp
        (try with_reducible rfl)
       simp only [Act.put, List.setIfInBounds_toArray, List.set_cons_zero, List.set_cons_succ]
       refine hT (i := 29) (v := ?_) rfl rfl hHeld ?_ ?_
       rotate_left
       ·rintro wh ⟨z_0, z_1, z_2, z_3, z_4, z_5, z_6, z_7, z_8⟩
        go_simp
        (try with_reducible rfl)
       simp only [Act.put, List.setIfInBounds_toArray, List.set_cons_zero, List.set_cons_succ]
       refine hT (i := 30) (v := ?_) rfl rfl hHeld ?_ ?_
       rotate_left
       ·rintro wh ⟨z_0, z_1, z_2, z_3, z_4, z_5, z_6, z_7, z_8⟩
        go_simp
        (try with_reducible rfl)
       simp only [Act.put, List.setIfInBounds_toArray, List.set_cons_zero, List.set_cons_succ]
       refine hT (i := 31) (v := ?_) rfl rfl hHeld ?_ ?_
       rotate_left
       ·rintro wh ⟨z_0, z_1, z_2, z_3, z_4, z_5, z_6, z_7, z_8⟩
        go_simp
        (try with_reducible rfl)
       simp only [Act.put, List.setIfInBounds_toArray, List.set_cons_zero, List.set_cons_succ]
       refine hT (i := 32) (v := ?_) rfl rfl hHeld ?_ ?_
       rotate_left
       ·rintro wh ⟨z_0, z_1, z_2, z_3, z_4, z_5, z_6, z_7, z_8⟩
        go_simp
        (try with_reducible rfl)
       simp only [Act.put, List.setIfInBounds_toArray, List.set_cons_zero, List.set_cons_succ]
       refine held_call (i := 33) rfl (by kernel_rfl) (by rfl) (fun K hK => ?_)
       (go_simp; go_at_call 19; refine (KF2.out _).mono ?_; rintro e w9 ⟨rfl, hb9⟩; have hB9 := hB8.trans (hb9.mono hB8.size))
       refine hK.out _ _ ⟨keep_cell y5 hB9 ltq, keep_cell x0 hB9 ltx, keep_cell x1 hB9 ltx, keep_cell x2 hB9 ltx, keep_cell x3 hB9 ltx, keep_cell a0 hB9 lta, keep_cell b0 hB9 ltb, keep_cell z1 hB9 ltz, keep_cell z2 hB9 ltz⟩ (fun hHeld => ?_)
       clear hK K
       (try simp only [Act.put, List.setIfInBounds_toArray, List.set_cons_zero, List.set_cons_succ])
       refine hT (i := 34) (v := ?_) rfl rfl hHeld ?_ ?_
       rotate_left
       ·rintro wh ⟨z_0, z_1, z_2, z_3, z_4, z_5, z_6, z_7, z_8⟩
        go_simp
        (try with_reducible rfl)
       simp only [Act.put, List.setIfInBounds_toArray, List.set_cons_zero, List.set_cons_succ]
       refine held_skip (i := 35) rfl rfl (by kernel_rfl) (by kernel_rfl) (by kernel_rfl) (fun _ _ _ h => h) (by rfl) hHeld ?_
       simp only [Act.put, List.setIfInBounds_toArray, List.set_cons_zero, List.set_cons_succ]
       refine held_skip (i := 36) rfl rfl (by kernel_rfl) (by kernel_rfl) (by kernel_rfl) (fun _ _ _ h => h) (by rfl) hHeld ?_
       simp only [Act.put, List.setIfInBounds_toArray, List.set_cons_zero, List.set_cons_succ]
       refine held_skip (i := 37) rfl rfl (by kernel_rfl) (by kernel_rfl) (by kernel_rfl) (fun _ _ _ h => h) (by rfl) hHeld ?_
       simp only [Act.put, List.setIfInBounds_toArray, List.set_cons_zero, List.set_cons_succ]
       refine held_skip (i := 38) rfl rfl (by kernel_rfl) (by kernel_rfl) (by kernel_rfl) (fun _ _ _ h => h) (by rfl) hHeld ?_
       simp only [Act.put, List.setIfInBounds_toArray, List.set_cons_zero, List.set_cons_succ]
       refine hT (i := 39) (v := ?_) rfl rfl hHeld ?_ ?_
       rotate_left
       ·rintro wh ⟨z_0, z_1, z_2, z_3, z_4, z_5, z_6, z_7, z_8⟩
        go_simp
        (try with_reducible rfl)
       simp only [Act.put, List.setIfInBounds_toArray, List.set_cons_zero, List.set_cons_succ]
       refine hT (i := 40) (v := ?_) rfl rfl hHeld ?_ ?_
       rotate_left
       ·rintro wh ⟨z_0, z_1, z_2, z_3, z_4, z_5, z_6, z_7, z_8⟩
        go_simp
        (try with_reducible rfl)
       simp only [Act.put, List.setIfInBounds_toArray, List.set_cons_zero, List.set_cons_succ]
       refine held_skip (i := 41) rfl rfl (by kernel_rfl) (by kernel_rfl) (by kernel_rfl) (fun _ _ _ h => h) (by rfl) hHeld ?_
       simp only [Act.put, List.setIfInBounds_toArray, List.set_cons_zero, List.set_cons_succ]
       refine held_skip (i := 42) rfl rfl (by kernel_rfl) (by kernel_rfl) (by kernel_rfl) (fun _ _ _ h => h) (by rfl) hHeld ?_
       simp only [Act.put, List.setIfInBounds_toArray, List.set_cons_zero, List.set_cons_succ]
       refine held_skip (i := 43) rfl rfl (by kernel_rfl) (by kernel_rfl) (by kernel_rfl) (fun _ _ _ h => h) (by rfl) hHeld ?_
       simp only [Act.put, List.setIfInBounds_toArray, List.set_cons_zero, List.set_cons_succ]
       refine held_skip (i := 44) rfl rfl (by kernel_rfl) (by kernel_rfl) (by kernel_rfl) (fun _ _ _ h => h) (by rfl) hHeld ?_
       simp only [Act.put, List.setIfInBounds_toArray, List.set_cons_zero, List.set_cons_succ]
       refine held_skip (i := 45) rfl rfl (by kernel_rfl) (by kernel_rfl) (by kernel_rfl) (fun _ _ _ h => h) (by rfl) hHeld ?_
       simp only [Act.put, List.setIfInBounds_toArray, List.set_cons_zero, List.set_cons_succ]
       refine hT (i := 46) (v := ?_) rfl rfl hHeld ?_ ?_
       rotate_left
       ·rintro wh ⟨z_0, z_1, z_2, z_3, z_4, z_5, z_6, z_7, z_8⟩
        go_simp
        (try with_reducible rfl)
       simp only [Act.put, List.setIfInBounds_toArray, List.set_cons_zero, List.set_cons_succ]
       refine hT (i := 47) (v := ?_) rfl rfl hHeld ?_ ?_
       rotate_left
       ·rintro wh ⟨z_0, z_1, z_2, z_3, z_4, z_5, z_6, z_7, z_8⟩
        go_simp
        (try with_reducible rfl)
       simp only [Act.put, List.setIfInBounds_toArray, List.set_cons_zero, List.set_cons_succ]
       refine wpAnyH_done (by kernel_rfl) ?_ _
       have HBZ := Lib.hid (HB.out.trans (hB9.mono HB.out.size))
       clear y5 x0 x1 x2 x3 a0 b0 z1 z2 hd hb8 hB8 hb9 hB9 HB
       go_wp2
       go_roundw
       case rel => exact ⟨n + 1, by go_num, by omega, HBZ⟩
       case measure => (simp [intOf]; try omega)
      ·obtain rfl : Bn = true := HUN.out rfl rfl
       refine wp_region_held_drew (S := (fun W => W.cell? ⟨w.heap.size, 5, none⟩ = some (.slice (some ⟨b5, o5, none⟩) m5 c5) ∧ W.cell? ⟨w.heap.size + 1, 0, none⟩ = some (.int .i64 l0) ∧ W.cell? ⟨w.heap.size + 1, 1, none⟩ = some (.int .u32 k0) ∧ W.cell? ⟨w.heap.size + 1, 2, none⟩ = some (.int .i64 l1) ∧ W.cell? ⟨w.heap.size + 1, 3, none⟩ = some (.int .u32 k1) ∧ W.cell? ⟨ga, n, none⟩ = some (.bool true) ∧ W.cell? ⟨gb, n, none⟩ = some (.bool true) ∧ W.cell? ⟨b5, o5 + n * 5 + 1, none⟩ = some (.int .i64 xlv) ∧ W.cell? ⟨b5, o5 + n * 5 + 2, none⟩ = some (.int .u32 xc))) (by kernel_rfl) ⟨y5, x0, x1, x2, x3, a0, b0, z1, z2⟩ (fun hHeld => ?_)
       have hd : Below wr.heap.size wr wr.drew := (Below.refl _ _).drew
       refine hT (i := 0) (v := ?_) rfl rfl hHeld ?_ ?_
       rotate_left
       ·rintro wh ⟨z_0, z_1, z_2, z_3, z_4, z_5, z_6, z_7, z_8⟩
        go_simp
        (try with_reducible rfl)
       simp only [Act.put, List.setIfInBounds_toArray, List.set_cons_zero, List.set_cons_succ]
       refine hT (i := 1) (v := ?_) rfl rfl hHeld ?_ ?_
       rotate_left
       ·rintro wh ⟨z_0, z_1, z_2, z_3, z_4, z_5, z_6, z_7, z_8⟩
        go_simp
        (try with_reducible rfl)
       simp only [Act.put, List.setIfInBounds_toArray, List.set_cons_zero, List.set_cons_succ]
       refine hT (i := 2) (v := ?_) rfl rfl hHeld ?_ ?_
       rotate_left
       ·rintro wh ⟨z_0, z_1, z_2, z_3, z_4, z_5, z_6, z_7, z_8⟩
        go_simp
        (try with_reducible rfl)
       simp only [Act.put, List.setIfInBounds_toArray, List.set_cons_zero, List.set_cons_succ]
       refine hT (i := 3) (v := ?_) rfl rfl hHeld ?_ ?_
       rotate_left
       ·rintro wh ⟨z_0, z_1, z_2, z_3, z_4, z_5, z_6, z_7, z_8⟩
        go_simp
        (try with_reducible rfl)
       simp only [Act.put, List.setIfInBounds_toArray, List.set_cons_zero, List.set_cons_succ]
       refine hT (i := 4) (v := ?_) rfl rfl hHeld ?_ ?_
       rotate_left
       ·rintro wh ⟨z_0, z_1, z_2, z_3, z_4, z_5, z_6, z_7, z_8⟩
        go_simp
        (try with_reducible rfl)
       simp only [Act.put, List.setIfInBounds_toArray, List.set_cons_zero, List.set_cons_succ]
       refine hT (i := 5) (v := ?_) rfl rfl hHeld ?_ ?_
       rotate_left
       ·rintro wh ⟨z_0, z_1, z_2, z_3, z_4, z_5, z_6, z_7, z_8⟩
        go_simp
        (try with_reducible rfl)
       simp only [Act.put, List.setIfInBounds_toArray, List.set_cons_zero, List.set_cons_succ]
       refine hT (i := 6) (v := ?_) rfl rfl hHeld ?_ ?_
       rotate_left
       ·rintro wh ⟨z_0, z_1, z_2, z_3, z_4, z_5, z_6, z_7, z_8⟩
        go_simp
        (try with_reducible rfl)
       simp only [Act.put, List.setIfInBounds_toArray, List.set_cons_zero, List.set_cons_succ]
       refine hT (i := 7) (v := ?_) rfl rfl hHeld ?_ ?_
       rotate_left
       ·rintro wh ⟨z_0, z_1, z_2, z_3, z_4, z_5, z_6, z_7, z_8⟩
        go_simp
        (try with_reducible rfl)
       simp only [Act.put, List.setIfInBounds_toArray, List.set_cons_zero, List.set_cons_succ]
       refine hT (i := 8) (v := ?_) rfl rfl hHeld ?_ ?_
       rotate_left
       ·rintro wh ⟨z_0, z_1, z_2, z_3, z_4, z_5, z_6, z_7, z_8⟩
        go_simp
        (try with_reducible rfl)
       simp only [Act.put, List.setIfInBounds_toArray, List.set_cons_zero, List.set_cons_succ]
       refine hT (i := 9) (v := ?_) rfl rfl hHeld ?_ ?_
       rotate_left
       ·rintro wh ⟨z_0, z_1, z_2, z_3, z_4, z_5, z_6, z_7, z_8⟩
        go_simp
        (try with_reducible rfl)
       simp only [Act.put, List.setIfInBounds_toArray, List.set_cons_zero, List.set_cons_succ]
       refine hT (i := 10) (v := ?_) rfl rfl hHeld ?_ ?_
       rotate_left
       ·rintro wh ⟨z_0, z_1, z_2, z_3, z_4, z_5, z_6, z_7, z_8⟩
        go_simp
        (try with_reducible rfl)
       simp only [Act.put, List.setIfInBounds_toArray, List.set_cons_zero, List.set_cons_succ]
       refine hT (i := 11) (v := ?_) rfl rfl hHeld ?_ ?_
       rotate_left
       ·rintro wh ⟨z_0, z_1, z_2, z_3, z_4, z_5, z_6, z_7, z_8⟩
        go_simp
        (try with_reducible rfl)
       simp only [Act.put, List.setIfInBounds_toArray, List.set_cons_zero, List.set_cons_succ]
       refine hT (i := 12) (v := ?_) rfl rfl hHeld ?_ ?_
       rotate_left
       ·rintro wh ⟨z_0, z_1, z_2, z_3, z_4, z_5, z_6, z_7, z_8⟩
        go_simp
        (try with_reducible rfl)
       simp only [Act.put, List.setIfInBounds_toArray, List.set_cons_zero, List.set_cons_succ]
       refine hT (i := 13) (v := ?_) rfl rfl hHeld ?_ ?_
       rotate_left
       ·rintro wh ⟨z_0, z_1, z_2, z_3, z_4, z_5, z_6, z_7, z_8⟩
        go_simp
        (try with_reducible rfl)
       simp only [Act.put, List.setIfInBounds_toArray, List.set_cons_zero, List.set_cons_succ]
       refine hT (i := 14) (v := ?_) rfl rfl hHeld ?_ ?_
       rotate_left
       ·rintro wh ⟨z_0, z_1, z_2, z_3, z_4, z_5, z_6, z_7, z_8⟩
        go_simp
        (try with_reducible rfl)
       simp only [Act.put, List.setIfInBounds_toArray, List.set_cons_zero, List.set_cons_succ]
       refine hT (i := 15) (v := ?_) rfl rfl hHeld ?_ ?_
       rotate_left
       ·rintro wh ⟨z_0, z_1, z_2, z_3, z_4, z_5, z_6, z_7, z_8⟩
        go_simp
        (try with_reducible rfl)
       simp only [Act.put, List.setIfInBounds_toArray, List.set_cons_zero, List.set_cons_succ]
       refine held_call (i := 16) rfl (by kernel_rfl) (by rfl) (fun K hK => ?_)
       (go_simp; go_at_call 19; refine (KF1.out _).mono ?_; rintro e w8 ⟨rfl, hb8⟩; have hB8 := hd.trans (hb8.mono hd.size))
       refine hK.out _ _ ⟨keep_cell y5 hB8 ltq, keep_cell x0 hB8 ltx, keep_cell x1 hB8 ltx, keep_cell x2 hB8 ltx, keep_cell x3 hB8 ltx, keep_cell a0 hB8 lta, keep_cell b0 hB8 ltb, keep_cell z1 hB8 ltz, keep_cell z2 hB8 ltz⟩ (fun hHeld => ?_)
       clear hK K
       (try simp only [Act.put, List.setIfInBounds_toArray, List.set_cons_zero, List.set_cons_succ])
       refine hT (i := 17) (v := ?_) rfl rfl hHeld ?_ ?_
       rotate_left
       ·rintro wh ⟨z_0, z_1, z_2, z_3, z_4, z_5, z_6, z_7, z_8⟩
        go_simp
        (try with_reducible rfl)
       simp only [Act.put, List.setIfInBounds_toArray, List.set_cons_zero, List.set_cons_succ]
       refine hT (i := 18) (v := ?_) rfl rfl hHeld ?_ ?_
       rotate_left
       ·rintro wh ⟨z_0, z_1, z_2, z_3, z_4, z_5, z_6, z_7, z_8⟩
        go_simp
        (try with_reducible rfl)
       simp only [Act.put, List.setIfInBounds_toArray, List.set_cons_zero, List.set_cons_succ]
       refine hT (i := 19) (v := ?_) rfl rfl hHeld ?_ ?_
       rotate_left
       ·rintro wh ⟨z_0, z_1, z_2, z_3, z_4, z_5, z_6, z_7, z_8⟩
        go_simp
        (try with_reducible rfl)
       simp only [Act.put, List.setIfInBounds_toArray, List.set_cons_zero, List.set_cons_succ]
       refine hT (i := 20) (v := ?_) rfl rfl hHeld ?_ ?_
       rotate_left
       ·rintro wh ⟨z_0, z_1, z_2, z_3, z_4, z_5, z_6, z_7, z_8⟩
        go_simp
        (try with_reducible rfl)
       simp only [Act.put, List.setIfInBounds_toArray, List.set_cons_zero, List.set_cons_succ]
       refine hT (i := 21) (v := ?_) rfl rfl hHeld ?_ ?_
       rotate_left
       ·rintro wh ⟨z_0, z_1, z_2, z_3, z_4, z_5, z_6, z_7, z_8⟩
        go_simp
        (try with_reducible rfl)
       simp only [Act.put, List.setIfInBounds_toArray, List.set_cons_zero, List.set_cons_succ]
       refine hT (i := 22) (v := ?_) rfl rfl hHeld ?_ ?_
       rotate_left
       ·rintro wh ⟨z_0, z_1, z_2, z_3, z_4, z_5, z_6, z_7, z_8⟩
        go_simp
        (try with_reducible rfl)
       simp only [Act.put, List.setIfInBounds_toArray, List.set_cons_zero, List.set_cons_succ]
       refine hT (i := 23) (v := ?_) rfl rfl hHeld ?_ ?_
       rotate_left
       ·rintro wh ⟨z_0, z_1, z_2, z_3, z_4, z_5, z_6, z_7, z_8⟩
        go_simp
        (try with_reducible rfl)
       simp only [Act.put, List.setIfInBounds_toArray, List.set_cons_zero, List.set_cons_succ]
       refine hT (i := 24) (v := ?_) rfl rfl hHeld ?_ ?_
       rotate_left
       ·rintro wh ⟨z_0, z_1, z_2, z_3, z_4, z_5, z_6, z_7, z_8⟩
        go_simp
        (try with_reducible rfl)
       simp only [Act.put, List.setIfInBounds_toArray, List.set_cons_zero, List.set_cons_succ]
       refine hT (i := 25) (v := ?_) rfl rfl hHeld ?_ ?_
       rotate_left
       ·rintro wh ⟨z_0, z_1, z_2, z_3, z_4, z_5, z_6, z_7, z_8⟩
        go_simp
        (try with_reducible rfl)
       simp only [Act.put, List.setIfInBounds_toArray, List.set_cons_zero, List.set_cons_succ]
       refine hT (i := 26) (v := ?_) rfl rfl hHeld ?_ ?_
       rotate_left
       ·rintro wh ⟨z_0, z_1, z_2, z_3, z_4, z_5, z_6, z_7, z_8⟩
        go_simp
        (try with_reducible rfl)
       simp only [Act.put, List.setIfInBounds_toArray, List.set_cons_zero, List.set_cons_succ]
       refine hT (i := 27) (v := ?_) rfl rfl hHeld ?_ ?_
       rotate_left
       ·rintro wh ⟨z_0, z_1, z_2, z_3, z_4, z_5, z_6, z_7, z_8⟩
        go_simp
        (try with_reducible rfl)
       simp only [Act.put, List.setIfInBounds_toArray, List.set_cons_zero, List.set_cons_succ]
       refine hT (i := 28) (v := ?_) rfl rfl hHeld ?_ ?_
       rotate_left
       ·rintro wh ⟨z_0, z_1, z_2, z_3, z_4, z_5, z_6, z_7, z_8⟩
        go_simp
        (try with_reducible rfl)
       simp only [Act.put, List.setIfInBounds_toArray, List.set_cons_zero, List.set_cons_succ]
       refine hT (i := 29) (v := ?_) rfl rfl hHeld ?_ ?_
       rotate_left
       ·rintro wh ⟨z_0, z_1, z_2, z_3, z_4, z_5, z_6, z_7, z_8⟩
        go_simp
        (try with_reducible rfl)
       simp only [Act.put, List.setIfInBounds_toArray, List.set_cons_zero, List.set_cons_succ]
       refine hT (i := 30) (v := ?_) rfl rfl hHeld ?_ ?_
       rotate_left
       ·rintro wh ⟨z_0, z_1, z_2, z_3, z_4, z_5, z_6, z_7, z_8⟩
        go_simp
        (try with_reducible rfl)
       simp only [Act.put, List.setIfInBounds_toArray, List.set_cons_zero, List.set_cons_succ]
       refine hT (i := 31) (v := ?_) rfl rfl hHeld ?_ ?_
       rotate_left
       ·rintro wh ⟨z_0, z_1, z_2, z_3, z_4, z_5, z_6, z_7, z_8⟩
        go_simp
        (try with_reducible rfl)
       simp only [Act.put, List.setIfInBounds_toArray, List.set_cons_zero, List.set_cons_succ]
       refine hT (i := 32) (v := ?_) rfl rfl hHeld ?_ ?_
       rotate_left
       ·rintro wh ⟨z_0, z_1, z_2, z_3, z_4, z_5, z_6, z_7, z_8⟩
        go_simp
        (try with_reducible rfl)
       simp only [Act.put, List.setIfInBounds_toArray, List.set_cons_zero, List.set_cons_succ]
       refine held_call (i := 33) rfl (by kernel_rfl) (by rfl) (fun K hK => ?_)
       (go_simp; go_at_call 19; refine (KF2.out _).mono ?_; rintro e w9 ⟨rfl, hb9⟩; have hB9 := hB8.trans (hb9.mono hB8.size))
       refine hK.out _ _ ⟨keep_cell y5 hB9 ltq, keep_cell x0 hB9 ltx, keep_cell x1 hB9 ltx, keep_cell x2 hB9 ltx, keep_cell x3 hB9 ltx, keep_cell a0 hB9 lta, keep_cell b0 hB9 ltb, keep_cell z1 hB9 ltz, keep_cell z2 hB9 ltz⟩ (fun hHeld => ?_)
       clear hK K
       (try simp only [Act.put, List.setIfInBounds_toArray, List.set_cons_zero, List.set_cons_succ])
       refine hT (i := 34) (v := ?_) rfl rfl hHeld ?_ ?_
       rotate_left
       ·rintro wh ⟨z_0, z_1, z_2, z_3, z_4, z_5, z_6, z_7, z_8⟩
        go_simp
        (try with_reducible rfl)
       simp only [Act.put, List.setIfInBounds_toArray, List.set_cons_zero, List.set_cons_succ]
       refine hT (i := 35) (v := ?_) rfl rfl hHeld ?_ ?_
       rotate_left
       ·rintro wh ⟨z_0, z_1, z_2, z_3, z_4, z_5, z_6, z_7, z_8⟩
        go_simp
        (try with_reducible rfl)
       simp only [Act.put, List.setIfInBounds_toArray, List.set_cons_zero, List.set_cons_succ]
       refine hT (i := 36) (v := ?_) rfl rfl hHeld ?_ ?_
       rotate_left
       ·rintro wh ⟨z_0, z_1, z_2, z_3, z_4, z_5, z_6, z_7, z_8⟩
        go_simp
        (try with_reducible rfl)
       simp only [Act.put, List.setIfInBounds_toArray, List.set_cons_zero, List.set_cons_succ]
       refine hT (i := 37) (v := ?_) rfl rfl hHeld ?_ ?_
       rotate_left
       ·rintro wh ⟨z_0, z_1, z_2, z_3, z_4, z_5, z_6, z_7, z_8⟩
        go_simp
        (try with_reducible rfl)
       simp only [Act.put, List.setIfInBounds_toArray, List.set_cons_zero, List.set_cons_succ]
       refine hT (i := 38) (v := ?_) rfl rfl hHeld ?_ ?_
       rotate_left
       ·rintro wh ⟨z_0, z_1, z_2, z_3, z_4, z_5, z_6, z_7, z_8⟩
        go_simp
        (try with_reducible rfl)
       simp only [Act.put, List.setIfInBounds_toArray, List.set_cons_zero, List.set_cons_succ]
       refine hT (i := 39) (v := ?_) rfl rfl hHeld ?_ ?_
       rotate_left
       ·rintro wh ⟨z_0, z_1, z_2, z_3, z_4, z_5, z_6, z_7, z_8⟩
        go_simp
        (try with_reducible rfl)
       simp only [Act.put, List.setIfInBounds_toArray, List.set_cons_zero, List.set_cons_succ]
       refine hT (i := 40) (v := ?_) rfl rfl hHeld ?_ ?_
       rotate_left
       ·rintro wh ⟨z_0, z_1, z_2, z_3, z_4, z_5, z_6, z_7, z_8⟩
        go_simp
        (try with_reducible rfl)
       simp only [Act.put, List.setIfInBounds_toArray, List.set_cons_zero, List.set_cons_succ]
       refine hT (i := 41) (v := ?_) rfl rfl hHeld ?_ ?_
       rotate_left
       ·rintro wh ⟨z_0, z_1, z_2, z_3, z_4, z_5, z_6, z_7, z_8⟩
        go_simp
        (try with_reducible rfl)
       simp only [Act.put, List.setIfInBounds_toArray, List.set_cons_zero, List.set_cons_succ]
       refine hT (i := 42) (v := ?_) rfl rfl hHeld ?_ ?_
       rotate_left
       ·rintro wh ⟨z_0, z_1, z_2, z_3, z_4, z_5, z_6, z_7, z_8⟩
        go_simp
        (try with_reducible rfl)
       simp only [Act.put, List.setIfInBounds_toArray, List.set_cons_zero, List.set_cons_succ]
       refine hT (i := 43) (v := ?_) rfl rfl hHeld ?_ ?_
       rotate_left
       ·rintro wh ⟨z_0, z_1, z_2, z_3, z_4, z_5, z_6, z_7, z_8⟩
        go_simp
        (try with_reducible rfl)
       simp only [Act.put, List.setIfInBounds_toArray, List.set_cons_zero, List.set_cons_succ]
       refine hT (i := 44) (v := ?_) rfl rfl hHeld ?_ ?_
       rotate_left
       ·rintro wh ⟨z_0, z_1, z_2, z_3, z_4, z_5, z_6, z_7, z_8⟩
        go_simp
        (try with_reducible rfl)
       simp only [Act.put, List.setIfInBounds_toArray, List.set_cons_zero, List.set_cons_succ]
       refine hT (i := 45) (v := ?_) rfl rfl hHeld ?_ ?_
       rotate_left
       ·rintro wh ⟨z_0, z_1, z_2, z_3, z_4, z_5, z_6, z_7, z_8⟩
        go_simp
        (try with_reducible rfl)
       simp only [Act.put, List.setIfInBounds_toArray, List.set_cons_zero, List.set_cons_succ]
       refine hT (i := 46) (v := ?_) rfl rfl hHeld ?_ ?_
       rotate_left
       ·rintro wh ⟨z_0, z_1, z_2, z_3, z_4, z_5, z_6, z_7, z_8⟩
        go_simp
        (try with_reducible rfl)
       simp only [Act.put, List.setIfInBounds_toArray, List.set_cons_zero, List.set_cons_succ]
       refine hT (i := 47) (v := ?_) rfl rfl hHeld ?_ ?_
       rotate_left
       ·rintro wh ⟨z_0, z_1, z_2, z_3, z_4, z_5, z_6, z_7, z_8⟩
        go_simp
        (try with_reducible rfl)
       simp only [Act.put, List.setIfInBounds_toArray, List.set_cons_zero, List.set_cons_succ]
       refine wpAnyH_done (by kernel_rfl) ?_ _
       have HBZ := Lib.hid (HB.out.trans (hB9.mono HB.out.size))
       clear y5 x0 x1 x2 x3 a0 b0 z1 z2 hd hb8 hB8 hb9 hB9 HB
       go_wp2
       go_roundw
       case rel => exact ⟨n + 1, by go_num, by omega, HBZ⟩
       case measure => (simp [intOf]; try omega)
  ·obtain rfl : m5 = n := by omega
   obtain ⟨y0, y1, y2, y3, y4, y5⟩ := HP6.out.later HB.out HZ6.out
   go_wp2
   go_ret
   exact ⟨rfl, HB6.out.trans (HB.out.mono HB6.out.size)⟩
end lawRules
end Go.Proofs.YtipnhpfpppblhaaGreat
/- InhibitRules: the walk, of its arguments. -/
namespace Go.Proofs.YtipnhpfpppblhaaGreat
open Go.RowKit
namespace lawRules
theorem walk (v : Value) (x : PV) (p : PD) (u : Value) (l : List (Al × Value)) (m : Value) (y : (Int × Nat) × (Int × Nat)) (w : World) (h1 : ArgPolC w v x p) (h2 : ArgAls w u l) (h3 : ArgLabs2 m y) : Calls Tryz.prog 8 #[v, u, m] w fun e w' => e = .returned (.bool true) ∧ Below w.heap.size w w' := by
 obtain ⟨⟨rfl, p2, p3⟩, p4⟩ := h1
 obtain ⟨z, rfl, _⟩ := pol_shape p2
 obtain ⟨rfl, m2, m3⟩ := h3
 exact walk0 z p l u y.1.1 y.1.2 y.2.1 y.2.2 w p2 p4 p3 h2.1 h2.2 m2 m3
end lawRules
end Go.Proofs.YtipnhpfpppblhaaGreat
/- InhibitRules: the card: whatever the arguments, the law returns true and its arguments read as they did. No condition. -/
namespace Go.Proofs.YtipnhpfpppblhaaGreat.lawRules
open Go.ChangeShapes Go.WideShapes Go.ChangeAt Go.RowKit
open Go.ChangeMaps (open_string)

set_option maxRecDepth 100000 in
theorem contract (H : Type) (enc : TypeId × Value → H) (W : World) (base : Nat) (args : Array Value) (ds gs : List (DataW H)) (before : List MemPlace)
  (hval : ∀ (j : Nat) t v, Tryz.f8.params[j]? = some t → args[j]? = some v → Value.okWide Tryz.prog W .any base t v)
  (hW : DataW.Whole enc Tryz.prog Tryz.f8.params.toList Rows.inhibitRulesSpec.vars false W args.toList ds gs before) :
  Calls Tryz.prog 8 args W fun e W' => ∃ v, e = .returned v ∧ Rows.inhibitRulesSpec.post enc Tryz.prog Tryz.f8 false true false false W args v W' := by
 have hW' := hW
 obtain ⟨p, q, hA0, hV, rfl, hfz, hnd⟩ := hW
 have hA : DataW.TrodAll enc Tryz.prog W 0 (fun _ => true) true Tryz.f8.params.toList args.toList ds p := hA0
 rw [Tryz.params8] at hA hval
 obtain ⟨v0, vs0, d0, ds0, p0, q0, hargs, rfl, rfl, h0, r0⟩ := trodAll_cons hA
 obtain ⟨v1, vs1, d1, ds1, p1, q1, rfl, rfl, rfl, h1, r1⟩ := trodAll_cons r0
 obtain ⟨v2, vs2, d2, ds2, p2, q2, rfl, rfl, rfl, h2, r2⟩ := trodAll_cons r1
 obtain ⟨rfl, rfl, rfl⟩ := trodAll_nil r2
 obtain rfl : args = #[v0, v1, v2] := by cases args; simp_all
 obtain ⟨rfl, rfl⟩ := trodVars_none hV
 obtain ⟨x0, y0, hx0⟩ := polC_of_arg (hval 0 26 v0 rfl rfl) h0
 obtain ⟨x1, hx1⟩ := alsG_of_arg (hval 1 27 v1 rfl rfl) h1
 obtain ⟨x2, hx2⟩ := labs2_of_arg (hval 2 64 v2 rfl rfl) h2
 clear hA0
 refine (walk v0 x0 y0 v1 x1 v2 x2 W hx0 hx1 hx2).mono ?_
 rintro e W' ⟨rfl, hb⟩
 exact ⟨_, rfl, law_post laidOut Tryz.underlying4 rfl rfl (by kernel_rfl) hW' rfl rfl rfl hb⟩

theorem laid_met (os : Os) : laidMet Tryz.prog Rows.inhibitRulesRow.laid ((laidWorld os).forCall (fun _ _ => 0) ⟨#[], #[.agg #[.slice none 0 0, .slice none 0 0, .slice none 0 0, .slice none 0 0, .slice none 0 0, .slice none 0 0], .slice none 0 0, .agg #[.int .i64 0, .int .u32 0, .int .i64 0, .int .u32 0]], []⟩).memory :=
 ⟨[], rfl, List.nodup_nil, fun _ _ h => by cases h⟩
theorem reads (os : Os) {H : Type} (enc : TypeId × Value → H) : ∃ places, DataW.whole enc Tryz.prog ((laidWorld os).forCall (fun _ _ => 0) ⟨#[], #[.agg #[.slice none 0 0, .slice none 0 0, .slice none 0 0, .slice none 0 0, .slice none 0 0, .slice none 0 0], .slice none 0 0, .agg #[.int .i64 0, .int .u32 0, .int .i64 0, .int .u32 0]], []⟩).memory Tryz.f8.params.toList Rows.inhibitRulesSpec.vars false (#[.agg #[.slice none 0 0, .slice none 0 0, .slice none 0 0, .slice none 0 0, .slice none 0 0, .slice none 0 0], .slice none 0 0, .agg #[.int .i64 0, .int .u32 0, .int .i64 0, .int .u32 0]] : Array Value).toList 8 = some ([.agg [.nil, .nil, .nil, .nil, .nil, .nil], .nil, .agg [.agg [.lit (.int .i64 0), .lit (.int .u32 0)], .agg [.lit (.int .i64 0), .lit (.int .u32 0)]]], [], places) :=
 ⟨[], by kernel_rfl⟩

set_option maxRecDepth 100000 in
theorem lifted (os : Os) (started : os.Started) (H : Type) (enc : TypeId × Value → H) (F : Stop.Interp) :
  ReturnsInHanded {} Tryz.checked os 8 .any ((OpenSpec.ofChange Rows.inhibitRulesSpec).preRow enc Tryz.prog Tryz.f8 Rows.inhibitRulesRow.domain false Rows.inhibitRulesRow.laid) (((OpenSpec.ofChange Rows.inhibitRulesSpec).at F).post enc Tryz.prog Tryz.f8 false true false false) := by
 obtain ⟨places, hx⟩ := reads os enc
 refine returnsInHanded_of_row (C := Tryz.checked) (s := OpenSpec.ofChange Rows.inhibitRulesSpec) ownNone started (by kernel_rfl) Tryz.func8
  (witness_row_at (enc := enc) (C := Tryz.checked) false (laidWorld os) #[.agg #[.slice none 0 0, .slice none 0 0, .slice none 0 0, .slice none 0 0, .slice none 0 0, .slice none 0 0], .slice none 0 0, .agg #[.int .i64 0, .int .u32 0, .int .i64 0, .int .u32 0]] rfl (by kernel_rfl) (by kernel_rfl) (by kernel_rfl)
   (OpenSpec.preRow_of_cond 8 hx (by kernel_rfl) (fun k hk => by cases hk) (by kernel_rfl) (laid_met os))) ?_
 intro W base args ds gs before hval hW _ _ _ _ _ _
 exact contract H enc W base args ds gs before hval hW

theorem said : Rows.InhibitRulesSaid :=
 OpenClaim.holds_of_cond 8 Tryz.f8 rfl rfl rfl rfl rfl rfl rfl ⟨rfl, rfl, rfl, rfl, rfl⟩ rfl rfl rfl rfl rfl (by kernel_rfl) Tryz.func8 (by kernel_rfl)
  (of_decide_eq_true (by kernel_rfl)) (by unfold Func.isWrapper; first | (rw [if_pos (by decide +kernel)]; kernel_rfl) | (rw [if_neg (by decide +kernel)]; exact ⟨rfl, rfl⟩))
  (fun os started H enc _ F => by rw [OpenClaim.pre_eq_preRow]; exact lifted os started H enc F)

end Go.Proofs.YtipnhpfpppblhaaGreat.lawRules
