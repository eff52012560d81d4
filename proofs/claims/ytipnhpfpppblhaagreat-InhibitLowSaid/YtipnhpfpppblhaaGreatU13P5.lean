/- What several claims of this seat share: contracts of the functions that they reach. -/
import Derived.Test.YtipnhpfpppblhaaGreatU13P4
import Derived.Test.YtipnhpfpppblhaaGreatBox2
import Derived.Maps.AppendAt

/- inhibit.Left: a contract. -/
namespace Go.Proofs.YtipnhpfpppblhaaGreat
open Go.RowKit Go.Maps
noncomputable def hushK (p : PD) (l : List (Al × Value)) (t : Int × Nat) (now : Int) (k : Int) : Bool := decide (0 < (quietK p l k t now).length)
noncomputable def leftL (p : PD) (l : List (Al × Value)) (t : Int × Nat) (now : Int) : List Int := if checkP p = 0 then (idxF (toldA p.ra t now) l).filter fun k => !(hushK p l t now k) else []
structure LBx (b : Nat) (v0 v1 v2 v3 v4 v5 lv : Value) (tl : Int) (tc : Nat) (now : Int) (W : World) : Prop where
 p : C6 b v0 v1 v2 v3 v4 v5 W
 l : W.cell? ⟨b + 1, 0, none⟩ = some lv
 t0 : W.cell? ⟨b + 1 + 1, 0, none⟩ = some (.int .i64 tl)
 t1 : W.cell? ⟨b + 1 + 1, 1, none⟩ = some (.int .u32 tc)
 n : W.cell? ⟨b + 1 + 1 + 1, 0, none⟩ = some (.int .i64 now)
 lt : b + 1 + 1 + 1 < W.heap.size
theorem LBx.later {b : Nat} {v0 v1 v2 v3 v4 v5 lv : Value} {tl : Int} {tc : Nat} {now : Int} {W W' : World} (h : LBx b v0 v1 v2 v3 v4 v5 lv tl tc now W) (hb : Below W.heap.size W W') : LBx b v0 v1 v2 v3 v4 v5 lv tl tc now W' := by
 have hl := h.lt
 exact ⟨h.p.later hb (by omega), keep_cell h.l hb (by show b + 1 < _; omega), keep_cell h.t0 hb (by show b + 1 + 1 < _; omega), keep_cell h.t1 hb (by show b + 1 + 1 < _; omega), keep_cell h.n hb hl, Nat.lt_of_lt_of_le hl hb.size⟩
theorem lbx_new (w : World) (v0 v1 v2 v3 v4 v5 lv : Value) (tl : Int) (tc : Nat) (now : Int) (s t r q : TypeId) :
  LBx w.heap.size v0 v1 v2 v3 v4 v5 lv tl tc now ((((w.alloc (.cells #[v0, v1, v2, v3, v4, v5] s)).alloc (.cells #[lv] t)).alloc (.cells #[.int .i64 tl, .int .u32 tc] r)).alloc (.cells #[.int .i64 now] q)) ∧
   Below w.heap.size w ((((w.alloc (.cells #[v0, v1, v2, v3, v4, v5] s)).alloc (.cells #[lv] t)).alloc (.cells #[.int .i64 tl, .int .u32 tc] r)).alloc (.cells #[.int .i64 now] q)) := by
 obtain ⟨W1, h1⟩ : ∃ z, w.alloc (.cells #[v0, v1, v2, v3, v4, v5] s) = z := ⟨_, rfl⟩
 obtain ⟨W2, h2⟩ : ∃ z, W1.alloc (.cells #[lv] t) = z := ⟨_, rfl⟩
 obtain ⟨W3, h3⟩ : ∃ z, W2.alloc (.cells #[.int .i64 tl, .int .u32 tc] r) = z := ⟨_, rfl⟩
 obtain ⟨W4, h4⟩ : ∃ z, W3.alloc (.cells #[.int .i64 now] q) = z := ⟨_, rfl⟩
 rw [h1, h2, h3, h4]
 have s1 : W1.heap.size = w.heap.size + 1 := by rw [← h1, World.size_alloc]
 have s2 : W2.heap.size = w.heap.size + 1 + 1 := by rw [← h2, World.size_alloc, s1]
 have s3 : W3.heap.size = w.heap.size + 1 + 1 + 1 := by rw [← h3, World.size_alloc, s2]
 have s4 : W4.heap.size = w.heap.size + 1 + 1 + 1 + 1 := by rw [← h4, World.size_alloc, s3]
 have b1 : Below w.heap.size w W1 := by rw [← h1]; exact alloc_below _ _
 have b2 : Below W1.heap.size W1 W2 := by rw [← h2]; exact alloc_below _ _
 have b3 : Below W2.heap.size W2 W3 := by rw [← h3]; exact alloc_below _ _
 have b4 : Below W3.heap.size W3 W4 := by rw [← h4]; exact alloc_below _ _
 have c24 : Below W2.heap.size W2 W4 := b3.trans (b4.mono (by omega))
 have c14 : Below W1.heap.size W1 W4 := b2.trans (c24.mono (by omega))
 have x6 : C6 w.heap.size v0 v1 v2 v3 v4 v5 W1 := by rw [← h1]; exact box6n w _ _ _ _ _ _ _
 have g2 : W2.cell? ⟨W1.heap.size, 0, none⟩ = some lv := by rw [← h2]; exact World.cell?_alloc_at _ _ _ _ rfl
 have g3 : W3.cell? ⟨W2.heap.size, 0, none⟩ = some (.int .i64 tl) := by rw [← h3]; exact World.cell?_alloc_at _ _ _ _ rfl
 have g3' : W3.cell? ⟨W2.heap.size, 1, none⟩ = some (.int .u32 tc) := by rw [← h3]; exact World.cell?_alloc_at _ _ _ _ rfl
 have g4 : W4.cell? ⟨W3.heap.size, 0, none⟩ = some (.int .i64 now) := by rw [← h4]; exact World.cell?_alloc_at _ _ _ _ rfl
 refine ⟨⟨x6.later c14 (by omega), ?_, ?_, ?_, ?_, by omega⟩, b1.trans (c14.mono (by omega))⟩
 ·rw [← s1]; exact keep_cell g2 c24 (by show W1.heap.size < W2.heap.size; omega)
 ·rw [← s2]; exact keep_cell g3 b4 (by show W2.heap.size < W3.heap.size; omega)
 ·rw [← s2]; exact keep_cell g3' b4 (by show W2.heap.size < W3.heap.size; omega)
 ·rw [← s3]; exact g4
set_option maxHeartbeats 3200000 in
set_option maxRecDepth 100000 in
theorem leftclos (v : PV) (p : PD) (l : List (Al × Value)) (lv : Value) (b : Nat) (k : Int) (tl : Int) (tc : Nat) (now : Int) (w : World) (hp : PolAt w v p) (hpf : PolFitD p) (hl : AlsAt w lv l) (hlen : l.length ≤ maxLen) (hx : LBx b v.v0 v.v1 v.v2 v.v3 v.v4 v.v5 lv tl tc now w) :
  Calls Tryz.prog 35 #[.int .i64 k, .pointer (some ⟨b, 0, none⟩), .pointer (some ⟨b + 1, 0, none⟩), .pointer (some ⟨b + 1 + 1, 0, none⟩), .pointer (some ⟨b + 1 + 1 + 1, 0, none⟩)] w fun e w' => e = .returned (.bool (hushK p l (tl, tc) now k)) ∧ Below w.heap.size w w' := by
 have kq := iquiet_any v p l lv k tl tc now w hp hpf hl hlen
 obtain ⟨v0, v1, v2, v3, v4, v5⟩ := v
 obtain ⟨h0, h1, h2, h3, ⟨h4, _⟩, h5, _⟩ := hp
 dsimp only at *
 obtain ⟨a0, c0, rfl, _, _⟩ := RdAt.shape h0
 obtain ⟨a1, c1, rfl, _, _⟩ := RdAt.shape h1
 obtain ⟨a2, c2, rfl, _, _⟩ := RdAt.shape h2
 obtain ⟨a3, c3, rfl, _, _⟩ := RdAt.shape h3
 obtain ⟨a4, c4, rfl, _, _⟩ := RdAt.shape h4
 obtain ⟨a5, c5, rfl, _, _⟩ := RdAt.shape h5
 obtain ⟨la, lc, rfl, _, _⟩ := RdAt.shape hl.row
 have HH : Hid (hushK p l (tl, tc) now k = decide (0 < (quietK p l k (tl, tc) now).length)) := Lib.hid rfl
 generalize hushK p l (tl, tc) now k = R at *
 generalize quietK p l k (tl, tc) now = Q at *
 obtain ⟨⟨q0, q1, q2, q3, q4, q5⟩, c0', t0, t1, n0, _⟩ := hx
 clear h0 h1 h2 h3 h4 h5 hl hpf
 go_enter Tryz.func35, Tryz.ntmps35
 go_wp2_with fail
 refine kq.mono ?_
 rintro e w1 ⟨r, rfl, hr, hb1⟩
 have HB := Lib.hid hb1
 have hrr := RdAt.shape (RdAt.own hr)
 obtain ⟨ra, rc, rfl, _, _⟩ := hrr
 clear kq hr hb1 q0 q1 q2 q3 q4 q5 c0' t0 t1 n0
 generalize Q.length = n at *
 by_cases hn : 0 < n
 ·have hi : (0 : Int) < (n : Int) := by omega
  go_wp2
  go_ret
  exact ⟨by rw [HH.out, decide_eq_true hn]; rfl, HB.out⟩
 ·obtain rfl : n = 0 := by omega
  go_wp2
  go_ret
  exact ⟨by rw [HH.out]; rfl, HB.out⟩
set_option maxHeartbeats 3200000 in
set_option maxRecDepth 100000 in
theorem ileft_any (v : PV) (p : PD) (l : List (Al × Value)) (lv : Value) (tl : Int) (tc : Nat) (now : Int) (w : World) (hp : PolAt w v p) (hpf : PolFitD p) (hl : AlsAt w lv l) (hlen : l.length ≤ 1000000) (h12 : ∀ q ∈ l, q.1.fl.length ≤ 12) :
  Calls Tryz.prog 17 #[v.v, lv, Lab tl tc, .int .i64 now] w fun e w' => ∃ r, e = .returned r ∧ IntsAt w' r (leftL p l (tl, tc) now) ∧ Below w.heap.size w w' := by
 have hlm : l.length ≤ maxLen := by unfold maxLen; omega
 have KC := Lib.hid (fun W (h : Below w.heap.size w W) => pcheck_any v p W (hp.later h) hpf)
 have KT := Lib.hid (fun W (h : Below w.heap.size w W) => told_any v p l lv tl tc now W (hp.later h) hpf (hl.later h) hlen h12)
 have KL := Lib.hid (fun k W (h : Below w.heap.size w W) hx => leftclos v p l lv w.heap.size k tl tc now W (hp.later h) hpf (hl.later h) hlm hx)
 have HLN := Lib.hid (idxTo_len (toldA p.ra (tl, tc) now) l l.length)
 have HLL : Hid (leftL p l (tl, tc) now = if checkP p = 0 then (idxF (toldA p.ra (tl, tc) now) l).filter (fun k => !(hushK p l (tl, tc) now k)) else []) := Lib.hid rfl
 obtain ⟨v0, v1, v2, v3, v4, v5⟩ := v
 obtain ⟨h0, h1, h2, h3, ⟨h4, _⟩, h5, _⟩ := hp
 dsimp only at *
 obtain ⟨a0, c0, rfl, _, _⟩ := RdAt.shape h0
 obtain ⟨a1, c1, rfl, _, _⟩ := RdAt.shape h1
 obtain ⟨a2, c2, rfl, _, _⟩ := RdAt.shape h2
 obtain ⟨a3, c3, rfl, _, _⟩ := RdAt.shape h3
 obtain ⟨a4, c4, rfl, _, _⟩ := RdAt.shape h4
 obtain ⟨a5, c5, rfl, _, _⟩ := RdAt.shape h5
 obtain ⟨la, lc, rfl, _, _⟩ := RdAt.shape hl.row
 obtain ⟨W0, hW0⟩ : ∃ z, (((w.alloc (.cells #[.slice a0 p.so.length c0, .slice a1 p.re.length c1, .slice a2 p.pe.length c2, .slice a3 p.ra.length c3, .slice a4 p.ro.length c4, .slice a5 p.ih.length c5] 26)).alloc (.cells #[.slice la l.length lc] 31)).alloc (.cells #[.int .i64 tl, .int .u32 tc] 36)).alloc (.cells #[.int .i64 now] 3) = z := ⟨_, rfl⟩
 obtain ⟨hx, hb⟩ := lbx_new w (.slice a0 p.so.length c0) (.slice a1 p.re.length c1) (.slice a2 p.pe.length c2) (.slice a3 p.ra.length c3) (.slice a4 p.ro.length c4) (.slice a5 p.ih.length c5) (.slice la l.length lc) tl tc now 26 31 36 3
 rw [hW0] at hx hb
 have HX := Lib.hid hx
 have HB := Lib.hid hb
 have HW0 := Lib.hid hW0
 clear h0 h1 h2 h3 h4 h5 hl hpf h12 hx hb hW0
 go_enter Tryz.func17, Tryz.ntmps17
 go_upto_region 1 with fail
 rw [HW0.out]
 clear HW0
 obtain ⟨q0, q1, q2, q3, q4, q5⟩ := HX.out.p
 have kc := KC.out W0 HB.out
 by_cases hck : checkP p = 0
 ·rw [hck] at kc
  have HLE : Hid (leftL p l (tl, tc) now = (idxF (toldA p.ra (tl, tc) now) l).filter (fun k => !(hushK p l (tl, tc) now k))) := Lib.hid (by rw [HLL.out, if_pos hck])
  clear hck HLL
  go_wp2_with fail
  refine kc.mono ?_
  rintro e w1 ⟨rfl, hb1⟩
  have HX1 := Lib.hid (HX.out.later hb1)
  have HB1 := Lib.hid (HB.out.trans (hb1.mono HB.out.size))
  clear kc hb1 q0 q1 q2 q3 q4 q5 HX HB
  obtain ⟨⟨q0, q1, q2, q3, q4, q5⟩, e0, t0, t1, n0, _⟩ := HX1.out
  have kt := KT.out w1 HB1.out
  go_wp2_with fail
  refine kt.mono ?_
  rintro e w2 ⟨r, rfl, hown, hb2⟩
  have HX2 := Lib.hid (HX1.out.later hb2)
  have HB2 := Lib.hid (HB1.out.trans (hb2.mono HB1.out.size))
  have hs12 := hb2.size
  have hlt := HX1.out.lt
  have kd := delL_any (idxF (toldA p.ra (tl, tc) now) l) (hushK p l (tl, tc) now) (.pointer (some ⟨w.heap.size, 0, none⟩)) (.pointer (some ⟨w.heap.size + 1, 0, none⟩)) (.pointer (some ⟨w.heap.size + 1 + 1, 0, none⟩)) (.pointer (some ⟨w.heap.size + 1 + 1 + 1, 0, none⟩)) w1.heap.size r w2 hown hs12 (by have := HLN.out; unfold idxF; omega)
   (fun W hW x hx => KL.out x W (HB2.out.trans (hW.mono (by have := HB1.out.size; omega))) (by
    have hb12 : Below w1.heap.size w1 W := hb2.trans hW
    exact HX1.out.later hb12))
  have hrs := RdAt.shape (RdAt.own hown)
  obtain ⟨ra, rc, rfl, _, _⟩ := hrs
  clear kt hown hb2 q0 q1 q2 q3 q4 q5 e0 t0 t1 n0
  go_wp2_with fail
  refine kd.mono ?_
  rintro e w3 ⟨r', rfl, hr', hb3⟩
  have HR := Lib.hid hr'
  have HB3 := Lib.hid (HB2.out.trans (hb3.mono (by have := HB1.out.size; omega)))
  clear kd hr' hb3
  go_wp2
  go_ret
  exact ⟨r', rfl, by rw [HLE.out]; exact HR.out, HB3.out⟩
 ·have HLE : Hid (leftL p l (tl, tc) now = []) := Lib.hid (by rw [HLL.out, if_neg hck])
  generalize checkP p = ck at *
  go_wp2_with fail
  refine kc.mono ?_
  rintro e w1 ⟨rfl, hb1⟩
  have HB1 := Lib.hid (HB.out.trans (hb1.mono HB.out.size))
  clear kc hb1 q0 q1 q2 q3 q4 q5
  go_wp2
  go_ret
  exact ⟨_, rfl, by rw [HLE.out]; exact RdAt.nil _ 1, HB1.out⟩
end Go.Proofs.YtipnhpfpppblhaaGreat
/- inhibit.Bits: a contract. -/
namespace Go.Proofs.YtipnhpfpppblhaaGreat
open Go.RowKit Go.Maps
def ILs (g : Nat) (a : Option Addr) (L : List Int) (W : World) : Prop := ∀ j (h : j < L.length), ∃ b o, a = some ⟨b, o, none⟩ ∧ b ≠ g ∧ b < W.heap.size ∧ W.cell? ⟨b, o + j, none⟩ = some (.int .i64 L[j])
theorem ILs.later {g : Nat} {a : Option Addr} {L : List Int} {W W' : World} (h : ILs g a L W) (hb : Below W.heap.size W W') : ILs g a L W' := fun j hj => by
 obtain ⟨b, o, e, hn, hl, hc⟩ := h j hj
 exact ⟨b, o, e, hn, Nat.lt_of_lt_of_le hl hb.size, keep_cell hc hb hl⟩
theorem ILs.put {g : Nat} {a : Option Addr} {L : List Int} {W : World} (h : ILs g a L W) (i : Nat) (v : Value) : ILs g a L (W.setCell ⟨g, i, none⟩ v) := fun j hj => by
 obtain ⟨b, o, e, hn, hl, hc⟩ := h j hj
 exact ⟨b, o, e, hn, by rw [(World.size_setCell _ _ _)]; exact hl, by rw [World.cell?_setCell_other _ _ _ _ (by intro e; cases e; exact hn rfl)]; exact hc⟩
theorem ils_of {g base : Nat} {a : Option Addr} {c : Nat} {L : List Int} {W : World} (h : W.ownsRow base 3 1 (.slice a L.length c) L.length (L.map I)) (hg : g < base) : ILs g a L W := fun j hj => by
 obtain ⟨x, y, e, _, hr⟩ := RdAt.shape (RdAt.own h)
 simp only [Value.slice.injEq] at e
 obtain ⟨rfl, _, rfl⟩ := e
 obtain ⟨b, o, rfl, hl, hc⟩ := hr (by omega)
 refine ⟨b, o, rfl, ?_, hl, hc j _ (by rw [List.getElem?_map, List.getElem?_eq_getElem hj]; rfl)⟩
 have := (h.lt b rfl).1
 omega
noncomputable def bitTo (p : PD) (l : List (Al × Value)) (t : Int × Nat) (now : Int) (T : List Int) (n : Nat) (i : Nat) : Bool := (T.take n).any fun k => (quietK p l k t now).contains (i : Int)
noncomputable def bitX (p : PD) (l : List (Al × Value)) (t : Int × Nat) (now : Int) (i : Nat) : Bool := (idxF (toldA p.ra t now) l).any fun k => (quietK p l k t now).contains (i : Int)
theorem bitTo_step {p : PD} {l : List (Al × Value)} {t : Int × Nat} {now : Int} {T : List Int} {n : Nat} (h : n < T.length) (i : Nat) : bitTo p l t now T (n + 1) i = (bitTo p l t now T n i || (quietK p l T[n] t now).contains (i : Int)) := by
 unfold bitTo
 rw [List.take_succ_eq_append_getElem h, List.any_append]
 simp
theorem idxF_lt {α : Type} {f : α → Bool} {l : List α} {k : Int} (h : k ∈ idxF f l) : 0 ≤ k ∧ k < l.length := by
 unfold idxF idxTo at h
 obtain ⟨i, hi, rfl⟩ := List.mem_map.1 h
 have := List.mem_range.1 (List.mem_filter.1 hi).1
 omega
theorem quietK_lt {p : PD} {l : List (Al × Value)} {k : Int} {t : Int × Nat} {now : Int} {i : Int} (h : i ∈ quietK p l k t now) : 0 ≤ i ∧ i < p.ih.length := by
 unfold quietK at h
 split at h
 ·split at h
  ·unfold quietX at h
   split at h
   ·exact idxF_lt h
   ·cases h
  ·cases h
 ·cases h
theorem quietK_len (p : PD) (l : List (Al × Value)) (k : Int) (t : Int × Nat) (now : Int) : (quietK p l k t now).length ≤ p.ih.length := by
 unfold quietK
 split
 ·split
  ·unfold quietX
   split
   ·exact idxTo_len _ _ _
   ·exact Nat.zero_le _
  ·exact Nat.zero_le _
 ·exact Nat.zero_le _
theorem BW.later {w wr wr' : World} {b n : Nat} {X : Nat → Bool} (h : BW w wr b n X) (hb : Below wr.heap.size wr wr') : BW w wr' b n X := ⟨h.row.of_block (hb.block b h.row.lt), h.bl.trans (hb.mono h.bl.size), h.hb⟩
set_option maxHeartbeats 3200000 in
set_option maxRecDepth 100000 in
theorem ibits_any (v : PV) (p : PD) (l : List (Al × Value)) (lv : Value) (tl : Int) (tc : Nat) (now : Int) (w : World) (hp : PolAt w v p) (hpf : PolFitD p) (hl : AlsAt w lv l) (hlen : l.length ≤ 1000000) (h12 : ∀ q ∈ l, q.1.fl.length ≤ 12) (h14 : p.ih.length ≤ 14) :
  Calls Tryz.prog 15 #[v.v, lv, Lab tl tc, .int .i64 now] w fun e w' => ∃ r, e = .returned r ∧ BsAt w' r p.ih.length (bitX p l (tl, tc) now) ∧ Below w.heap.size w w' := by
 have hlm : l.length ≤ maxLen := by unfold maxLen; omega
 have KT := Lib.hid (fun W (h : Below w.heap.size w W) => told_any v p l lv tl tc now W (hp.later h) hpf (hl.later h) hlen h12)
 have KQ := Lib.hid (fun k W (h : Below w.heap.size w W) => iquiet_any v p l lv k tl tc now W (hp.later h) hpf (hl.later h) hlm)
 have HLN := Lib.hid (idxTo_len (toldA p.ra (tl, tc) now) l l.length)
 have HQL := Lib.hid (fun k i (h : i ∈ quietK p l k (tl, tc) now) => quietK_lt h)
 have HBX : Hid (∀ i, bitX p l (tl, tc) now i = bitTo p l (tl, tc) now (idxF (toldA p.ra (tl, tc) now) l) (idxF (toldA p.ra (tl, tc) now) l).length i) := Lib.hid (fun i => by unfold bitX bitTo; rw [List.take_length])
 obtain ⟨v0, v1, v2, v3, v4, v5⟩ := v
 obtain ⟨h0, h1, h2, h3, ⟨h4, _⟩, h5, _⟩ := hp
 dsimp only at *
 obtain ⟨a0, c0, rfl, _, _⟩ := RdAt.shape h0
 obtain ⟨a1, c1, rfl, _, _⟩ := RdAt.shape h1
 obtain ⟨a2, c2, rfl, _, _⟩ := RdAt.shape h2
 obtain ⟨a3, c3, rfl, _, _⟩ := RdAt.shape h3
 obtain ⟨a4, c4, rfl, _, _⟩ := RdAt.shape h4
 obtain ⟨a5, c5, rfl, _, _⟩ := RdAt.shape h5
 obtain ⟨la, lc, rfl, _, _⟩ := RdAt.shape hl.row
 obtain ⟨i0, hi, hz0, hz1, hz2⟩ := info_parts info_bool
 obtain ⟨W0, hW0⟩ : ∃ z, (w.alloc (.cells #[.slice a0 p.so.length c0, .slice a1 p.re.length c1, .slice a2 p.pe.length c2, .slice a3 p.ra.length c3, .slice a4 p.ro.length c4, .slice a5 p.ih.length c5] 26)).alloc (.cells #[.int .i64 tl, .int .u32 tc] 36) = z := ⟨_, rfl⟩
 have HS0 : Hid (QPt w (.slice a0 p.so.length c0) (.slice a1 p.re.length c1) (.slice a2 p.pe.length c2) (.slice a3 p.ra.length c3) (.slice a4 p.ro.length c4) (.slice a5 p.ih.length c5) tl tc W0) := Lib.hid (by rw [← hW0]; exact qpt_new w _ _ _ _ _ _ _ _ _ _)
 have HW0 := Lib.hid hW0
 have HN := Lib.hid (BW.new W0 p.ih.length)
 clear h0 h1 h2 h3 h4 h5 hl hpf h12 hW0
 go_enter Tryz.func15, Tryz.ntmps15
 go_upto_region 1 with fail
 rw [HW0.out]
 clear HW0
 obtain ⟨q0, q1, q2, q3, q4, q5⟩ := HS0.out.p
 go_upto_region 2 with ((with_reducible refine wpList_make_row _ rfl _ _ 41 rfl 4 i0 (.bool false) Tryz.underlying41 hi hz0 hz1 rfl .i64 .i64 p.ih.length ?hl ?hc ?hb ?h63 ?_); (case hl => rfl); (case hc => rfl); (case hb => rw [hz2]; omega); (case h63 => omega))
 refine wp_forget3 (fun W => BW W0 W W0.heap.size p.ih.length (fun _ => false) ∧ W0.heap.size < W.heap.size) ⟨HN.out, by rw [World.size_alloc]; omega⟩ (fun w1 hw1 => ?_)
 have H1 := Lib.hid hw1.1
 have hg1 := hw1.2
 have HS1 := Lib.hid (HS0.out.later H1.out.bl)
 clear hw1 HN q0 q1 q2 q3 q4 q5
 obtain ⟨q0, q1, q2, q3, q4, q5⟩ := HS1.out.p
 have t0 := HS1.out.t0
 have t1 := HS1.out.t1
 have kt := KT.out w1 HS1.out.below
 go_wp2_with fail
 refine kt.mono ?_
 rintro e w2 ⟨r, rfl, hown, hb2⟩
 have H2 := Lib.hid (H1.out.later hb2)
 have hrs := RdAt.shape (RdAt.own hown)
 obtain ⟨ra, rc, rfl, _, _⟩ := hrs
 have HT2 := Lib.hid (ils_of hown hg1)
 have HTL : Hid (∀ k ∈ idxF (toldA p.ra (tl, tc) now) l, 0 ≤ k ∧ k < l.length) := Lib.hid (fun k hk => idxF_lt hk)
 have htl := HLN.out
 rw [show idxTo (toldA p.ra (tl, tc) now) l l.length = idxF (toldA p.ra (tl, tc) now) l from rfl] at htl
 generalize idxF (toldA p.ra (tl, tc) now) l = T at *
 clear kt hown hb2 q0 q1 q2 q3 q4 q5 t0 t1 H1 HS1
 have hgw := HS0.out.below.size
 go_wp2
 go_loopw [24] (fun i wr => ∃ (n : Nat), i = .int .i64 n ∧ n ≤ T.length ∧ Hid (BW W0 wr W0.heap.size p.ih.length (bitTo p l (tl, tc) now T n)) ∧ Hid (ILs W0.heap.size ra T wr)) (fun i _ => T.length - (intOf i).toNat)
 case atStart => exact ⟨0, rfl, Nat.zero_le _, Lib.hid (H2.out.congr (fun j _ => by unfold bitTo; simp)), HT2⟩
 case round =>
  clear H2 HT2
  obtain ⟨n, rfl, hn, HW, HT⟩ := hrel
  by_cases hnl : n < T.length
  ·obtain ⟨tb, tof, rfl, htb, htbl, htc⟩ := HT.out n hnl
   have HST := Lib.hid (fun i => bitTo_step (p := p) (l := l) (t := (tl, tc)) (now := now) hnl i)
   generalize T[n] = k at *
   have HSW := Lib.hid (HS0.out.later HW.out.bl)
   obtain ⟨q0, q1, q2, q3, q4, q5⟩ := HSW.out.p
   have t0 := HSW.out.t0
   have t1 := HSW.out.t1
   have kq := KQ.out k wr HSW.out.below
   have HQI := Lib.hid (HQL.out k)
   go_wp2_with fail
   refine kq.mono ?_
   rintro e w3 ⟨r, rfl, hown, hb3⟩
   have HW3 := Lib.hid (HW.out.later hb3)
   have HT3 := Lib.hid (HT.out.later hb3)
   have hrs := RdAt.shape (RdAt.own hown)
   obtain ⟨qa, qc, rfl, _, _⟩ := hrs
   have HQ3 := Lib.hid (ils_of hown (HW.out.row.lt))
   have hql := quietK_len p l k (tl, tc) now
   generalize quietK p l k (tl, tc) now = Q at *
   clear kq hown hb3 q0 q1 q2 q3 q4 q5 t0 t1 HW HT htc htbl HSW
   obtain ⟨wo, hwo⟩ : ∃ z, z = wr := ⟨_, rfl⟩
   clear hwo
   go_wp2
   go_loopw [35] (fun i wr => ∃ (m : Nat), i = .int .i64 m ∧ m ≤ Q.length ∧ Hid (BW W0 wr W0.heap.size p.ih.length (fun i => bitTo p l (tl, tc) now T n i || (Q.take m).contains (i : Int))) ∧ Hid (ILs W0.heap.size (some ⟨tb, tof, none⟩) T wr) ∧ Hid (ILs W0.heap.size qa Q wr)) (fun i _ => Q.length - (intOf i).toNat)
   case atStart => exact ⟨0, rfl, Nat.zero_le _, Lib.hid (HW3.out.congr (fun j _ => by simp)), HT3, HQ3⟩
   case round =>
    clear HW3 HT3 HQ3
    obtain ⟨m, rfl, hm, HW, HT, HQ⟩ := hrel
    by_cases hml : m < Q.length
    ·obtain ⟨qb, qo, rfl, hqb, hqbl, hqc⟩ := HQ.out m hml
     obtain ⟨hz0', hz1'⟩ := HQI.out _ (List.getElem_mem hml)
     have HTK : Hid (Q.take (m + 1) = Q.take m ++ [Q[m]]) := Lib.hid (List.take_succ_eq_append_getElem hml)
     obtain ⟨z, hz⟩ : ∃ z : Nat, Q[m] = (z : Int) := ⟨(Q[m]).toNat, by omega⟩
     rw [hz] at hqc hz0' hz1' HTK
     have hzl : z < p.ih.length := by omega
     have qc0 := HW.out.row.cell hzl
     have qf0 := HW.out.row.frozen z
     have HN2 := Lib.hid ((HW.out.put z true).congr (Y := fun i => bitTo p l (tl, tc) now T n i || (Q.take (m + 1)).contains (i : Int)) (fun j _ => by
      rw [HTK.out]
      by_cases e : j = z
      ·subst e; simp
      ·simp [e, show ¬ ((j : Int) = (z : Int)) by omega]))
     have HT2 := Lib.hid (HT.out.put z (.bool true))
     have HQ2 := Lib.hid (HQ.out.put z (.bool true))
     clear hz
     go_wp2
     go_roundw
     case rel => exact ⟨m + 1, by go_num, by omega, HN2, HT2, HQ2⟩
     case measure => (simp [intOf]; try omega)
    ·obtain rfl : m = Q.length := by omega
     have HN2 := Lib.hid (HW.out.congr (Y := bitTo p l (tl, tc) now T (n + 1)) (fun j _ => by rw [List.take_length, HST.out]))
     go_wp2
     go_roundw
     case rel => exact ⟨n + 1, by go_num, by omega, HN2, HT⟩
     case measure => (simp [intOf]; try omega)
  ·obtain rfl : n = T.length := by omega
   go_wp2
   go_ret
   exact ⟨_, rfl, ⟨_, rfl, HW.out.row.congr (fun j hj => by rw [HBX.out])⟩, HS0.out.below.trans (HW.out.bl.mono hgw)⟩
end Go.Proofs.YtipnhpfpppblhaaGreat
/- lychgatelaw13.lives: what its values are, plainly. -/
namespace Go.Proofs.YtipnhpfpppblhaaGreat
open Go.RowKit
abbrev sevB : ByteArray := ⟨#[115, 101, 118]⟩
abbrev teamB : ByteArray := ⟨#[116, 101, 97, 109]⟩
abbrev hiB : ByteArray := ⟨#[104, 105, 103, 104]⟩
abbrev loB : ByteArray := ⟨#[108, 111, 119]⟩
abbrev tB : ByteArray := ⟨#[116]⟩
abbrev promB : ByteArray := ⟨#[112, 114, 111, 109]⟩
abbrev flO (s : ByteArray) : List Fld := [(sevB, s), (teamB, tB)]
abbrev alO (s : ByteArray) (lv : Int) : Al := ⟨promB, flO s, lv, 0, 0, 0⟩
abbrev mtO (s : ByteArray) : Mt := ⟨sevB, 0, s⟩
abbrev ihO (lv : Int) (bv fv wv : Value) : PIh := ⟨[teamB], lv, 0, [mtO hiB], [mtO loB], bv, fv, wv⟩
abbrev pdO (lv : Int) (bv fv wv : Value) : PD := ⟨[], [], [], [], [], [ihO lv bv fv wv]⟩
abbrev lsO (va vb : Value) : List (Al × Value) := [(alO hiB 5, va), (alO loB 0, vb)]
set_option maxRecDepth 1000000 in
theorem ids_two : decide (shortL (idB promB (flO hiB)) = shortL (idB promB (flO loB))) = false := by kernel_rfl
theorem fineO (s : ByteArray) (h : s.size ≤ 200) : fineM (mtO s) = true := by
 unfold fineM
 have h1 : nameL (B sevB) = true := by kernel_rfl
 show (nameL (B sevB) && decide ((0 : Int) ≤ 0) && decide ((0 : Int) ≤ 3) && decide (s.size ≤ 200) && (decide ((0 : Int) < 2) || _)) = true
 rw [h1, decide_eq_true h]; rfl
theorem fitO (s u : ByteArray) (h : u.size ≤ 200) (b : Bool) (he : (s.toList == u.toList) = b) : fitM (flO s) (mtO u) = b := by
 unfold fitM
 rw [fineO u h]
 have hv : valueF (flO s) (mtO u).nm = s := by
  unfold valueF
  have : ((flO s).find? fun f => f.1.toList == (mtO u).nm.toList) = some (sevB, s) := by
   rw [List.find?_cons]
   have : ((sevB : ByteArray).toList == (mtO u).nm.toList) = true := by kernel_rfl
   rw [this]
  rw [this]
 rw [hv]
 unfold opM
 rw [if_pos rfl]
 show (true && (s.toList == u.toList)) = b
 rw [he]; rfl
theorem checkO (lv : Int) (bv fv wv : Value) (h : rightL lv = true) : checkP (pdO lv bv fv wv) = 0 := by
 have hb : badIh (ihO lv bv fv wv) = false := by
  unfold badIh whenP
  have h1 : byP [teamB] = true := by kernel_rfl
  have h2 : plainT hiB = true := by kernel_rfl
  have h3 : plainT loB = true := by kernel_rfl
  show (!byP [teamB] || !rightL lv || !(([mtO hiB].all fun m => plainT m.val && fineM m) && decide ([mtO hiB].length ≤ 12)) || !(([mtO loB].all fun m => plainT m.val && fineM m) && decide ([mtO loB].length ≤ 12))) = false
  rw [h1, h]
  simp only [List.all_cons, List.all_nil, h2, h3, fineO hiB (by decide), fineO loB (by decide)]
  rfl
 unfold checkP
 have h1 : longP (pdO lv bv fv wv) = false := by kernel_rfl
 have h2 : namesP (pdO lv bv fv wv) = true := by
  show (namedP [] && namedP [] && namedP [] && namedP []) = true
  have : namedP [] = true := by kernel_rfl
  rw [this]; rfl
 have h3 : ((pdO lv bv fv wv).ih.any badIh) = false := by
  show ([ihO lv bv fv wv].any badIh) = false
  rw [List.any_cons, hb]; rfl
 rw [h1, h2, h3]
 rfl
theorem ruleO (lv : Int) (bv fv wv va vb : Value) : ruleQ [] (lsO va vb) (alO loB 0) (2, 0) 0 (ihO lv bv fv wv) = flowsL lv 0 2 0 := by
 have hc : cutAl [] (alO loB 0) (2, 0) = alO loB 0 := by
  rw [cutAl_yes (by kernel_rfl)]
  have hv : visL [] (flO loB) (0, 0) (2, 0) = flO loB := by kernel_rfl
  show (⟨promB, visL [] (flO loB) (0, 0) (2, 0), 0, 0, 0, 0⟩ : Al) = _
  rw [hv]
 have ha : allM (flO loB) [mtO loB] = true := by unfold allM; rw [List.all_cons, fitO loB loB (by decide) true (by kernel_rfl)]; rfl
 have hh : allM (flO hiB) [mtO hiB] = true := by unfold allM; rw [List.all_cons, fitO hiB hiB (by decide) true (by kernel_rfl)]; rfl
 have hl : alikeM [teamB] (flO hiB) (flO loB) = true := by kernel_rfl
 have hg : goodBy (ihO lv bv fv wv) (idA (alO loB 0)) (flO loB) (alO hiB 5) = true := by
  unfold goodBy
  show (allM (flO hiB) [mtO hiB] && alikeM [teamB] (flO hiB) (flO loB) && (shortL (idB promB (flO hiB)) != shortL (idB promB (flO loB)))) = true
  rw [hh, hl]
  have h2 := of_decide_eq_false ids_two
  rw [Bool.true_and, Bool.true_and, bne_iff_ne]
  exact h2
 have hgo : goesA 0 (alO hiB 5, va) = true := by
  show (rightA (alO hiB 5) && firesA (alO hiB 5) 0) = true
  have h1 : rightA (alO hiB 5) = true := by kernel_rfl
  rw [h1]; rfl
 unfold ruleQ
 rw [hc]
 have hby : byM (ihO lv bv fv wv) (lsO va vb) (idA (alO loB 0)) (flO loB) 0 = true := by
  unfold byM
  show (allM (flO loB) [mtO loB] && ((lsO va vb).filter (goesA 0)).any fun p => goodBy (ihO lv bv fv wv) (idA (alO loB 0)) (flO loB) p.1) = true
  rw [ha, Bool.true_and, List.filter_cons, if_pos hgo, List.any_cons, hg]
  rfl
 show (flowsL lv 0 2 0 && byM (ihO lv bv fv wv) (lsO va vb) (idA (alO loB 0)) (flO loB) 0) = _
 rw [hby, Bool.and_true]
theorem quietO (lv : Int) (bv fv wv va vb : Value) (h : rightL lv = true) (b : Bool) (hf : flowsL lv 0 2 0 = b) : quietK (pdO lv bv fv wv) (lsO va vb) 1 (2, 0) 0 = if b then [0] else [] := by
 have hk := quietK_at (p := pdO lv bv fv wv) (l := lsO va vb) (j := 1) (t := (2, 0)) (now := 0) (Nat.lt_add_one 1)
 rw [show ((1 : Nat) : Int) = 1 from rfl] at hk
 rw [hk]
 show quietX (pdO lv bv fv wv) (lsO va vb) (alO loB 0) (2, 0) 0 = _
 unfold quietX
 have h1 : rightA (alO loB 0) = true := by kernel_rfl
 have h2 : cutOk [] (flO loB) (0, 0) (2, 0) = true := by kernel_rfl
 rw [h1, checkO lv bv fv wv h]
 show (if (true && decide ((0 : Int) = 0) && cutOk [] (flO loB) (0, 0) (2, 0)) = true then idxF (ruleQ [] (lsO va vb) (alO loB 0) (2, 0) 0) [ihO lv bv fv wv] else []) = _
 rw [h2]
 show idxF (ruleQ [] (lsO va vb) (alO loB 0) (2, 0) 0) [ihO lv bv fv wv] = _
 unfold idxF
 show idxTo (ruleQ [] (lsO va vb) (alO loB 0) (2, 0) 0) [ihO lv bv fv wv] (0 + 1) = _
 rw [idxTo_step (k := 0) _ [ihO lv bv fv wv] (Nat.lt_add_one 0)]
 show [] ++ (if ruleQ [] (lsO va vb) (alO loB 0) (2, 0) 0 (ihO lv bv fv wv) = true then [((0 : Nat) : Int)] else []) = _
 rw [ruleO, hf]
 cases b <;> rfl
theorem toldO (va vb : Value) : idxF (toldA [] (2, 0) 0) (lsO va vb) = [1] := by
 have h1 : toldA [] (2, 0) 0 (alO hiB 5, va) = false := by
  show (cutOk [] (flO hiB) (5, 0) (2, 0) && rightA (alO hiB 5) && firesA (alO hiB 5) 0) = false
  have : cutOk [] (flO hiB) (5, 0) (2, 0) = false := by kernel_rfl
  rw [this]; rfl
 have h2 : toldA [] (2, 0) 0 (alO loB 0, vb) = true := by
  show (cutOk [] (flO loB) (0, 0) (2, 0) && rightA (alO loB 0) && firesA (alO loB 0) 0) = true
  have h3 : cutOk [] (flO loB) (0, 0) (2, 0) = true := by kernel_rfl
  have h4 : rightA (alO loB 0) = true := by kernel_rfl
  rw [h3, h4]; rfl
 unfold idxF
 show idxTo (toldA [] (2, 0) 0) (lsO va vb) (0 + 1 + 1) = _
 rw [idxTo_step (k := 0 + 1) _ (lsO va vb) (Nat.lt_add_one 1), idxTo_step (k := 0) _ (lsO va vb) (Nat.lt_of_lt_of_le (Nat.lt_add_one 0) (Nat.le_succ 1))]
 show ([] ++ (if toldA [] (2, 0) 0 (alO hiB 5, va) = true then [((0 : Nat) : Int)] else [])) ++ (if toldA [] (2, 0) 0 (alO loB 0, vb) = true then [((1 : Nat) : Int)] else []) = _
 rw [h1, h2]
 rfl
theorem leftO (lv : Int) (bv fv wv va vb : Value) (h : rightL lv = true) (b : Bool) (hf : flowsL lv 0 2 0 = b) : leftL (pdO lv bv fv wv) (lsO va vb) (2, 0) 0 = if b then [] else [1] := by
 unfold leftL
 rw [checkO lv bv fv wv h, if_pos rfl]
 show (idxF (toldA [] (2, 0) 0) (lsO va vb)).filter (fun k => !(hushK (pdO lv bv fv wv) (lsO va vb) (2, 0) 0 k)) = _
 rw [toldO, List.filter_cons]
 unfold hushK
 rw [quietO lv bv fv wv va vb h b hf]
 cases b <;> rfl
theorem bitO (lv : Int) (bv fv wv va vb : Value) (h : rightL lv = true) (hf : flowsL lv 0 2 0 = true) : bitX (pdO lv bv fv wv) (lsO va vb) (2, 0) 0 0 = true := by
 unfold bitX
 show ((idxF (toldA [] (2, 0) 0) (lsO va vb)).any fun k => (quietK (pdO lv bv fv wv) (lsO va vb) k (2, 0) 0).contains ((0 : Nat) : Int)) = true
 rw [toldO, List.any_cons, quietO lv bv fv wv va vb h true hf]
 rfl
end Go.Proofs.YtipnhpfpppblhaaGreat
/- lychgatelaw13.of, rules, lives: contracts. -/
namespace Go.Proofs.YtipnhpfpppblhaaGreat
open Go.RowKit
theorem fl_row {w : World} {b : Nat} {fl : List Fld} (hb : b < w.heap.size) (h : ∀ (j : Nat) (v : Value), (fldCells fl)[j]? = some v → w.cell? ⟨b, j, none⟩ = some v) : FldsAt w (.slice (some ⟨b, 0, none⟩) fl.length fl.length) fl :=
 RdAt.mk (fldCells_len fl) (Nat.le_refl _) hb (fun j x hj => by rw [Nat.zero_add]; exact h j x hj)
theorem alloc_row (w : World) (cs : List Value) (t : TypeId) (j : Nat) (v : Value) (h : cs[j]? = some v) : (w.alloc (.cells cs.toArray t)).cell? ⟨w.heap.size, j, none⟩ = some v := by
 have hc : (w.alloc (.cells cs.toArray t)).cell? ⟨w.heap.size, j, none⟩ = _ := World.cell?_alloc_at _ _ _ _ rfl
 rw [hc, List.getElem?_toArray]
 exact h
theorem alloc_facts (w : World) (cs : List Value) (t : TypeId) (W : World) (h : w.alloc (.cells cs.toArray t) = W) : W.heap.size = w.heap.size + 1 ∧ Below w.heap.size w W ∧ ∀ (j : Nat) (v : Value), cs[j]? = some v → W.cell? ⟨w.heap.size, j, none⟩ = some v := by
 subst h
 exact ⟨World.size_alloc _ _, alloc_below _ _, alloc_row w cs t⟩
set_option maxHeartbeats 1600000 in
set_option maxRecDepth 100000 in
theorem of13_any (s : ByteArray) (lv : Int) (w : World) :
  Calls Tryz.prog 24 #[.string s, .int .i64 lv] w fun e w' => ∃ b, e = .returned (.agg #[.string promB, .slice (some ⟨b, 0, none⟩) 2 2, .int .i64 lv, .int .u32 0, .int .i64 0, .int .i64 0]) ∧ FldsAt w' (.slice (some ⟨b, 0, none⟩) 2 2) (flO s) ∧ Below w.heap.size w w' := by
 obtain ⟨W1, hW1⟩ : ∃ z, w.alloc (.cells #[.string promB, .slice (some ⟨w.heap.size + 1, 0, none⟩) 2 2, .int .i64 lv, .int .u32 0, .int .i64 0, .int .i64 0] 54) = z := ⟨_, rfl⟩
 obtain ⟨s1, b1, c1⟩ := alloc_facts w [.string promB, .slice (some ⟨w.heap.size + 1, 0, none⟩) 2 2, .int .i64 lv, .int .u32 0, .int .i64 0, .int .i64 0] 54 W1 hW1
 obtain ⟨W2, hW2⟩ : ∃ z, W1.alloc (.cells #[.string sevB, .string s, .string teamB, .string tB] 90) = z := ⟨_, rfl⟩
 obtain ⟨s2, b2, c2⟩ := alloc_facts W1 [.string sevB, .string s, .string teamB, .string tB] 90 W2 hW2
 have hR : Hid (W2.rangeAt w.heap.size 0 [.string promB, .slice (some ⟨w.heap.size + 1, 0, none⟩) 2 2, .int .i64 lv, .int .u32 0, .int .i64 0, .int .i64 0]) := Lib.hid (fun j v hj => by rw [Nat.zero_add]; exact keep_cell (c1 j v hj) b2 (by show w.heap.size < W1.heap.size; omega))
 have hF : Hid (FldsAt W2 (.slice (some ⟨w.heap.size + 1, 0, none⟩) 2 2) (flO s)) := Lib.hid (by rw [← s1]; exact fl_row (fl := flO s) (by omega) (fun j v hj => c2 j v hj))
 have HB := Lib.hid (b1.trans (b2.mono b1.size))
 have HW1 := Lib.hid hW1
 have HW2 := Lib.hid hW2
 clear s1 b1 c1 s2 b2 c2 hW1 hW2
 go_enter Tryz.func24, Tryz.ntmps24
 go_wp2
 rw [HW1.out, HW2.out]
 refine bodyPost_ret (results_agg1 rfl _ _ w.heap.size [.string promB, .slice (some ⟨w.heap.size + 1, 0, none⟩) 2 2, .int .i64 lv, .int .u32 0, .int .i64 0, .int .i64 0] (.struct _) rfl hR.out Tryz.underlying54 rfl (by kernel_rfl)) rfl ?_
 exact ⟨_, rfl, hF.out, HB.out⟩
set_option maxHeartbeats 1600000 in
set_option maxRecDepth 100000 in
theorem rules13_any (lv : Int) (w : World) :
  Calls Tryz.prog 25 #[.int .i64 lv] w fun e w' => ∃ b bv fv wv, e = .returned (.agg #[.slice none 0 0, .slice none 0 0, .slice none 0 0, .slice none 0 0, .slice none 0 0, .slice (some ⟨b, 0, none⟩) 1 1]) ∧ PolAt w' ⟨.slice none 0 0, .slice none 0 0, .slice none 0 0, .slice none 0 0, .slice none 0 0, .slice (some ⟨b, 0, none⟩) 1 1⟩ (pdO lv bv fv wv) ∧ Below w.heap.size w w' := by
 obtain ⟨W1, hW1⟩ : ∃ z, w.alloc (.cells #[.slice none 0 0, .slice none 0 0, .slice none 0 0, .slice none 0 0, .slice none 0 0, .slice (some ⟨w.heap.size + 1 + 1 + 1 + 1, 0, none⟩) 1 1] 26) = z := ⟨_, rfl⟩
 obtain ⟨s1, b1, c1⟩ := alloc_facts w [.slice none 0 0, .slice none 0 0, .slice none 0 0, .slice none 0 0, .slice none 0 0, .slice (some ⟨w.heap.size + 1 + 1 + 1 + 1, 0, none⟩) 1 1] 26 W1 hW1
 obtain ⟨W2, hW2⟩ : ∃ z, W1.alloc (.cells #[.string teamB] 9) = z := ⟨_, rfl⟩
 obtain ⟨s2, b2, c2⟩ := alloc_facts W1 [.string teamB] 9 W2 hW2
 obtain ⟨W3, hW3⟩ : ∃ z, W2.alloc (.cells #[.string sevB, .int .i64 0, .string hiB] 92) = z := ⟨_, rfl⟩
 obtain ⟨s3, b3, c3⟩ := alloc_facts W2 [.string sevB, .int .i64 0, .string hiB] 92 W3 hW3
 obtain ⟨W4, hW4⟩ : ∃ z, W3.alloc (.cells #[.string sevB, .int .i64 0, .string loB] 92) = z := ⟨_, rfl⟩
 obtain ⟨s4, b4, c4⟩ := alloc_facts W3 [.string sevB, .int .i64 0, .string loB] 92 W4 hW4
 obtain ⟨W5, hW5⟩ : ∃ z, W4.alloc (.cells #[.slice (some ⟨w.heap.size + 1, 0, none⟩) 1 1, .int .i64 lv, .int .u32 0, .slice (some ⟨w.heap.size + 1 + 1, 0, none⟩) 1 1, .slice (some ⟨w.heap.size + 1 + 1 + 1, 0, none⟩) 1 1] 51) = z := ⟨_, rfl⟩
 obtain ⟨s5, b5, c5⟩ := alloc_facts W4 [.slice (some ⟨w.heap.size + 1, 0, none⟩) 1 1, .int .i64 lv, .int .u32 0, .slice (some ⟨w.heap.size + 1 + 1, 0, none⟩) 1 1, .slice (some ⟨w.heap.size + 1 + 1 + 1, 0, none⟩) 1 1] 51 W5 hW5
 have k45 : Below W4.heap.size W4 W5 := b5
 have k35 : Below W3.heap.size W3 W5 := b4.trans (k45.mono b4.size)
 have k25 : Below W2.heap.size W2 W5 := b3.trans (k35.mono b3.size)
 have k15 : Below W1.heap.size W1 W5 := b2.trans (k25.mono b2.size)
 have hR : Hid (W5.rangeAt w.heap.size 0 [.slice none 0 0, .slice none 0 0, .slice none 0 0, .slice none 0 0, .slice none 0 0, .slice (some ⟨w.heap.size + 1 + 1 + 1 + 1, 0, none⟩) 1 1]) := Lib.hid (fun j v hj => by rw [Nat.zero_add]; exact keep_cell (c1 j v hj) k15 (by show w.heap.size < W1.heap.size; omega))
 have hin : IhIn W5 (ihO lv (.slice (some ⟨w.heap.size + 1, 0, none⟩) 1 1) (.slice (some ⟨w.heap.size + 1 + 1, 0, none⟩) 1 1) (.slice (some ⟨w.heap.size + 1 + 1 + 1, 0, none⟩) 1 1)) := by
  refine ⟨?_, ?_, ?_⟩
  ·rw [← s1]
   exact RdAt.mk (xs := [teamB].map Value.string) rfl (Nat.le_refl _) (by omega) (fun j x hj => by rw [Nat.zero_add]; exact keep_cell (c2 j x hj) k25 (by show W1.heap.size < W2.heap.size; omega))
  ·rw [← s1, ← s2]
   exact RdAt.mk (xs := mtCells [mtO hiB]) rfl (Nat.le_refl _) (by omega) (fun j x hj => by rw [Nat.zero_add]; exact keep_cell (c3 j x hj) k35 (by show W2.heap.size < W3.heap.size; omega))
  ·rw [← s1, ← s2, ← s3]
   exact RdAt.mk (xs := mtCells [mtO loB]) rfl (Nat.le_refl _) (by omega) (fun j x hj => by rw [Nat.zero_add]; exact keep_cell (c4 j x hj) k45 (by show W3.heap.size < W4.heap.size; omega))
 have hP : Hid (PolAt W5 ⟨.slice none 0 0, .slice none 0 0, .slice none 0 0, .slice none 0 0, .slice none 0 0, .slice (some ⟨w.heap.size + 1 + 1 + 1 + 1, 0, none⟩) 1 1⟩ (pdO lv (.slice (some ⟨w.heap.size + 1, 0, none⟩) 1 1) (.slice (some ⟨w.heap.size + 1 + 1, 0, none⟩) 1 1) (.slice (some ⟨w.heap.size + 1 + 1 + 1, 0, none⟩) 1 1))) := Lib.hid (by
  refine ⟨RdAt.nil _ _, RdAt.nil _ _, RdAt.nil _ _, RdAt.nil _ _, ⟨RdAt.nil _ _, fun r hr => by cases hr⟩, ?_, fun x hx => by rw [List.mem_singleton.1 hx]; exact hin⟩
  show RdAt W5 (.slice (some ⟨w.heap.size + 1 + 1 + 1 + 1, 0, none⟩) 1 1) 1 5 (cellsG ihC [ihO lv (.slice (some ⟨w.heap.size + 1, 0, none⟩) 1 1) (.slice (some ⟨w.heap.size + 1 + 1, 0, none⟩) 1 1) (.slice (some ⟨w.heap.size + 1 + 1 + 1, 0, none⟩) 1 1)])
  have s4' : W4.heap.size = w.heap.size + 1 + 1 + 1 + 1 := by omega
  rw [← s4']
  exact RdAt.mk rfl (Nat.le_refl _) (by omega) (fun j x hj => by rw [Nat.zero_add]; exact c5 j x hj))
 have HB := Lib.hid (b1.trans (k15.mono b1.size))
 have HW1 := Lib.hid hW1
 have HW2 := Lib.hid hW2
 have HW3 := Lib.hid hW3
 have HW4 := Lib.hid hW4
 have HW5 := Lib.hid hW5
 clear s1 b1 c1 s2 b2 c2 s3 b3 c3 s4 b4 c4 s5 b5 c5 k45 k35 k25 k15 hin hW1 hW2 hW3 hW4 hW5
 go_enter Tryz.func25, Tryz.ntmps25
 go_wp2
 rw [HW1.out, HW2.out, HW3.out, HW4.out, HW5.out]
 refine bodyPost_ret (results_agg1 rfl _ _ w.heap.size [.slice none 0 0, .slice none 0 0, .slice none 0 0, .slice none 0 0, .slice none 0 0, .slice (some ⟨w.heap.size + 1 + 1 + 1 + 1, 0, none⟩) 1 1] (.struct _) rfl hR.out Tryz.underlying26 rfl (by kernel_rfl)) rfl ?_
 exact ⟨_, _, _, _, rfl, hP.out, HB.out⟩
theorem polO_fit (lv : Int) (bv fv wv : Value) : PolFitD (pdO lv bv fv wv) := by
 have hm : ∀ u : ByteArray, u.size ≤ 200 → MtsFit [mtO u] := fun u hu m hm => by rw [List.mem_singleton.1 hm]; exact ⟨by show sevB.size ≤ maxLen; decide, by unfold maxLen; show u.size ≤ _; omega⟩
 have hw : NmdWide [] := ⟨Nat.zero_le _, fun x hx => (by cases hx), fun x hx => (by cases hx)⟩
 refine ⟨hw, hw, hw, hw, Nat.zero_le _, fun r hr => (by cases hr), by show 1 ≤ maxLen; decide, fun x hx => ?_⟩
 rw [List.mem_singleton.1 hx]
 exact ⟨⟨by show 1 ≤ maxLen; decide, fun x hx => by rw [List.mem_singleton.1 hx]; decide⟩, (by show 0 < 4294967296; decide), hm hiB (by decide), hm loB (by decide), (by show 1 ≤ maxLen; decide), (by show 1 ≤ maxLen; decide)⟩
theorem lsO_fit {w : World} {ba bb b : Nat} (ha : FldsAt w (.slice (some ⟨ba, 0, none⟩) 2 2) (flO hiB)) (hb : FldsAt w (.slice (some ⟨bb, 0, none⟩) 2 2) (flO loB)) (hl : b < w.heap.size)
  (hc : ∀ (j : Nat) (v : Value), (alCells (lsO (.slice (some ⟨ba, 0, none⟩) 2 2) (.slice (some ⟨bb, 0, none⟩) 2 2)))[j]? = some v → w.cell? ⟨b, j, none⟩ = some v) :
  AlsAt w (.slice (some ⟨b, 0, none⟩) 2 2) (lsO (.slice (some ⟨ba, 0, none⟩) 2 2) (.slice (some ⟨bb, 0, none⟩) 2 2)) := by
 have ff : ∀ s : ByteArray, s.size ≤ 100 → FldsFit (flO s) := fun s hs f hf => by
  rcases List.mem_cons.1 hf with rfl | hf
  ·exact ⟨by show sevB.size ≤ maxLen; decide, by unfold maxLen; show s.size ≤ _; omega⟩
  ·rw [List.mem_singleton.1 hf]; exact ⟨by decide, by decide⟩
 refine ⟨RdAt.mk (alCells_len _) (Nat.le_refl _) hl (fun j x hj => by rw [Nat.zero_add]; exact hc j x hj), fun p hp => ?_⟩
 rcases List.mem_cons.1 hp with rfl | hp
 ·exact ⟨ha, by show promB.size ≤ maxLen; decide, ff _ (by decide), by show 2 ≤ maxLen; decide, by show 0 < 4294967296; decide⟩
 ·rw [List.mem_singleton.1 hp]
  exact ⟨hb, by show promB.size ≤ maxLen; decide, ff _ (by decide), by show 2 ≤ maxLen; decide, by show 0 < 4294967296; decide⟩
set_option maxHeartbeats 3200000 in
set_option maxRecDepth 100000 in
theorem lives_any (w : World) : Calls Tryz.prog 9 #[] w fun e w' => e = .returned (.bool true) ∧ Below w.heap.size w w' := by
 have k1 := of13_any hiB 5 w
 go_enter Tryz.func9, Tryz.ntmps9
 go_wp2_with fail
 refine k1.mono ?_
 rintro e w1 ⟨ba, rfl, hFa, hb1⟩
 clear k1
 have k2 := of13_any loB 0 w1
 have HFa := Lib.hid hFa
 have HB1 := Lib.hid hb1
 clear hFa hb1
 go_wp2_with fail
 refine k2.mono ?_
 rintro e w2 ⟨bb, rfl, hFb, hb2⟩
 obtain ⟨W3, hW3⟩ : ∃ z, w2.alloc (.cells #[.string promB, .slice (some ⟨ba, 0, none⟩) 2 2, .int .i64 5, .int .u32 0, .int .i64 0, .int .i64 0, .string promB, .slice (some ⟨bb, 0, none⟩) 2 2, .int .i64 0, .int .u32 0, .int .i64 0, .int .i64 0] 54) = z := ⟨_, rfl⟩
 obtain ⟨s3, b3, c3⟩ := alloc_facts w2 [.string promB, .slice (some ⟨ba, 0, none⟩) 2 2, .int .i64 5, .int .u32 0, .int .i64 0, .int .i64 0, .string promB, .slice (some ⟨bb, 0, none⟩) 2 2, .int .i64 0, .int .u32 0, .int .i64 0, .int .i64 0] 54 W3 hW3
 have HA3 := Lib.hid (lsO_fit ((HFa.out.later hb2).later b3) (hFb.later b3) (b := w2.heap.size) (by omega) (fun j v hj => c3 j v hj))
 have HB3 := Lib.hid ((HB1.out.trans (hb2.mono HB1.out.size)).trans (b3.mono (Nat.le_trans HB1.out.size hb2.size)))
 have HW3 := Lib.hid hW3
 clear k2 hFb hb2 s3 b3 c3 hW3 HFa HB1
 go_upto_region 2 with fail
 rw [HW3.out]
 clear HW3
 have h12 : ∀ q ∈ lsO (.slice (some ⟨ba, 0, none⟩) 2 2) (.slice (some ⟨bb, 0, none⟩) 2 2), q.1.fl.length ≤ 12 := fun q hq => by
  rcases List.mem_cons.1 hq with rfl | hq
  ·show 2 ≤ 12; decide
  ·rw [List.mem_singleton.1 hq]; show 2 ≤ 12; decide
 have H12 := Lib.hid h12
 clear h12
 generalize w2.heap.size = bl at *
 have k4 := rules13_any 1 W3
 go_wp2_with fail
 refine k4.mono ?_
 rintro e w4 ⟨g4, bv, fv, wv, rfl, hP, hb4⟩
 have HA4 := Lib.hid (HA3.out.later hb4)
 have HB4 := Lib.hid (HB3.out.trans (hb4.mono HB3.out.size))
 have k5 := ileft_any _ _ _ _ 2 0 0 w4 hP (polO_fit _ _ _ _) HA4.out (by show 2 ≤ 1000000; decide) H12.out
 rw [leftO 1 bv fv wv _ _ (by decide) true (by decide)] at k5
 unfold PV.v at k5
 dsimp only at k5
 clear k4 hP hb4 HA3 HB3
 go_wp2_with fail
 refine k5.mono ?_
 rintro e w5 ⟨r1, rfl, hI1, hb5⟩
 obtain ⟨xa, xc, hx1, _, _⟩ := RdAt.shape hI1
 have HX1 := Lib.hid hx1
 have HA5 := Lib.hid (HA4.out.later hb5)
 have HB5 := Lib.hid (HB4.out.trans (hb5.mono HB4.out.size))
 clear k5 hb5 HA4 HB4 hI1 hx1
 have k6 := rules13_any 3 w5
 go_wp2_with fail
 refine k6.mono ?_
 rintro e w6 ⟨g6, bv6, fv6, wv6, rfl, hP, hb6⟩
 have HA6 := Lib.hid (HA5.out.later hb6)
 have HB6 := Lib.hid (HB5.out.trans (hb6.mono HB5.out.size))
 have k7 := ileft_any _ _ _ _ 2 0 0 w6 hP (polO_fit _ _ _ _) HA6.out (by show 2 ≤ 1000000; decide) H12.out
 rw [leftO 3 bv6 fv6 wv6 _ _ (by decide) false (by decide)] at k7
 unfold PV.v at k7
 dsimp only at k7
 clear k6 hP hb6 HA5 HB5
 go_wp2_with fail
 refine k7.mono ?_
 rintro e w7 ⟨r2, rfl, hI2, hb7⟩
 have HA7 := Lib.hid (HA6.out.later hb7)
 have HB7 := Lib.hid (HB6.out.trans (hb7.mono HB6.out.size))
 obtain ⟨xb, xo, xc2, rfl, _, hyl, hyc⟩ := hI2.cells (by simp)
 have y0 := hyc 0 1 rfl
 rw [Nat.add_zero] at y0
 obtain rfl := HX1.out
 clear k7 hb7 HA6 HB6 hI2 hyc hyl HX1
 have k8 := rules13_any 1 w7
 go_wp2_with fail
 refine k8.mono ?_
 rintro e w8 ⟨g8, bv8, fv8, wv8, rfl, hP, hb8⟩
 have HA8 := Lib.hid (HA7.out.later hb8)
 have HB8 := Lib.hid (HB7.out.trans (hb8.mono HB7.out.size))
 have k9 := ibits_any _ _ _ _ 2 0 0 w8 hP (polO_fit _ _ _ _) HA8.out (by show 2 ≤ 1000000; decide) H12.out (by show 1 ≤ 14; decide)
 unfold PV.v at k9
 dsimp only at k9
 have hbit := bitO 1 bv8 fv8 wv8 (.slice (some ⟨ba, 0, none⟩) 2 2) (.slice (some ⟨bb, 0, none⟩) 2 2) (by decide) (by decide)
 have HBIT := Lib.hid hbit
 clear k8 hP hb8 HA7 HB7 y0 hbit
 go_wp2_with fail
 refine k9.mono ?_
 rintro e w9 ⟨r3, rfl, hBs, hb9⟩
 obtain ⟨gb, rfl, hrow⟩ := hBs
 have z0 : w9.cell? ⟨gb, 0, none⟩ = some (.bool true) := by rw [← HBIT.out]; exact hrow.cell (i := 0) (by show 0 < 1; decide)
 have HA9 := Lib.hid (HA8.out.later hb9)
 have HB9 := Lib.hid (HB8.out.trans (hb9.mono HB8.out.size))
 clear k9 hb9 HA8 HB8 hrow HBIT
 have k10 := rules13_any 1 w9
 go_wp2_with fail
 refine k10.mono ?_
 rintro e w10 ⟨g10, bv10, fv10, wv10, rfl, hP, hb10⟩
 have HA10 := Lib.hid (HA9.out.later hb10)
 have HB10 := Lib.hid (HB9.out.trans (hb10.mono HB9.out.size))
 have k11 := iquiet_any _ _ _ _ 1 2 0 0 w10 hP (polO_fit _ _ _ _) HA10.out (by show 2 ≤ maxLen; decide)
 rw [quietO 1 bv10 fv10 wv10 _ _ (by decide) true (by decide)] at k11
 unfold PV.v at k11
 dsimp only at k11
 clear k10 hP hb10 HA9 HB9 z0
 go_wp2_with fail
 refine k11.mono ?_
 rintro e w11 ⟨r4, rfl, hI4, hb11⟩
 have hrs := RdAt.shape (RdAt.own hI4)
 obtain ⟨xa4, xc4, rfl, _, _⟩ := hrs
 have HB11 := Lib.hid (HB10.out.trans (hb11.mono HB10.out.size))
 clear k11 hb11 hI4
 go_wp2
 go_ret
 exact ⟨rfl, HB11.out⟩
end Go.Proofs.YtipnhpfpppblhaaGreat
/- The first so many alerts, as both have them: what is carried. -/
namespace Go.Proofs.YtipnhpfpppblhaaGreat
open Go.RowKit
def cutA (x : Al) : Al := { x with fl := x.fl.take 12 }
theorem cutA_fit {x : Al} (h : AlFit x) : AlFit (cutA x) := ⟨h.src, fun f hf => h.fl f (List.mem_of_mem_take hf), Nat.le_trans (List.length_take_le' _ _) h.len, h.c⟩
theorem cut_fld {w : World} {v : Value} {fl : List Fld} (h : FldsAt w v fl) : ∃ a n c, v = .slice a n c ∧ n = fl.length ∧ n ≤ c ∧ FldsAt w (.slice a (min n 12) c) (fl.take 12) := by
 obtain ⟨a, c, rfl, hc, hr⟩ := RdAt.shape h
 refine ⟨a, _, c, rfl, rfl, hc, ?_⟩
 have := fld_take h (min fl.length 12) (by omega) (fun ha => by
  rcases Nat.eq_zero_or_pos fl.length with h0 | h0
  ·exact h0
  ·obtain ⟨_, _, h1, _⟩ := hr h0
   rw [ha] at h1; cases h1)
 have e : fl.take (min fl.length 12) = fl.take 12 := by
  rcases Nat.le_total fl.length 12 with h1 | h1
  ·rw [Nat.min_eq_left h1, List.take_of_length_le h1, List.take_length]
  ·rw [Nat.min_eq_right h1]
 rw [e] at this
 exact this
theorem alC_snoc (l : List (Al × Value)) (x : Al) (v : Value) : alCells (l ++ [(x, v)]) = alCells l ++ alC x v := by
 induction l with
 | nil => simp [alCells]
 | cons p l ih => simp [alCells, ih]
theorem alC_cells (l : List (Al × Value)) (h : ∀ p ∈ l, p.2.oneCell' = true) : ∀ y ∈ alCells l, y.oneCell' = true := by
 induction l with
 | nil => intro y hy; cases hy
 | cons p l ih =>
  intro y hy
  rcases List.mem_append.1 hy with h1 | h1
  ·simp only [alC, List.mem_cons, List.mem_nil_iff, or_false] at h1
   rcases h1 with rfl | rfl | rfl | rfl | rfl | rfl
   ·rfl
   ·exact h p List.mem_cons_self
   all_goals rfl
  ·exact ih (fun q hq => h q (List.mem_cons_of_mem _ hq)) y h1
theorem info_al : (Tryz.prog.info? 54).map (fun i => (i.zero, i.size, i.bytes)) = some (some (.agg #[.string ⟨#[]⟩, .slice none 0 0, .int .i64 0, .int .u32 0, .int .i64 0, .int .i64 0]), 6, 72) := by kernel_rfl
theorem info_ral : (Tryz.prog.info? 58).map (fun i => (i.zero, i.size, i.bytes)) = some (some (.agg #[.string ⟨#[]⟩, .slice none 0 0, .int .i64 0, .int .u32 0, .int .i64 0, .int .i64 0]), 6, 72) := by kernel_rfl
structure FewAt (w : World) (l0 : List (Al × Value)) (vo vd : Value) (k : Nat) (wr : World) : Prop where
 b : Below w.heap.size w wr
 mem : ∃ l1 : List (Al × Value), l1.length = k ∧ wr.ownsRow w.heap.size 54 6 vo k (alCells l1) ∧ wr.ownsRow w.heap.size 58 6 vd k (alCells l1) ∧ (vo.ownBlock = none ∨ vo.ownBlock ≠ vd.ownBlock) ∧
  l1.map (·.1) = (l0.take k).map (fun p => cutA p.1) ∧ ∀ p ∈ l1, FldsAt w p.2 p.1.fl ∧ AlFit p.1 ∧ p.2.oneCell' = true
theorem row6 (W : World) (a b c d e f : Value) (t : TypeId) : RdAt (W.alloc (.cells #[a, b, c, d, e, f] t)) (.slice (some ⟨W.heap.size, 0, none⟩) 1 1) 1 6 [a, b, c, d, e, f] :=
 RdAt.mk rfl (Nat.le_refl _) (by rw [World.size_alloc]; omega) (fun j x hj => by
  have hc : (W.alloc (.cells #[a, b, c, d, e, f] t)).cell? ⟨W.heap.size, j, none⟩ = _ := World.cell?_alloc_at _ _ _ _ rfl
  rw [Nat.zero_add, hc, ← Array.getElem?_toList]
  exact hj)
theorem alc6 (W : World) (a b c d e f : Value) (t : TypeId) : C6 W.heap.size a b c d e f (W.alloc (.cells #[a, b, c, d, e, f] t)) := by
 have hc : ∀ (i : Nat), (W.alloc (.cells #[a, b, c, d, e, f] t)).cell? ⟨W.heap.size, i, none⟩ = _ := fun i => World.cell?_alloc_at _ _ _ _ rfl
 exact ⟨hc 0, hc 1, hc 2, hc 3, hc 4, hc 5⟩
theorem C6.grown {p : Nat} {a b c d e f : Value} {W W' : World} {row : Option Nat} (h : C6 p a b c d e f W) (hg : W.grownBy W' row) (hne : some p ≠ row) : C6 p a b c d e f W' := by
 obtain ⟨h0, h1, h2, h3, h4, h5⟩ := h
 exact ⟨hg.cell h0 hne, hg.cell h1 hne, hg.cell h2 hne, hg.cell h3 hne, hg.cell h4 hne, hg.cell h5 hne⟩
theorem all6 {a b c d e f : Value} (ha : a.oneCell' = true) (hb : b.oneCell' = true) (hc : c.oneCell' = true) (hd : d.oneCell' = true) (he : e.oneCell' = true) (hf : f.oneCell' = true) : ∀ y ∈ [a, b, c, d, e, f], y.oneCell' = true := by
 intro y hy
 simp only [List.mem_cons, List.mem_nil_iff, or_false] at hy
 rcases hy with rfl | rfl | rfl | rfl | rfl | rfl <;> assumption
end Go.Proofs.YtipnhpfpppblhaaGreat
/- lychgatelaw13.few: a contract. -/
namespace Go.Proofs.YtipnhpfpppblhaaGreat
open Go.RowKit
set_option maxHeartbeats 3200000 in
set_option maxRecDepth 100000 in
theorem few13_any (l : List (Al × Value)) (v : Value) (w : World) (hl : AlsAt w v l) (hn : l.length ≤ maxLen) :
  Calls Tryz.prog 11 #[v] w fun e w' => ∃ v1 v2 l1, e = .returned (.tuple #[v1, v2]) ∧ Below w.heap.size w w' ∧ AlsAt w' v1 l1 ∧ AlsAt w' v2 l1 ∧ l1.map (·.1) = (l.take 10).map (fun p => cutA p.1) := by
 unfold maxLen at hn
 have hfld := hl.fld
 obtain ⟨la, lc, rfl, hlc, hlr⟩ := RdAt.shape hl.row
 have HLR := Lib.hid hlr
 have HFL := Lib.hid hfld
 obtain ⟨i0, hi, hz0, hz1, hz2⟩ := info_parts info_al
 obtain ⟨j0, hj, jz0, jz1, jz2⟩ := info_parts info_ral
 have HI := Lib.hid (And.intro hi (And.intro hz0 (And.intro hz1 hz2)))
 have HJ := Lib.hid (And.intro hj (And.intro jz0 (And.intro jz1 jz2)))
 clear hl hlr hfld hi hz0 hz1 hz2 hj jz0 jz1 jz2
 go_enter Tryz.func11, Tryz.ntmps11
 go_upto_region 4 with fail
 go_loopw [4, 5, 6, 7] (fun vo vd vi _ wr => ∃ k : Nat, k ≤ l.length ∧ k ≤ 10 ∧ vi = .int .i64 k ∧ Hid (FewAt w l vo vd k wr)) (fun _ _ vi _ _ => l.length - (intOf vi).toNat)
 case atStart => exact ⟨0, Nat.zero_le _, Nat.zero_le _, rfl, Lib.hid ⟨Below.refl _ _, [], rfl, World.ownsRow_nil _ _ _ _, World.ownsRow_nil _ _ _ _, .inl rfl, rfl, fun p hp => by cases hp⟩⟩
 case round =>
  obtain ⟨k, hk, hk10, rfl, HF⟩ := hrel
  by_cases hkl : k < l.length ∧ k < 10
  ·obtain ⟨hkl, hkt⟩ := hkl
   obtain ⟨b, o, rfl, hbl, hcell⟩ := HLR.out (by omega)
   have hat := alCells_at l k hkl
   have hbr := HF.out.b
   have q0 := keep_cell (hcell _ _ (hat 0 _ rfl)) hbr hbl
   have q1 := keep_cell (hcell _ _ (hat 1 _ rfl)) hbr hbl
   have q2 := keep_cell (hcell _ _ (hat 2 _ rfl)) hbr hbl
   have q3 := keep_cell (hcell _ _ (hat 3 _ rfl)) hbr hbl
   have q4 := keep_cell (hcell _ _ (hat 4 _ rfl)) hbr hbl
   have q5 := keep_cell (hcell _ _ (hat 5 _ rfl)) hbr hbl
   rw [Nat.add_zero] at q0
   rw [← Nat.add_assoc] at q1 q2 q3 q4 q5
   obtain ⟨hfk, hfitk⟩ := HFL.out _ (List.getElem_mem hkl)
   obtain ⟨va, vn, vc, hsh, hvn, hvc, hcut⟩ := cut_fld hfk
   rw [hsh] at q1
   have HLK : Hid (l[k].1 = l[k].1) := Lib.hid rfl
   obtain ⟨A, hA⟩ : ∃ A, l[k].1 = A := ⟨_, rfl⟩
   rw [hA] at q0 q2 q3 q4 q5 hcut hfitk hvn
   have HA := Lib.hid hA
   have HCU := Lib.hid hcut
   have HFI := Lib.hid hfitk
   obtain ⟨src, fls, alv, ac, afr, atil⟩ := A
   dsimp only at q0 q2 q3 q4 q5 hvn
   have hvl : vn ≤ 9223372036854775807 := by have := hfitk.len; unfold maxLen at this; dsimp only at this; omega
   have hk0 : (0 : Int) ≤ (k : Int) := by omega
   have hk1 : (k : Int) < (l.length : Int) := by omega
   have hm0 : (0 : Int) ≤ min (vn : Int) 12 := by omega
   have hm1 : min (vn : Int) 12 ≤ (vn : Int) := by omega
   have hm2 : min (vn : Int) 12 ≤ (vc : Int) := by omega
   clear hcell hat hfk hA hcut hfitk hsh HLK hvn hbr
   go_upto_region 8 with fail
   have hmm : (min (vn : Int) 12).toNat = min vn 12 := by omega
   rw [hmm]
   generalize min vn 12 = m at *
   obtain ⟨hb, l1, hl1, ho, hd, hne, hmap, hfl⟩ := HF.out
   have hbase := hb.size
   have x6 := alc6 wr (.string src) (.slice va m vc) (.int .i64 alv) (.int .u32 ac) (.int .i64 afr) (.int .i64 atil) 58
   have hb1 := hb.alloc hb.size (.cells #[.string src, .slice va m vc, .int .i64 alv, .int .u32 ac, .int .i64 afr, .int .i64 atil] 58)
   have ho1 := ho.alloc (.cells #[.string src, .slice va m vc, .int .i64 alv, .int .u32 ac, .int .i64 afr, .int .i64 atil] 58)
   have hd1 := hd.alloc (.cells #[.string src, .slice va m vc, .int .i64 alv, .int .u32 ac, .int .i64 afr, .int .i64 atil] 58)
   have hs1 := World.size_alloc wr (.cells #[.string src, .slice va m vc, .int .i64 alv, .int .u32 ac, .int .i64 afr, .int .i64 atil] 58)
   have hdl := hd.lt
   have hol := ho.lt
   generalize wr.alloc (.cells #[.string src, .slice va m vc, .int .i64 alv, .int .u32 ac, .int .i64 afr, .int .i64 atil] 58) = W1 at *
   have hd2 := hd1.alloc (.cells #[.string src, .slice va m vc, .int .i64 alv, .int .u32 ac, .int .i64 afr, .int .i64 atil] 58)
   have ho2 := ho1.alloc (.cells #[.string src, .slice va m vc, .int .i64 alv, .int .u32 ac, .int .i64 afr, .int .i64 atil] 58)
   have hr2 := row6 W1 (.string src) (.slice va m vc) (.int .i64 alv) (.int .u32 ac) (.int .i64 afr) (.int .i64 atil) 58
   have hb2 := hb1.alloc hb1.size (.cells #[.string src, .slice va m vc, .int .i64 alv, .int .u32 ac, .int .i64 afr, .int .i64 atil] 58)
   have hs2 := World.size_alloc W1 (.cells #[.string src, .slice va m vc, .int .i64 alv, .int .u32 ac, .int .i64 afr, .int .i64 atil] 58)
   have hx6 : Hid (C6 wr.heap.size _ _ _ _ _ _ _) := Lib.hid (x6.later (alloc_below W1 (.cells #[.string src, .slice va m vc, .int .i64 alv, .int .u32 ac, .int .i64 afr, .int .i64 atil] 58)) (by omega))
   obtain ⟨x0, x1, x2, x3, x4, x5⟩ := x6
   obtain ⟨hi, hz0, hz1, hz2⟩ := HI.out
   obtain ⟨hj, jz0, jz1, jz2⟩ := HJ.out
   have h1s := all6 (a := .string src) (b := .slice va m vc) (c := .int .i64 alv) (d := .int .u32 ac) (e := .int .i64 afr) (f := .int .i64 atil) rfl rfl rfl rfl rfl rfl
   have P1 := Lib.hid (And.intro hd2 (And.intro hr2 (And.intro hb2 (And.intro ho2 (And.intro hb1 (And.intro ho1 (And.intro hdl hol)))))))
   have P2 := Lib.hid (And.intro hl1 (And.intro hne (And.intro hmap hfl)))
   have P3 := Lib.hid (And.intro hs1 (And.intro hs2 hbase))
   clear hd2 hr2 hb2 ho2 hb1 ho1 hdl hol hl1 hne hmap hfl hs1 hs2 hbase ho hd hd1 hb HF
   go_upto_region 9 with (at_builtin; (refine wpList_append_rd2 rfl (.tmp 30) (.tmp 32) 27 rfl w.heap.size 58 j0 (.agg #[.string ⟨#[]⟩, .slice none 0 0, .int .i64 0, .int .u32 0, .int .i64 0, .int .i64 0]) 6 72 Tryz.underlying27 hj jz0 jz1 jz2 rfl (by decide) _ k (alCells l1) rfl P1.out.1 _ 1 [.string src, .slice va m vc, .int .i64 alv, .int .u32 ac, .int .i64 afr, .int .i64 atil] rfl P1.out.2.1 h1s (by unfold maxLen; omega) (by omega) (by have := P3.out; omega) ?_); intro vd' W3 hown' hgrow' hcase')
   obtain ⟨_, hr2, hb2, ho2, hb1, ho1, hdl, hol⟩ := P1.out
   obtain ⟨hl1, hne, hmap, hfl⟩ := P2.out
   obtain ⟨hs1, hs2, hbase⟩ := P3.out
   have X3 := hx6.out.grown hgrow' (fun e => by have := (hdl _ e.symm).2; omega)
   have ho3 := ho2.kept hgrow' hne
   have hb3 := hb2.grown hgrow' hb2.size (fun j hj => (hdl j hj).1)
   have hz3 := hgrow'.size
   have hne3 : u4.ownBlock = none ∨ u4.ownBlock ≠ vd'.ownBlock := by
    rcases hcase' with h | h
    ·rw [h]; exact hne
    ·right
     intro e
     rw [h] at e
     have := (hol _ e).2
     omega
   have hd4 := hown'.alloc (.cells #[.string src, .slice va m vc, .int .i64 alv, .int .u32 ac, .int .i64 afr, .int .i64 atil] 54)
   have ho4 := ho3.alloc (.cells #[.string src, .slice va m vc, .int .i64 alv, .int .u32 ac, .int .i64 afr, .int .i64 atil] 54)
   have hr4 := row6 W3 (.string src) (.slice va m vc) (.int .i64 alv) (.int .u32 ac) (.int .i64 afr) (.int .i64 atil) 54
   have hb4 := hb3.alloc hb3.size (.cells #[.string src, .slice va m vc, .int .i64 alv, .int .u32 ac, .int .i64 afr, .int .i64 atil] 54)
   have hs4 := World.size_alloc W3 (.cells #[.string src, .slice va m vc, .int .i64 alv, .int .u32 ac, .int .i64 afr, .int .i64 atil] 54)
   have hvl := hown'.lt
   obtain ⟨y0, y1, y2, y3, y4, y5⟩ := X3
   have Q1 := Lib.hid (And.intro ho4 (And.intro hr4 (And.intro hb4 (And.intro hd4 (And.intro hvl hol)))))
   have Q2 := Lib.hid (And.intro hl1 (And.intro hne3 (And.intro hmap hfl)))
   have Q3 := Lib.hid (And.intro hs4 hb3.size)
   clear hr2 hb2 ho2 hb1 ho1 hdl hol hl1 hne hmap hfl hs1 hs2 hbase ho3 hb3 hz3 hne3 hd4 ho4 hr4 hb4 hs4 hvl hown' hgrow' hcase' P1 P2 P3 hx6 x0 x1 x2 x3 x4 x5
   go_wp2_with (at_builtin; (refine wpList_append_rd2 rfl (.tmp 34) (.tmp 46) 31 rfl w.heap.size 54 i0 (.agg #[.string ⟨#[]⟩, .slice none 0 0, .int .i64 0, .int .u32 0, .int .i64 0, .int .i64 0]) 6 72 Tryz.underlying31 hi hz0 hz1 hz2 rfl (by decide) _ k (alCells l1) rfl Q1.out.1 _ 1 [.string src, .slice va m vc, .int .i64 alv, .int .u32 ac, .int .i64 afr, .int .i64 atil] rfl Q1.out.2.1 h1s (by unfold maxLen; omega) (by omega) (by have := Q3.out; omega) ?_); intro vo' W5 hown5 hgrow5 hcase5)
   have HN : Hid (FewAt w l vo' vd' (k + 1) W5) := by
    obtain ⟨ho4, hr4, hb4, hd4, hvl, hol⟩ := Q1.out
    obtain ⟨hl1, hne3, hmap, hfl⟩ := Q2.out
    obtain ⟨hs4, hb3s⟩ := Q3.out
    refine Lib.hid ⟨hb4.grown hgrow5 hb4.size (fun j hj => (hol j hj).1), l1 ++ [(cutA l[k].1, .slice va m vc)], by rw [List.length_append, hl1]; rfl, ?_, ?_, ?_, ?_, ?_⟩
    ·rw [alC_snoc]; unfold alC cutA; rw [HA.out]; exact hown5
    ·rw [alC_snoc]; unfold alC cutA; rw [HA.out]
     exact hd4.kept (row := u4.ownBlock) hgrow5 (by
      rcases hne3 with h | h
      ·rw [h]
       cases hvb : vd'.ownBlock with
       | none => exact .inl rfl
       | some g => right; simp
      ·exact .inr (Ne.symm h))
    ·rcases hcase5 with h | h
     ·rw [show vo'.ownBlock = u4.ownBlock from h]; exact hne3
     ·right
      intro e
      rw [h] at e
      have := (hvl _ e.symm).2
      omega
    ·rw [List.map_append, hmap, List.take_succ_eq_append_getElem hkl, List.map_append]; rfl
    ·intro p hp
     rcases List.mem_append.1 hp with h | h
     ·exact hfl p h
     ·rw [List.mem_singleton.1 h]
      refine ⟨?_, cutA_fit (by rw [HA.out]; exact HFI.out), rfl⟩
      unfold cutA; rw [HA.out]; exact HCU.out
   clear Q1 Q2 Q3 hown5 hgrow5 hcase5 y0 y1 y2 y3 y4 y5
   go_roundw
   case rel => exact ⟨k + 1, by omega, by omega, by go_num, HN⟩
   case measure => (simp [intOf]; try omega)
  ·have hfin : Hid (∃ l1, AlsAt wr u4 l1 ∧ AlsAt wr u5 l1 ∧ l1.map (·.1) = (l.take 10).map (fun p => cutA p.1)) := by
    obtain ⟨hb, l1, hl1, ho, hd, hne, hmap, hfl⟩ := HF.out
    have e : l.take k = l.take 10 := by
     rcases Nat.lt_or_ge k l.length with h | h
     ·rw [show k = 10 by omega]
     ·rw [List.take_of_length_le h, List.take_of_length_le (by omega)]
    rw [e] at hmap
    subst hl1
    exact Lib.hid ⟨l1, ⟨RdAt.own ho, fun p hp => ⟨(hfl p hp).1.later hb, (hfl p hp).2.1⟩⟩, ⟨RdAt.own hd, fun p hp => ⟨(hfl p hp).1.later hb, (hfl p hp).2.1⟩⟩, hmap⟩
   rcases (show k = l.length ∨ (k < l.length ∧ k = 10) by omega) with h | ⟨h, h'⟩
   ·obtain rfl := h
    go_wp2
    go_ret2
    obtain ⟨l1, a1, a2, a3⟩ := hfin.out
    exact ⟨_, _, l1, rfl, HF.out.b, a1, a2, a3⟩
   ·obtain rfl := h'
    have h12 : (10 : Int) < (l.length : Int) := by omega
    go_wp2
    go_ret2
    obtain ⟨l1, a1, a2, a3⟩ := hfin.out
    exact ⟨_, _, l1, rfl, HF.out.b, a1, a2, a3⟩
end Go.Proofs.YtipnhpfpppblhaaGreat
/- InhibitMore, plainly: more alerts make no fewer quiet; one alone isn't made quiet; parts of a list of alerts. -/
namespace Go.Proofs.YtipnhpfpppblhaaGreat
open Go.RowKit
theorem idxTo_mem {α : Type} {f : α → Bool} {l : List α} {k : Nat} {x : Int} : x ∈ idxTo f l k ↔ ∃ i : Nat, i < k ∧ x = (i : Int) ∧ ∃ h : i < l.length, f l[i] = true := by
 unfold idxTo
 rw [List.mem_map]
 constructor
 ·rintro ⟨i, hi, rfl⟩
  obtain ⟨h1, h2⟩ := List.mem_filter.1 hi
  have h3 := List.mem_range.1 h1
  by_cases hl : i < l.length
  ·rw [List.getElem?_eq_getElem hl] at h2
   exact ⟨i, h3, rfl, hl, by simpa using h2⟩
  ·rw [List.getElem?_eq_none (by omega)] at h2
   simp at h2
 ·rintro ⟨i, h1, rfl, h2, h3⟩
  exact ⟨i, List.mem_filter.2 ⟨List.mem_range.2 h1, by rw [List.getElem?_eq_getElem h2]; simpa using h3⟩, rfl⟩
theorem idxF_mem {α : Type} {f : α → Bool} {l : List α} {x : Int} : x ∈ idxF f l ↔ ∃ (i : Nat) (h : i < l.length), x = (i : Int) ∧ f l[i] = true := by
 unfold idxF
 rw [idxTo_mem]
 constructor
 ·rintro ⟨i, _, e, h, hf⟩; exact ⟨i, h, e, hf⟩
 ·rintro ⟨i, h, e, hf⟩; exact ⟨i, h, e, h, hf⟩
theorem left_len (p : PD) (l : List (Al × Value)) (t : Int × Nat) (now : Int) : (leftL p l t now).length ≤ l.length := by
 unfold leftL
 split
 ·exact Nat.le_trans (List.length_filter_le _ _) (idxTo_len _ _ _)
 ·exact Nat.zero_le _
end Go.Proofs.YtipnhpfpppblhaaGreat
/- InhibitTimes, InhibitLow, InhibitBits, InhibitRules, plainly. -/
namespace Go.Proofs.YtipnhpfpppblhaaGreat
open Go.RowKit
/-! what is left, said at its members -/
theorem left_mem {p : PD} {l : List (Al × Value)} {t : Int × Nat} {now : Int} {y : Int} (h : y ∈ leftL p l t now) :
  ∃ (j : Nat) (hj : j < l.length), y = (j : Int) ∧ toldA p.ra t now l[j] = true ∧ quietK p l (j : Int) t now = [] := by
 unfold leftL at h
 split at h
 ·obtain ⟨h1, h2⟩ := List.mem_filter.1 h
  obtain ⟨i, hi, rfl, hf⟩ := idxF_mem.1 h1
  refine ⟨i, hi, rfl, hf, ?_⟩
  unfold hushK at h2
  simp only [Bool.not_eq_true', decide_eq_false_iff_not, Nat.not_lt, Nat.le_zero_eq, List.length_eq_zero_iff] at h2
  exact h2
 ·cases h
theorem idxTo_filter_len {α : Type} (f : α → Bool) (l : List α) (g : Int → Bool) (h : α → Bool) (hg : ∀ (i : Nat) (hi : i < l.length), g (i : Int) = h l[i]) (k : Nat) (hk : k ≤ l.length) :
  ((idxTo f l k).filter g).length = ((l.take k).filter fun a => f a && h a).length := by
 induction k with
 | zero => simp [idxTo]
 | succ k ih =>
  have hkl : k < l.length := hk
  rw [idxTo_step f l hkl, List.filter_append, List.length_append, ih (by omega), List.take_succ_eq_append_getElem hkl, List.filter_append, List.length_append]
  congr 1
  cases hf : f l[k]
  ·simp [hf]
  ·simp only [if_true, List.filter_cons, List.filter_nil, hg k hkl, hf, Bool.true_and]
   cases h l[k] <;> rfl
theorem idxF_filter_len {α : Type} (f : α → Bool) (l : List α) (g : Int → Bool) (h : α → Bool) (hg : ∀ (i : Nat) (hi : i < l.length), g (i : Int) = h l[i]) :
  ((idxF f l).filter g).length = (l.filter fun a => f a && h a).length := by
 have := idxTo_filter_len f l g h hg l.length (Nat.le_refl _)
 rw [List.take_length] at this
 exact this
def fireF (now : Int) (q : Al × Value) : Bool := firesA q.1 now
theorem byM_fire (x : PIh) (l : List (Al × Value)) (id : Int) (c : List Fld) (now : Int) : byM x (l.filter (fireF now)) id c now = byM x l id c now := by
 unfold byM
 rw [List.filter_filter]
 have : (fun a => goesA now a && fireF now a) = goesA now := by
  funext a
  unfold goesA fireF
  cases rightA a.1 <;> cases firesA a.1 now <;> rfl
 rw [this]
theorem quietX_fire (p : PD) (l : List (Al × Value)) (a : Al) (t : Int × Nat) (now : Int) : quietX p (l.filter (fireF now)) a t now = quietX p l a t now := by
 unfold quietX
 have : ruleQ p.ra (l.filter (fireF now)) a t now = ruleQ p.ra l a t now := by
  funext x
  unfold ruleQ
  rw [byM_fire]
 rw [this]
theorem left_count (p : PD) (l : List (Al × Value)) (t : Int × Nat) (now : Int) (X : Al → List Int) (hX : ∀ a, X a = quietX p l a t now) :
  (leftL p l t now).length = if checkP p = 0 then (l.filter fun (a : Al × Value) => toldA p.ra t now a && !(decide (0 < (X a.1).length))).length else 0 := by
 unfold leftL
 split
 ·refine idxF_filter_len _ _ _ (fun (a : Al × Value) => !(decide (0 < (X a.1).length))) (fun i hi => ?_)
  unfold hushK
  rw [quietK_at hi, hX]
 ·rfl
theorem left_fire (p : PD) (l : List (Al × Value)) (t : Int × Nat) (now : Int) : (leftL p (l.filter (fireF now)) t now).length = (leftL p l t now).length := by
 rw [left_count p l t now (fun a => quietX p l a t now) (fun _ => rfl), left_count p (l.filter (fireF now)) t now (fun a => quietX p l a t now) (fun a => (quietX_fire p l a t now).symm)]
 split
 ·rw [List.filter_filter]
  congr 2
  funext a
  unfold toldA fireF
  cases firesA a.1 now <;> simp
 ·rfl
/-! where no rule is known -/
theorem idxF_none {α : Type} {f : α → Bool} {l : List α} (h : ∀ a ∈ l, f a = false) : idxF f l = [] := by
 rw [List.eq_nil_iff_forall_not_mem]
 intro x hx
 obtain ⟨i, hi, _, hf⟩ := idxF_mem.1 hx
 rw [h _ (List.getElem_mem hi)] at hf
 cases hf
theorem quietK_low {p : PD} {l : List (Al × Value)} {t : Int × Nat} {now : Int} (h : ∀ x ∈ p.ih, flowsL x.lv x.c t.1 t.2 = false) (k : Int) : quietK p l k t now = [] := by
 unfold quietK
 split
 ·split
  ·unfold quietX
   split
   ·exact idxF_none (fun a ha => by unfold ruleQ; rw [h a ha]; rfl)
   ·rfl
  ·rfl
 ·rfl
theorem left_low {p : PD} {l : List (Al × Value)} {t : Int × Nat} {now : Int} (h : ∀ x ∈ p.ih, flowsL x.lv x.c t.1 t.2 = false) : leftL p l t now = idxF (fun a => toldA p.ra t now a && decide (checkP p = 0)) l := by
 unfold leftL
 split
 ·rename_i hc
  rw [List.filter_eq_self.2 (fun k _ => by unfold hushK; rw [quietK_low h]; rfl)]
  congr 1
  funext a
  rw [decide_eq_true hc, Bool.and_true]
 ·rename_i hc
  exact (idxF_none (fun a _ => by rw [decide_eq_false hc, Bool.and_false])).symm
/-! one beside that isn't seen -/
theorem idxTo_same {α : Type} {f : α → Bool} {l l' : List α} {k : Nat} (hk : k ≤ l.length) (hk' : k ≤ l'.length) (h : ∀ i (h1 : i < l.length) (h2 : i < l'.length), i < k → f l[i] = f l'[i]) : idxTo f l k = idxTo f l' k := by
 induction k with
 | zero => rfl
 | succ k ih =>
  rw [idxTo_step f l hk, idxTo_step f l' hk', ih (by omega) (by omega) (fun i h1 h2 hi => h i h1 h2 (by omega)), h k hk hk' (Nat.lt_add_one k)]
theorem idxF_beside {α : Type} {f : α → Bool} (l : List α) {a : α} (h : f a = false) : idxF f (l ++ [a]) = idxF f l := by
 unfold idxF
 rw [List.length_append, show [a].length = 1 from rfl, idxTo_step (k := l.length) f (l ++ [a]) (by simp)]
 have : (l ++ [a])[l.length]'(by simp) = a := by simp
 rw [this, h]
 simp only [Bool.false_eq_true, if_false, List.append_nil]
 exact idxTo_same (by simp) (Nat.le_refl _) (fun i h1 h2 _ => by rw [List.getElem_append_left h2])
theorem left_beside {p : PD} {l : List (Al × Value)} {a : Al × Value} {t : Int × Nat} {now : Int} (h : cutOk p.ra a.1.fl (a.1.lv, a.1.c) t = false) (hq : ∀ k : Nat, k < l.length → quietK p l (k : Int) t now = quietK p (l ++ [a]) (k : Int) t now) :
  leftL p l t now = leftL p (l ++ [a]) t now := by
 unfold leftL
 split
 ·rw [idxF_beside l (by unfold toldA; rw [h]; rfl)]
  refine List.filter_congr (fun x hx => ?_)
  obtain ⟨i, hi, rfl, _⟩ := idxF_mem.1 hx
  unfold hushK
  rw [hq i hi]
 ·rfl
/-! rules that are known, of a policy without Raises -/
theorem visL_nil13 (gl : List Fld) (f t : Int × Nat) : visL [] gl f t = if flowsL f.1 f.2 t.1 t.2 then gl else [] := by
 have h : ∀ x, seesL [] f t x = flowsL f.1 f.2 t.1 t.2 := fun x => rfl
 unfold visL
 rw [show seesL [] f t = (fun _ => flowsL f.1 f.2 t.1 t.2) from funext h]
 cases flowsL f.1 f.2 t.1 t.2 <;> simp
theorem cutOk_nil13 (gl : List Fld) (f t : Int × Nat) : cutOk [] gl f t = (decide (0 < gl.length) && flowsL f.1 f.2 t.1 t.2) := by
 unfold cutOk
 rw [visL_nil13]
 cases flowsL f.1 f.2 t.1 t.2 <;> simp
theorem flowsL_trans13 {l : Int} {c : Nat} {m : Int} {d : Nat} {n : Int} {e : Nat} (h1 : flowsL l c m d = true) (h2 : flowsL m d n e = true) : flowsL l c n e = true := by
 unfold flowsL at *
 simp only [Bool.and_eq_true, decide_eq_true_eq] at *
 obtain ⟨⟨⟨a1, a2⟩, a3⟩, a4⟩ := h1
 obtain ⟨⟨⟨b1, b2⟩, b3⟩, b4⟩ := h2
 refine ⟨⟨⟨a1, b2⟩, by omega⟩, ?_⟩
 unfold subB at *
 rw [List.all_eq_true] at *
 intro k hk
 have ha := a4 k hk
 have hb := b4 k hk
 cases hc : c.testBit k <;> cases hd : d.testBit k <;> simp_all
theorem cut_nil_eq {x : Al} {t : Int × Nat} (h : cutOk [] x.fl (x.lv, x.c) t = true) : cutAl [] x t = x := by
 rw [cutAl_yes h]
 rw [cutOk_nil13, Bool.and_eq_true] at h
 rw [visL_nil13, if_pos h.2]
theorem cut_up {x : Al} {t u : Int × Nat} (hf : flowsL t.1 t.2 u.1 u.2 = true) (h : cutOk [] x.fl (x.lv, x.c) t = true) : cutOk [] x.fl (x.lv, x.c) u = true := by
 rw [cutOk_nil13, Bool.and_eq_true] at h ⊢
 exact ⟨h.1, flowsL_trans13 h.2 hf⟩
theorem quietK_mem {p : PD} {l : List (Al × Value)} {k : Int} {t : Int × Nat} {now : Int} {x : Int} : x ∈ quietK p l k t now ↔ ∃ (j i : Nat) (hj : j < l.length) (hi : i < p.ih.length), k = (j : Int) ∧ x = (i : Int) ∧ rightA l[j].1 = true ∧ checkP p = 0 ∧ cutOk p.ra l[j].1.fl (l[j].1.lv, l[j].1.c) t = true ∧ ruleQ p.ra l l[j].1 t now p.ih[i] = true := by
 constructor
 ·intro h
  have h0 : 0 ≤ k := by
   apply Classical.byContradiction
   intro hk
   rw [quietK_neg (by omega)] at h
   cases h
  have h1 : k < (l.length : Int) := by
   apply Classical.byContradiction
   intro hk
   rw [quietK_far (by omega)] at h
   cases h
  obtain ⟨j, rfl⟩ : ∃ j : Nat, k = (j : Int) := ⟨k.toNat, by omega⟩
  have hj : j < l.length := by omega
  rw [quietK_at hj] at h
  unfold quietX at h
  split at h
  ·rename_i hc
   simp only [Bool.and_eq_true, decide_eq_true_eq] at hc
   obtain ⟨i, hi, rfl, hf⟩ := idxF_mem.1 h
   exact ⟨j, i, hj, hi, rfl, rfl, hc.1.1, hc.1.2, hc.2, hf⟩
  ·cases h
 ·rintro ⟨j, i, hj, hi, rfl, rfl, h1, h2, h3, h4⟩
  rw [quietK_at hj]
  unfold quietX
  rw [if_pos (by simp [h1, h2, h3])]
  exact idxF_mem.2 ⟨i, hi, rfl, h4⟩
theorem bit_mem {p : PD} {l : List (Al × Value)} {t : Int × Nat} {now : Int} {i : Nat} : bitX p l t now i = true ↔ ∃ (j : Nat) (hj : j < l.length) (hi : i < p.ih.length), rightA l[j].1 = true ∧ firesA l[j].1 now = true ∧ checkP p = 0 ∧ cutOk p.ra l[j].1.fl (l[j].1.lv, l[j].1.c) t = true ∧ ruleQ p.ra l l[j].1 t now p.ih[i] = true := by
 unfold bitX
 rw [List.any_eq_true]
 constructor
 ·rintro ⟨k, hk, hc⟩
  obtain ⟨j, hj, rfl, hf⟩ := idxF_mem.1 hk
  obtain ⟨j', i', hj', hi', e1, e2, h1, h2, h3, h4⟩ := quietK_mem.1 (List.contains_iff_mem.1 hc)
  obtain rfl : j' = j := by omega
  obtain rfl : i' = i := by omega
  unfold toldA at hf
  simp only [Bool.and_eq_true] at hf
  exact ⟨j', hj, hi', h1, hf.2, h2, h3, h4⟩
 ·rintro ⟨j, hj, hi, h1, h2, h3, h4, h5⟩
  refine ⟨(j : Int), idxF_mem.2 ⟨j, hj, rfl, by unfold toldA; simp [h1, h2, h4]⟩, List.contains_iff_mem.2 (quietK_mem.2 ⟨j, i, hj, hi, rfl, rfl, h1, h3, h4, h5⟩)⟩
noncomputable def someTo (p : PD) (l : List (Al × Value)) (t : Int × Nat) (now : Int) (i : Nat) (n : Nat) : Bool := (l.take n).zipIdx.any fun q => (quietK p l (q.2 : Int) t now).contains (i : Int) && firesA q.1.1 now
theorem someTo_step {p : PD} {l : List (Al × Value)} {t : Int × Nat} {now : Int} {i n : Nat} (h : n < l.length) : someTo p l t now i (n + 1) = (someTo p l t now i n || ((quietK p l (n : Int) t now).contains (i : Int) && firesA l[n].1 now)) := by
 unfold someTo
 rw [List.take_succ_eq_append_getElem h, List.zipIdx_append, List.any_append]
 congr 1
 simp [List.length_take, Nat.min_eq_left (Nat.le_of_lt h)]
theorem some_bit (p : PD) (l : List (Al × Value)) (t : Int × Nat) (now : Int) (i : Nat) : someTo p l t now i l.length = bitX p l t now i := by
 rw [Bool.eq_iff_iff, bit_mem]
 unfold someTo
 rw [List.take_length, List.any_eq_true]
 constructor
 ·rintro ⟨⟨a, j⟩, hm, hc⟩
  rw [List.mk_mem_zipIdx_iff_getElem?] at hm
  obtain ⟨hj, rfl⟩ := List.getElem?_eq_some_iff.1 hm
  rw [Bool.and_eq_true] at hc
  obtain ⟨j', i', hj', hi', e1, e2, h1, h2, h3, h4⟩ := quietK_mem.1 (List.contains_iff_mem.1 hc.1)
  obtain rfl : j' = j := by have : ((j : Nat) : Int) = (j' : Int) := e1; omega
  obtain rfl : i' = i := by omega
  exact ⟨j', hj, hi', h1, hc.2, h2, h3, h4⟩
 ·rintro ⟨j, hj, hi, h1, h2, h3, h4, h5⟩
  refine ⟨(l[j], j), (List.mk_mem_zipIdx_iff_getElem?).2 (List.getElem?_eq_getElem hj), ?_⟩
  rw [Bool.and_eq_true]
  exact ⟨List.contains_iff_mem.2 (quietK_mem.2 ⟨j, i, hj, hi, rfl, rfl, h1, h3, h4, h5⟩), h2⟩
theorem bit_flows {p : PD} {l : List (Al × Value)} {t : Int × Nat} {now : Int} {i : Nat} (hi : i < p.ih.length) (h : bitX p l t now i = true) : flowsL (p.ih[i]).lv (p.ih[i]).c t.1 t.2 = true := by
 obtain ⟨_, _, _, _, _, _, _, h5⟩ := bit_mem.1 h
 unfold ruleQ at h5
 rw [Bool.and_eq_true] at h5
 exact h5.1
theorem bit_up {p : PD} {l : List (Al × Value)} {t u : Int × Nat} {now : Int} {i : Nat} (hra : p.ra = []) (hf : flowsL t.1 t.2 u.1 u.2 = true) (h : bitX p l t now i = true) : bitX p l u now i = true := by
 obtain ⟨j, hj, hi, h1, h2, h3, h4, h5⟩ := bit_mem.1 h
 rw [hra] at h4 h5
 refine bit_mem.2 ⟨j, hj, hi, h1, h2, h3, by rw [hra]; exact cut_up hf h4, ?_⟩
 rw [hra]
 unfold ruleQ at h5 ⊢
 rw [Bool.and_eq_true] at h5 ⊢
 rw [cut_nil_eq h4] at h5
 rw [cut_nil_eq (cut_up hf h4)]
 exact ⟨flowsL_trans13 h5.1 hf, h5.2⟩
end Go.Proofs.YtipnhpfpppblhaaGreat
/- Arguments that are rows of alerts. -/
namespace Go.Proofs.YtipnhpfpppblhaaGreat
open Go.RowKit Go.WideShapes Go.ChangeShapes Go.Deep
theorem alCells_eq (l : List (Al × Value)) : alCells l = cellsG (fun p : Al × Value => alC p.1 p.2) l := by
 induction l with
 | nil => rfl
 | cons x l ih => simp only [alCells, cellsG, ih]
instance : Inhabited (Al × Value) := ⟨(⟨⟨#[]⟩, [], 0, 0, 0, 0⟩, undef)⟩
set_option maxRecDepth 100000 in
theorem alsG_of_trod {H : Type} {enc : TypeId × Value → H} {W : World} {n : Nat} {v : Value} {x : DataW H × List MemPlace} (h : DataW.trod enc Tryz.prog W 0 (fun _ => true) true n 27 [v] = some x) : ∃ l, AlsAt W v l ∧ l.length ≤ maxLen := by
 have hci : Tryz.prog.cellsOf 3 = 1 := by kernel_rfl
 have hcs : Tryz.prog.cellsOf 9 = 1 := by kernel_rfl
 have hcl : Tryz.prog.cellsOf 36 = 2 := by kernel_rfl
 have hcf : Tryz.prog.cellsOf 52 = 1 := by kernel_rfl
 obtain ⟨l, a, c, hv, h1, h2, h3, h4⟩ := rows_of_trod (fun p : Al × Value => alC p.1 p.2) 6 (fun _ => rfl) (by decide) Tryz.underlying27 Tryz.underlying58 (by kernel_rfl) (fun p => FldsAt W p.2 p.1.fl ∧ AlFit p.1) (fun es n hlen hfs => by
  match es, hlen with
  | [e0, e1, e2, e3, e4, e5], _ =>
   obtain ⟨y0, t0⟩ := hfs 0 _ rfl
   obtain ⟨y1, t1⟩ := hfs 1 _ rfl
   obtain ⟨y2, t2⟩ := hfs 2 _ rfl
   obtain ⟨y3, t3⟩ := hfs 3 _ rfl
   obtain ⟨y4, t4⟩ := hfs 4 _ rfl
   obtain ⟨s0, q0, _, z0⟩ := DataW.trod_string Tryz.underlying9 t0
   obtain ⟨k3, q3, _, _⟩ := DataW.trod_int Tryz.underlying3 t3
   obtain ⟨k4, q4, _, _⟩ := DataW.trod_int Tryz.underlying3 t4
   simp [hcs] at q0
   simp [hci] at q3 q4
   subst q0 q3 q4
   have t1' : DataW.trod enc Tryz.prog W 0 (fun _ => true) true n 52 [e1] = some y1 := by simpa [hcf] using t1
   have t2' : DataW.trod enc Tryz.prog W 0 (fun _ => true) true n 36 [e2, e3] = some y2 := by simpa [hcl] using t2
   obtain ⟨fl, f1, f2, f3⟩ := flds_of_trod t1'
   obtain ⟨lv, c, r1, r2, hc⟩ := lab_of_trod t2'
   subst r1 r2
   exact ⟨(⟨s0, fl, lv, c, k3, k4⟩, e1), rfl, f1, ⟨z0, f3, f2, hc⟩⟩) h
 exact ⟨l, ⟨by rw [alCells_eq]; exact h3, h4⟩, Nat.le_trans h1 h2⟩
def ArgAls (w : World) (v : Value) (l : List (Al × Value)) : Prop := AlsAt w v l ∧ l.length ≤ maxLen
set_option maxRecDepth 100000 in
theorem alsG_of_arg {H : Type} {enc : TypeId × Value → H} {W : World} {base : Nat} {v : Value} {d : DataW H} {p : List MemPlace} (hval : Value.okWide Tryz.prog W .any base 27 v) (h : DataW.Trod enc Tryz.prog W 0 (fun _ => true) true 27 v d p) : ∃ l, ArgAls W v l := by
 obtain ⟨a, n, c, rfl⟩ := okWide_slice Tryz.underlying27 hval
 obtain ⟨fuel, hf⟩ := h
 exact alsG_of_trod hf
end Go.Proofs.YtipnhpfpppblhaaGreat
