/- AlertMerges: the walk. -/
import Derived.Test.YtnmgfmmjdiephaaAlMerge
import Derived.Test.YtnmgfmmjdiephaaMergeLaw
import Derived.Test.YtnmgfmmjdiephaaPolArgs
import Derived.Test.YtnmgfmmjdiephaaAlBack
import Derived.Test.YtnmgfmmjdiephaaHeldT
namespace Go.Proofs.Ytnmgfmmjdiephaa
open Go.RowKit Go.Maps

theorem held_three {P : Program} {ops : Array Oper} {Q : Exit → Act → World → Prop} {md : Region.Mode} {S : World → Prop} {i j k : Nat} {oi oj ok : Oper} {fuel : Nat} {listed : Array Bool} {a : Act} {w : World} (hi : ops[i]? = some oi) (hj : ops[j]? = some oj) (hk : ops[k]? = some ok) (hr : Region.ready md ops listed = [i, j, k])
    (h : ∀ K' : Act → World → Prop, Shut (∀ a w, S w → (S w → wpAnyH P md ops Q S fuel (listed.setIfInBounds i true) a w) → K' a w) → if Region.wanted oi (yielded ops a.tmps) = true then Oper.wp P oi a w K' Q else K' (a.put oi.dst undef) w)
    (h' : ∀ K' : Act → World → Prop, Shut (∀ a w, S w → (S w → wpAnyH P md ops Q S fuel (listed.setIfInBounds j true) a w) → K' a w) → if Region.wanted oj (yielded ops a.tmps) = true then Oper.wp P oj a w K' Q else K' (a.put oj.dst undef) w)
    (h'' : ∀ K' : Act → World → Prop, Shut (∀ a w, S w → (S w → wpAnyH P md ops Q S fuel (listed.setIfInBounds k true) a w) → K' a w) → if Region.wanted ok (yielded ops a.tmps) = true then Oper.wp P ok a w K' Q else K' (a.put ok.dst undef) w) : wpAnyH P md ops Q S (fuel + 1) listed a w :=
  wpAnyH_ready hr (by simp) (AllReadyH.cons hi h (AllReadyH.cons hj h' (AllReadyH.cons hk h'' AllReadyH.nil)))
theorem merge_row {x y : Al} (hs : x.src = y.src) (hf : x.fl = y.fl) : mergeA y x = mergeA x y := by
  unfold mergeA
  simp only [hs, hf, joinL_comm (x.lv, x.c) (y.lv, y.c), mTil_comm x.til y.til, Int.min_comm x.fr y.fr]
theorem merge_it {x : Al} (h : rightL x.lv = true) (hc : x.c < 4294967296) : mergeA x x = x := by
  unfold mergeA
  simp only [joinL_self (a := (x.lv, x.c)) h hc, mTil_self, Int.min_self]
theorem merges_law {src : ByteArray} {L : List Fld} {lv1 : Int} {c1 : Nat} {fr1 til1 lv2 : Int} {c2 : Nat} {fr2 til2 : Int} (h1 : rightA ⟨src, L, lv1, c1, fr1, til1⟩ = true) (h2 : rightA ⟨src, L, lv2, c2, fr2, til2⟩ = true) (hc1 : c1 < 4294967296) :
    ∃ (lm : Int) (cm : Nat) (fm tm : Int), mergeOk ⟨src, L, lv1, c1, fr1, til1⟩ ⟨src, L, lv2, c2, fr2, til2⟩ = true ∧ mergeOk ⟨src, L, lv2, c2, fr2, til2⟩ ⟨src, L, lv1, c1, fr1, til1⟩ = true ∧ mergeOk ⟨src, L, lv1, c1, fr1, til1⟩ ⟨src, L, lv1, c1, fr1, til1⟩ = true ∧
      mergeA ⟨src, L, lv1, c1, fr1, til1⟩ ⟨src, L, lv2, c2, fr2, til2⟩ = ⟨src, L, lm, cm, fm, tm⟩ ∧ mergeA ⟨src, L, lv2, c2, fr2, til2⟩ ⟨src, L, lv1, c1, fr1, til1⟩ = ⟨src, L, lm, cm, fm, tm⟩ ∧ mergeA ⟨src, L, lv1, c1, fr1, til1⟩ ⟨src, L, lv1, c1, fr1, til1⟩ = ⟨src, L, lv1, c1, fr1, til1⟩ ∧
      rightA ⟨src, L, lm, cm, fm, tm⟩ = true ∧ flowsL lv1 c1 lm cm = true ∧ flowsL lv2 c2 lm cm = true ∧ cm < 4294967296 ∧ ∀ now, (firesA ⟨src, L, lv1, c1, fr1, til1⟩ now || firesA ⟨src, L, lv2, c2, fr2, til2⟩ now) = true → firesA ⟨src, L, lm, cm, fm, tm⟩ now = true := by
  have hl1 := (rightA_parts h1).2.2.2.1
  have hl2 := (rightA_parts h2).2.2.2.1
  have hid : idA ⟨src, L, lv1, c1, fr1, til1⟩ = idA ⟨src, L, lv2, c2, fr2, til2⟩ := rfl
  have q1 := merge_row (x := ⟨src, L, lv1, c1, fr1, til1⟩) (y := ⟨src, L, lv2, c2, fr2, til2⟩) rfl rfl
  have q2 := merge_it (x := ⟨src, L, lv1, c1, fr1, til1⟩) hl1 hc1
  have q3 := merge_right h1 h2
  have q4 := join_flows (a := (lv1, c1)) (b := (lv2, c2)) hl1 hl2
  have q5 := join_flows' (a := (lv1, c1)) (b := (lv2, c2)) hl1 hl2
  have q6 := (joinL_right (lv1, c1) (lv2, c2)).2
  have q7 : ∀ now, (firesA ⟨src, L, lv1, c1, fr1, til1⟩ now || firesA ⟨src, L, lv2, c2, fr2, til2⟩ now) = true → firesA (mergeA ⟨src, L, lv1, c1, fr1, til1⟩ ⟨src, L, lv2, c2, fr2, til2⟩) now = true := fun now h => merge_fires now h
  have q8 : mergeA ⟨src, L, lv1, c1, fr1, til1⟩ ⟨src, L, lv2, c2, fr2, til2⟩ = ⟨src, L, (joinL (lv1, c1) (lv2, c2)).1, (joinL (lv1, c1) (lv2, c2)).2, min fr1 fr2, mTil til1 til2⟩ := rfl
  rw [q8] at q1 q3 q7
  refine ⟨(joinL (lv1, c1) (lv2, c2)).1, (joinL (lv1, c1) (lv2, c2)).2, min fr1 fr2, mTil til1 til2, ?_, ?_, ?_, q8, q1, q2, q3, q4, q5, q6, q7⟩
  · unfold mergeOk; rw [h1, h2, hid]; simp
  · unfold mergeOk; rw [h1, h2, hid]; simp
  · unfold mergeOk; rw [h1]; simp
theorem fires_as (src : ByteArray) (L : List Fld) (a : Option Addr) (n m : Nat) (lv : Int) (c : Nat) (fr til now : Int) (b : Bool) (hb : firesA ⟨src, L, lv, c, fr, til⟩ now = b) (w : World) :
    Calls Try.prog 24 #[.agg #[.string src, .slice a n m, .int .i64 lv, .int .u32 c, .int .i64 fr, .int .i64 til], .int .i64 now] w fun e w' => e = .returned (.bool b) ∧ Below w.heap.size w w' := by
  have h := fires_any src a n m lv c fr til now w
  rw [show (decide (fr ≤ now) && (decide (til = 0) || decide (now < til))) = b from hb] at h
  exact h
theorem merge_as (x y m : Al) (v u : Value) (w : World) (hx : AlFit x) (hy : AlFit y) (hv : FldsAt w v x.fl) (hu : FldsAt w u y.fl) (hok : mergeOk x y = true) (hm : mergeA x y = m) :
    Calls Try.prog 32 #[AlV x v, AlV y u] w fun e w' => ∃ pa pc, e = .returned (.tuple #[AlV m (.slice pa m.fl.length pc), .bool true]) ∧ FldsAt w' (.slice pa m.fl.length pc) m.fl ∧ Below w.heap.size w w' := by
  refine (amerge_any x y v u w hx hy hv hu).mono ?_
  rintro e w' ⟨v', rfl, h1, h2⟩
  have hf : m.fl = x.fl := by rw [← hm]; rfl
  obtain ⟨pa, pc, rfl, _, _⟩ := RdAt.shape h1
  rw [hok, hf]
  exact ⟨pa, pc, by rw [← hm]; rfl, h1, h2⟩
theorem good_again (src : ByteArray) (L : List Fld) (v : Value) (lv : Int) (c : Nat) (fr til : Int) (w : World) (hs : src.size ≤ maxLen) (hS : gSrc src = src) (hG : goodF L = L) (hp : 0 < L.length) (hl : L.length ≤ 12) (hv : FldsAt w v L) (hfit : FldsFit L) :
    Calls Try.prog 25 #[.agg #[.string src, v, .int .i64 lv, .int .u32 c, .int .i64 fr, .int .i64 til]] w fun e w' =>
      ∃ ua uc, e = .returned (.tuple #[.agg #[.string src, .slice ua L.length uc, .int .i64 (gLv lv), .int .u32 c, .int .i64 (gFr fr), .int .i64 (gTil fr til)], .bool true]) ∧ FldsAt w' (.slice ua L.length uc) L ∧ Below w.heap.size w w' := by
  refine (rgood9_any src L v lv c fr til w hs hv hfit (by unfold maxLen; omega)).mono ?_
  rintro e w' ⟨v', rfl, h1, _, _, h2⟩
  rw [hG] at h1 ⊢
  obtain ⟨ua, uc, rfl, _, _⟩ := RdAt.shape h1
  exact ⟨ua, uc, by rw [hS, decide_eq_true hp], h1, h2⟩
/-- what the walk carries: the numbers, the label -/
structure MGt (w : World) (n0 n1 n2 ll : Int) (lc : Nat) (W : World) : Prop where
  t0 : W.cell? ⟨w.heap.size + 1, 0, none⟩ = some (.int .i64 n0)
  t1 : W.cell? ⟨w.heap.size + 1, 1, none⟩ = some (.int .i64 n1)
  t2 : W.cell? ⟨w.heap.size + 1, 2, none⟩ = some (.int .i64 n2)
  l0 : W.cell? ⟨w.heap.size + 1 + 1, 0, none⟩ = some (.int .i64 ll)
  l1 : W.cell? ⟨w.heap.size + 1 + 1, 1, none⟩ = some (.int .u32 lc)
  ge : w.heap.size + 1 + 1 < W.heap.size
  below : Below w.heap.size w W
theorem MGt.later {w W W' : World} {n0 n1 n2 ll : Int} {lc : Nat} (h : MGt w n0 n1 n2 ll lc W) (hb : Below W.heap.size W W') : MGt w n0 n1 n2 ll lc W' := by
  have h1 := h.ge
  exact ⟨keep_cell h.t0 hb (by omega), keep_cell h.t1 hb (by omega), keep_cell h.t2 hb (by omega), keep_cell h.l0 hb h1, keep_cell h.l1 hb h1, Nat.lt_of_lt_of_le h1 hb.size, h.below.trans (hb.mono h.below.size)⟩
/-- a box with an alert, and its fields -/
structure ABx (g : Nat) (src : ByteArray) (L : List Fld) (a : Option Addr) (m : Nat) (lv : Int) (c : Nat) (fr til : Int) (W : World) : Prop where
  x : C6 g (.string src) (.slice a L.length m) (.int .i64 lv) (.int .u32 c) (.int .i64 fr) (.int .i64 til) W
  lt : g < W.heap.size
  f : FldsAt W (.slice a L.length m) L
theorem ABx.later {g : Nat} {src : ByteArray} {L : List Fld} {a : Option Addr} {m : Nat} {lv : Int} {c : Nat} {fr til : Int} {W W' : World} (h : ABx g src L a m lv c fr til W) (hb : Below W.heap.size W W') : ABx g src L a m lv c fr til W' :=
  ⟨h.x.later hb h.lt, Nat.lt_of_lt_of_le h.lt hb.size, h.f.later hb⟩
theorem abx_new {W1 : World} {src : ByteArray} {L : List Fld} {a : Option Addr} {m : Nat} {lv : Int} {c : Nat} {fr til : Int} {t : TypeId} (hf : FldsAt W1 (.slice a L.length m) L) :
    ABx W1.heap.size src L a m lv c fr til (W1.alloc (.cells #[.string src, .slice a L.length m, .int .i64 lv, .int .u32 c, .int .i64 fr, .int .i64 til] t)) := by
  obtain ⟨hX, hlt, _⟩ := box6 (Below.refl (W1.alloc (.cells #[.string src, .slice a L.length m, .int .i64 lv, .int .u32 c, .int .i64 fr, .int .i64 til] t)).heap.size _)
  exact ⟨hX, hlt, hf.later (alloc_below _ _)⟩
namespace lawMerges
set_option maxHeartbeats 6400000 in
set_option maxRecDepth 100000 in
theorem walk0 (src : ByteArray) (fl : List Fld) (fv : Value) (lv : Int) (c : Nat) (fr til n0 n1 n2 ll : Int) (lc : Nat) (w : World) (hs : src.size ≤ maxLen) (hv : FldsAt w fv fl) (hfit : FldsFit fl) (hl : fl.length ≤ maxLen) (hc : c < 4294967296) (hlc : lc < 4294967296) :
    Calls Try.prog 10 #[.agg #[.string src, fv, .int .i64 lv, .int .u32 c, .int .i64 fr, .int .i64 til], .agg #[.int .i64 n0, .int .i64 n1, .int .i64 n2], Lab ll lc] w fun e w' => e = .returned (.bool true) ∧ Below w.heap.size w w' := by
  have kl := lives_any
  have kg := fun W (h : Below w.heap.size w W) => rgood9_any src fl fv lv c fr til W hs (hv.later h) hfit hl
  have hsz := gSrc_size hs
  have hS2 := gSrc_twice src
  have hg2 := goodF_twice (l := fl)
  have hr1 := goodAl_right (x := ⟨src, fl, lv, c, fr, til⟩)
  have hr2 := goodAl_right (x := ⟨gSrc src, goodF fl, ll, lc, n0, n1⟩)
  unfold goodAl at hr1 hr2
  dsimp only at hr1 hr2
  rw [hS2] at hr2
  obtain ⟨fa, fc, rfl, _, _⟩ := RdAt.shape hv
  generalize gSrc src = src' at *
  generalize goodF fl = L at *
  have HR : Hid (rightF L = true → 0 < L.length → goodF L = L ∧ rightA ⟨src', L, gLv lv, c, gFr fr, gTil fr til⟩ = true ∧ rightA ⟨src', L, gLv ll, lc, gFr n0, gTil n0 n1⟩ = true) := Lib.hid (fun h1 h2 => by
    have hg := hg2 h1
    rw [hg] at hr2
    exact ⟨hg, hr1 h2 h1, hr2 h2 h1⟩)
  have HS : Hid (src'.size ≤ maxLen ∧ gSrc src' = src') := Lib.hid ⟨hsz, hS2⟩
  clear hr1 hr2 hg2 hS2 hsz
  generalize gLv lv = lv1 at *
  generalize gFr fr = fr1 at *
  generalize gTil fr til = til1 at *
  have KG := Lib.hid kg
  clear kg hv hfit hl hs
  obtain ⟨W0, hW0⟩ : ∃ z, ((w.alloc (.cells #[.string src, .slice fa fl.length fc, .int .i64 lv, .int .u32 c, .int .i64 fr, .int .i64 til] 32)).alloc (.cells #[.int .i64 n0, .int .i64 n1, .int .i64 n2] 78)).alloc (.cells #[.int .i64 ll, .int .u32 lc] 30) = z := ⟨_, rfl⟩
  have hb0 : Below w.heap.size w W0 := by rw [← hW0]; exact ((alloc_below _ _).trans ((alloc_below _ _).mono (by simp))).trans ((alloc_below _ _).mono (by simp; omega))
  have hz : w.heap.size + 1 + 1 < W0.heap.size := by rw [← hW0]; simp
  have hbb := (Below.refl W0.heap.size W0)
  rw [← hW0] at hbb
  obtain ⟨g1, g2, g3⟩ := box_cells hbb
  obtain ⟨g4, g5, g6, g7⟩ := box_two g3
  rw [hW0] at g1 g4 g5
  simp only [World.size_alloc] at g1
  have HA : Hid (C6 w.heap.size (.string src) (.slice fa fl.length fc) (.int .i64 lv) (.int .u32 c) (.int .i64 fr) (.int .i64 til) W0) := Lib.hid ⟨g4 0 _ rfl, g4 1 _ rfl, g4 2 _ rfl, g4 3 _ rfl, g4 4 _ rfl, g4 5 _ rfl⟩
  have HM : Hid (MGt w n0 n1 n2 ll lc W0) := Lib.hid ⟨g5 0 _ rfl, g5 1 _ rfl, g5 2 _ rfl, g1 0 _ rfl, g1 1 _ rfl, hz, hb0⟩
  have HW0 := Lib.hid hW0
  clear g1 g2 g3 g4 g5 g6 g7 hbb hb0 hz hW0
  go_enter Try.func10, Try.ntmps10
  go_upto_region 1 with fail
  rw [HW0.out]
  clear HW0
  go_wp2_with fail
  refine (kl _).mono ?_
  rintro e w1 ⟨rfl, hb1⟩
  have HA1 := Lib.hid (HA.out.later hb1 (by have := HM.out.ge; omega))
  have HM1 := Lib.hid (HM.out.later hb1)
  clear HA HM hb1 kl
  obtain ⟨a0, a1, a2, a3, a4, a5⟩ := HA1.out
  go_wp2_with fail
  refine (KG.out _ HM1.out.below).mono ?_
  rintro e w2 ⟨vg, rfl, hFg, hfitg, hrg, hb2⟩
  obtain ⟨ga, gc, rfl, _, _⟩ := RdAt.shape hFg
  have hL8 := rightF_len hrg
  have HG3 := Lib.hid (abx_new (src := src') (lv := lv1) (c := c) (fr := fr1) (til := til1) (t := 32) hFg)
  have HM3 := Lib.hid (HM1.out.later (hb2.trans ((alloc_below w2 (.cells #[.string src', .slice ga L.length gc, .int .i64 lv1, .int .u32 c, .int .i64 fr1, .int .i64 til1] 32)).mono hb2.size)))
  clear a0 a1 a2 a3 a4 a5 HA1 KG hFg hb2 HM1
  obtain ⟨sb, hsb⟩ : ∃ z, decide (0 < L.length) = z := ⟨_, rfl⟩
  rw [hsb]
  have HFI := Lib.hid hfitg
  have HRG := Lib.hid hrg
  have HSB := Lib.hid hsb
  have HL8 := Lib.hid hL8
  clear hsb hrg hfitg hL8
  go_upto_region 4 with fail
  change Code.wp _ _ _ _ (w2.alloc (.cells #[.string src', .slice ga L.length gc, .int .i64 lv1, .int .u32 c, .int .i64 fr1, .int .i64 til1] 32))
  generalize w2.alloc (.cells #[.string src', .slice ga L.length gc, .int .i64 lv1, .int .u32 c, .int .i64 fr1, .int .i64 til1] 32) = w3 at *
  generalize w2.heap.size = gg at *
  cases sb
  · go_wp2
    go_ret
    exact ⟨rfl, HM3.out.below⟩
  · have hp := of_decide_eq_true HSB.out
    obtain ⟨hgg, hra, hrb⟩ := HR.out HRG.out hp
    have k2 := fun W (h : FldsAt W (.slice ga L.length gc) L) => good_again src' L (.slice ga L.length gc) ll lc n0 n1 W HS.out.1 HS.out.2 hgg hp (by have := HL8.out; omega) h HFI.out
    generalize gLv ll = lv2 at *
    generalize gFr n0 = fr2 at *
    generalize gTil n0 n1 = til2 at *
    have K2 := Lib.hid k2
    have RA := Lib.hid hra
    have RB := Lib.hid hrb
    clear k2 hgg hra hrb hp HR
    obtain ⟨a0, a1, a2, a3, a4, a5⟩ := HG3.out.x
    have t0 := HM3.out.t0
    have t1 := HM3.out.t1
    have l0 := HM3.out.l0
    have l1 := HM3.out.l1
    go_wp2_with fail
    refine (K2.out _ HG3.out.f).mono ?_
    rintro e w4 ⟨ua, uc, rfl, hFh, hb4⟩
    have HH5 := Lib.hid (abx_new (src := src') (lv := lv2) (c := lc) (fr := fr2) (til := til2) (t := 32) hFh)
    have hb45 := hb4.trans ((alloc_below w4 (.cells #[.string src', .slice ua L.length uc, .int .i64 lv2, .int .u32 lc, .int .i64 fr2, .int .i64 til2] 32)).mono hb4.size)
    have HG5 := Lib.hid (HG3.out.later hb45)
    have HM5 := Lib.hid (HM3.out.later hb45)
    clear a0 a1 a2 a3 a4 a5 t0 t1 l0 l1 HG3 HM3 hFh hb4 hb45 K2
    go_upto_region 7 with fail
    change Code.wp _ _ _ _ (w4.alloc (.cells #[.string src', .slice ua L.length uc, .int .i64 lv2, .int .u32 lc, .int .i64 fr2, .int .i64 til2] 32))
    generalize w4.alloc (.cells #[.string src', .slice ua L.length uc, .int .i64 lv2, .int .u32 lc, .int .i64 fr2, .int .i64 til2] 32) = w5 at *
    generalize w4.heap.size = gh at *
    obtain ⟨a0, a1, a2, a3, a4, a5⟩ := HG5.out.x
    obtain ⟨b0, b1, b2, b3, b4, b5⟩ := HH5.out.x
    have hlta := HG5.out.lt
    have hltb := HH5.out.lt
    have k1 : ∀ W, Below w5.heap.size w5 W → Calls Try.prog 13 #[.agg #[.string src', .slice ga L.length gc, .int .i64 lv1, .int .u32 c, .int .i64 fr1, .int .i64 til1]] W fun e w' => e = .returned (.agg #[.string src', .slice ga L.length gc, .int .i64 lv1, .int .u32 c, .int .i64 fr1, .int .i64 til1]) ∧ Below W.heap.size W w' := fun W h => back_few src' L _ lv1 c fr1 til1 W (HG5.out.f.later h) (by have := HL8.out; omega)
    have k2 : ∀ W, Below w5.heap.size w5 W → Calls Try.prog 13 #[.agg #[.string src', .slice ua L.length uc, .int .i64 lv2, .int .u32 lc, .int .i64 fr2, .int .i64 til2]] W fun e w' => e = .returned (.agg #[.string src', .slice ua L.length uc, .int .i64 lv2, .int .u32 lc, .int .i64 fr2, .int .i64 til2]) ∧ Below W.heap.size W w' := fun W h => back_few src' L _ lv2 lc fr2 til2 W (HH5.out.f.later h) (by have := HL8.out; omega)
    have K1 := Lib.hid k1
    have K2 := Lib.hid k2
    clear k1 k2
    go_cut [11, 12] from 44 to 47 (fun s11 s12 wx => ∃ gx gy, s11 = .pointer (some ⟨gx, 0, none⟩) ∧ s12 = .pointer (some ⟨gy, 0, none⟩) ∧ C6 gx (.string src') (.slice ga L.length gc) (.int .i64 lv1) (.int .u32 c) (.int .i64 fr1) (.int .i64 til1) wx ∧ C6 gy (.string src') (.slice ua L.length uc) (.int .i64 lv2) (.int .u32 lc) (.int .i64 fr2) (.int .i64 til2) wx ∧ gx < wx.heap.size ∧ gy < wx.heap.size ∧ Below w5.heap.size w5 wx)
    case first =>
      refine wp_region_held_drew (S := (fun W => W.cell? ⟨gg, 0, none⟩ = some (.string src') ∧ W.cell? ⟨gg, 1, none⟩ = some (.slice ga L.length gc) ∧ W.cell? ⟨gg, 2, none⟩ = some (.int .i64 lv1) ∧ W.cell? ⟨gg, 3, none⟩ = some (.int .u32 c) ∧ W.cell? ⟨gg, 4, none⟩ = some (.int .i64 fr1) ∧ W.cell? ⟨gg, 5, none⟩ = some (.int .i64 til1) ∧ W.cell? ⟨gh, 0, none⟩ = some (.string src') ∧ W.cell? ⟨gh, 1, none⟩ = some (.slice ua L.length uc) ∧ W.cell? ⟨gh, 2, none⟩ = some (.int .i64 lv2) ∧ W.cell? ⟨gh, 3, none⟩ = some (.int .u32 lc) ∧ W.cell? ⟨gh, 4, none⟩ = some (.int .i64 fr2) ∧ W.cell? ⟨gh, 5, none⟩ = some (.int .i64 til2))) (by kernel_rfl) ⟨a0, a1, a2, a3, a4, a5, b0, b1, b2, b3, b4, b5⟩ (fun hHeld => ?_)
      have hd : Below w5.heap.size w5 w5.drew := (Below.refl _ _).drew
      generalize w5.drew = wd at *
      refine held_take (i := 0) (v := ?_) rfl rfl (by kernel_rfl) (by kernel_rfl) (by kernel_rfl) (fun _ _ _ h => h) (by rfl) hHeld ?_ ?_
      rotate_left
      · rintro wh ⟨z0, z1, z2, z3, z4, z5, z6, z7, z8, z9, z10, z11⟩
        go_simp
        (try with_reducible rfl)
      simp only [Act.put, List.setIfInBounds_toArray, List.set_cons_zero, List.set_cons_succ]
      refine held_take (i := 2) (v := ?_) rfl rfl (by kernel_rfl) (by kernel_rfl) (by kernel_rfl) (fun _ _ _ h => h) (by rfl) hHeld ?_ ?_
      rotate_left
      · rintro wh ⟨z0, z1, z2, z3, z4, z5, z6, z7, z8, z9, z10, z11⟩
        go_simp
        (try with_reducible rfl)
      simp only [Act.put, List.setIfInBounds_toArray, List.set_cons_zero, List.set_cons_succ]
      refine held_three (i := 1) (j := 4) (k := 5) rfl rfl rfl (by kernel_rfl) (fun K hK => ?_) (fun K hK => ?_) (fun K hK => ?_)
      · go_simp; go_at_call 13; refine (K1.out _ hd).mono ?_; rintro e w_1 ⟨rfl, hb_1⟩
        have hB_1 := hd.trans (hb_1.mono hd.size)
        refine hK.out _ _ ⟨keep_cell a0 hB_1 hlta, keep_cell a1 hB_1 hlta, keep_cell a2 hB_1 hlta, keep_cell a3 hB_1 hlta, keep_cell a4 hB_1 hlta, keep_cell a5 hB_1 hlta, keep_cell b0 hB_1 hltb, keep_cell b1 hB_1 hltb, keep_cell b2 hB_1 hltb, keep_cell b3 hB_1 hltb, keep_cell b4 hB_1 hltb, keep_cell b5 hB_1 hltb⟩ (fun hHeld => ?_)
        clear hK K
        (try simp only [Act.put, List.setIfInBounds_toArray, List.set_cons_zero, List.set_cons_succ])
        refine held_three (i := 3) (j := 4) (k := 5) rfl rfl rfl (by kernel_rfl) (fun K hK => ?_) (fun K hK => ?_) (fun K hK => ?_)
        · go_simp; go_at_call 13; refine (K2.out _ hB_1).mono ?_; rintro e w_2 ⟨rfl, hb_2⟩
          have hB_2 := hB_1.trans (hb_2.mono hB_1.size)
          refine hK.out _ _ ⟨keep_cell a0 hB_2 hlta, keep_cell a1 hB_2 hlta, keep_cell a2 hB_2 hlta, keep_cell a3 hB_2 hlta, keep_cell a4 hB_2 hlta, keep_cell a5 hB_2 hlta, keep_cell b0 hB_2 hltb, keep_cell b1 hB_2 hltb, keep_cell b2 hB_2 hltb, keep_cell b3 hB_2 hltb, keep_cell b4 hB_2 hltb, keep_cell b5 hB_2 hltb⟩ (fun hHeld => ?_)
          clear hK K
          (try simp only [Act.put, List.setIfInBounds_toArray, List.set_cons_zero, List.set_cons_succ])
          refine held_two (i := 4) (j := 5) rfl rfl (by kernel_rfl) (fun K hK => ?_) (fun K hK => ?_)
          · have hb_3 := alloc_below w_2 (.cells #[.string ⟨#[]⟩, .slice none 0 0, .int .i64 0, .int .u32 0, .int .i64 0, .int .i64 0] 35)
            have hB_3 := hB_2.trans (hb_3.mono hB_2.size)
            have hT_3 := box_there (Below.refl (w_2.alloc (.cells #[.string ⟨#[]⟩, .slice none 0 0, .int .i64 0, .int .u32 0, .int .i64 0, .int .i64 0] 35)).heap.size (w_2.alloc (.cells #[.string ⟨#[]⟩, .slice none 0 0, .int .i64 0, .int .u32 0, .int .i64 0, .int .i64 0] 35)))
            have hL_3 : w_2.heap.size < (w_2.alloc (.cells #[.string ⟨#[]⟩, .slice none 0 0, .int .i64 0, .int .u32 0, .int .i64 0, .int .i64 0] 35)).heap.size := by rw [World.size_alloc]; omega
            have hG_3 := hB_2.size
            go_simp
            refine hK.out _ _ ⟨keep_cell a0 hB_3 hlta, keep_cell a1 hB_3 hlta, keep_cell a2 hB_3 hlta, keep_cell a3 hB_3 hlta, keep_cell a4 hB_3 hlta, keep_cell a5 hB_3 hlta, keep_cell b0 hB_3 hltb, keep_cell b1 hB_3 hltb, keep_cell b2 hB_3 hltb, keep_cell b3 hB_3 hltb, keep_cell b4 hB_3 hltb, keep_cell b5 hB_3 hltb⟩ (fun hHeld => ?_)
            clear hK K
            (try simp only [Act.put, List.setIfInBounds_toArray, List.set_cons_zero, List.set_cons_succ])
            generalize w_2.alloc (.cells #[.string ⟨#[]⟩, .slice none 0 0, .int .i64 0, .int .u32 0, .int .i64 0, .int .i64 0] 35) = w_3 at *
            refine held_step (i := 5) rfl (by kernel_rfl) (fun K hK => ?_)
            have hb_4 := alloc_below w_3 (.cells #[.string ⟨#[]⟩, .slice none 0 0, .int .i64 0, .int .u32 0, .int .i64 0, .int .i64 0] 35)
            have hB_4 := hB_3.trans (hb_4.mono hB_3.size)
            have hT_4 := box_there (Below.refl (w_3.alloc (.cells #[.string ⟨#[]⟩, .slice none 0 0, .int .i64 0, .int .u32 0, .int .i64 0, .int .i64 0] 35)).heap.size (w_3.alloc (.cells #[.string ⟨#[]⟩, .slice none 0 0, .int .i64 0, .int .u32 0, .int .i64 0, .int .i64 0] 35)))
            have hL_4 : w_3.heap.size < (w_3.alloc (.cells #[.string ⟨#[]⟩, .slice none 0 0, .int .i64 0, .int .u32 0, .int .i64 0, .int .i64 0] 35)).heap.size := by rw [World.size_alloc]; omega
            have hG_4 := hB_3.size
            have hTA_4 := there_later hT_3 hb_4 hL_3
            have hLA_4 := Nat.lt_of_lt_of_le hL_3 hb_4.size
            have hN_4 : w_2.heap.size ≠ w_3.heap.size := by have := hL_3; omega
            go_simp
            refine hK.out _ _ ⟨keep_cell a0 hB_4 hlta, keep_cell a1 hB_4 hlta, keep_cell a2 hB_4 hlta, keep_cell a3 hB_4 hlta, keep_cell a4 hB_4 hlta, keep_cell a5 hB_4 hlta, keep_cell b0 hB_4 hltb, keep_cell b1 hB_4 hltb, keep_cell b2 hB_4 hltb, keep_cell b3 hB_4 hltb, keep_cell b4 hB_4 hltb, keep_cell b5 hB_4 hltb⟩ (fun hHeld => ?_)
            clear hK K
            (try simp only [Act.put, List.setIfInBounds_toArray, List.set_cons_zero, List.set_cons_succ])
            generalize w_3.alloc (.cells #[.string ⟨#[]⟩, .slice none 0 0, .int .i64 0, .int .u32 0, .int .i64 0, .int .i64 0] 35) = w_4 at *
            have hNE := hN_4
            have f0 := there_free hTA_4 0 (by decide)
            have f1 := there_free hTA_4 1 (by decide)
            have f2 := there_free hTA_4 2 (by decide)
            have f3 := there_free hTA_4 3 (by decide)
            have f4 := there_free hTA_4 4 (by decide)
            have f5 := there_free hTA_4 5 (by decide)
            obtain ⟨y0, hy0⟩ := there_cell hTA_4 0 (by decide)
            obtain ⟨y1, hy1⟩ := there_cell hTA_4 1 (by decide)
            obtain ⟨y2, hy2⟩ := there_cell hTA_4 2 (by decide)
            obtain ⟨y3, hy3⟩ := there_cell hTA_4 3 (by decide)
            obtain ⟨y4, hy4⟩ := there_cell hTA_4 4 (by decide)
            obtain ⟨y5, hy5⟩ := there_cell hTA_4 5 (by decide)
            have HB_5 : Hid (Below w5.heap.size w5 (w_4.setCells w_2.heap.size 0 [.string src', .slice ga L.length gc, .int .i64 lv1, .int .u32 c, .int .i64 fr1, .int .i64 til1])) := Lib.hid (below_puts (g := w_2.heap.size) (o := 0) hB_4 hG_3 [.string src', .slice ga L.length gc, .int .i64 lv1, .int .u32 c, .int .i64 fr1, .int .i64 til1])
            have HZ_5 := Lib.hid (below_puts_base (g := w_2.heap.size) (o := 0) (Below.refl 0 w_4) (Nat.zero_le _) [.string src', .slice ga L.length gc, .int .i64 lv1, .int .u32 c, .int .i64 fr1, .int .i64 til1]).size
            have HC_5 := Lib.hid (c6_puts w_4 w_2.heap.size (.string src') (.slice ga L.length gc) (.int .i64 lv1) (.int .u32 c) (.int .i64 fr1) (.int .i64 til1) hTA_4)
            have HT_5 := Lib.hid (World.there_setCells hT_4 w_2.heap.size 0 [.string src', .slice ga L.length gc, .int .i64 lv1, .int .u32 c, .int .i64 fr1, .int .i64 til1])
            refine held_step (i := 6) rfl (by kernel_rfl) (fun K hK => ?_)
            go_simp
            refine hK.out _ (w_4.setCells w_2.heap.size 0 [.string src', .slice ga L.length gc, .int .i64 lv1, .int .u32 c, .int .i64 fr1, .int .i64 til1]) ⟨keep_cell a0 HB_5.out hlta, keep_cell a1 HB_5.out hlta, keep_cell a2 HB_5.out hlta, keep_cell a3 HB_5.out hlta, keep_cell a4 HB_5.out hlta, keep_cell a5 HB_5.out hlta, keep_cell b0 HB_5.out hltb, keep_cell b1 HB_5.out hltb, keep_cell b2 HB_5.out hltb, keep_cell b3 HB_5.out hltb, keep_cell b4 HB_5.out hltb, keep_cell b5 HB_5.out hltb⟩ (fun hHeld => ?_)
            clear hK K
            (try simp only [Act.put, List.setIfInBounds_toArray, List.set_cons_zero, List.set_cons_succ])
            generalize (w_4.setCells w_2.heap.size 0 [.string src', .slice ga L.length gc, .int .i64 lv1, .int .u32 c, .int .i64 fr1, .int .i64 til1]) = w_5 at *
            clear f0 f1 f2 f3 f4 f5 hy0 hy1 hy2 hy3 hy4 hy5 y0 y1 y2 y3 y4 y5
            have f0 := there_free HT_5.out 0 (by decide)
            have f1 := there_free HT_5.out 1 (by decide)
            have f2 := there_free HT_5.out 2 (by decide)
            have f3 := there_free HT_5.out 3 (by decide)
            have f4 := there_free HT_5.out 4 (by decide)
            have f5 := there_free HT_5.out 5 (by decide)
            obtain ⟨y0, hy0⟩ := there_cell HT_5.out 0 (by decide)
            obtain ⟨y1, hy1⟩ := there_cell HT_5.out 1 (by decide)
            obtain ⟨y2, hy2⟩ := there_cell HT_5.out 2 (by decide)
            obtain ⟨y3, hy3⟩ := there_cell HT_5.out 3 (by decide)
            obtain ⟨y4, hy4⟩ := there_cell HT_5.out 4 (by decide)
            obtain ⟨y5, hy5⟩ := there_cell HT_5.out 5 (by decide)
            have HB_6 : Hid (Below w5.heap.size w5 (w_5.setCells w_3.heap.size 0 [.string src', .slice ua L.length uc, .int .i64 lv2, .int .u32 lc, .int .i64 fr2, .int .i64 til2])) := Lib.hid (below_puts (g := w_3.heap.size) (o := 0) HB_5.out hG_4 [.string src', .slice ua L.length uc, .int .i64 lv2, .int .u32 lc, .int .i64 fr2, .int .i64 til2])
            have HZ_6 := Lib.hid (below_puts_base (g := w_3.heap.size) (o := 0) (Below.refl 0 w_5) (Nat.zero_le _) [.string src', .slice ua L.length uc, .int .i64 lv2, .int .u32 lc, .int .i64 fr2, .int .i64 til2]).size
            have HC_6 := Lib.hid (c6_puts w_5 w_3.heap.size (.string src') (.slice ua L.length uc) (.int .i64 lv2) (.int .u32 lc) (.int .i64 fr2) (.int .i64 til2) HT_5.out)
            have HD_6 := Lib.hid (c6_out HC_5.out hNE 0 [.string src', .slice ua L.length uc, .int .i64 lv2, .int .u32 lc, .int .i64 fr2, .int .i64 til2])
            refine held_step (i := 7) rfl (by kernel_rfl) (fun K hK => ?_)
            go_simp
            refine hK.out _ (w_5.setCells w_3.heap.size 0 [.string src', .slice ua L.length uc, .int .i64 lv2, .int .u32 lc, .int .i64 fr2, .int .i64 til2]) ⟨keep_cell a0 HB_6.out hlta, keep_cell a1 HB_6.out hlta, keep_cell a2 HB_6.out hlta, keep_cell a3 HB_6.out hlta, keep_cell a4 HB_6.out hlta, keep_cell a5 HB_6.out hlta, keep_cell b0 HB_6.out hltb, keep_cell b1 HB_6.out hltb, keep_cell b2 HB_6.out hltb, keep_cell b3 HB_6.out hltb, keep_cell b4 HB_6.out hltb, keep_cell b5 HB_6.out hltb⟩ (fun hHeld => ?_)
            clear hK K
            (try simp only [Act.put, List.setIfInBounds_toArray, List.set_cons_zero, List.set_cons_succ])
            generalize (w_5.setCells w_3.heap.size 0 [.string src', .slice ua L.length uc, .int .i64 lv2, .int .u32 lc, .int .i64 fr2, .int .i64 til2]) = w_6 at *
            refine wpAnyH_done (by kernel_rfl) ?_ _
            go_wp2
            go_meet
            exact ⟨w_2.heap.size, w_3.heap.size, rfl, rfl, HD_6.out, HC_6.out, Nat.lt_of_lt_of_le hLA_4 (Nat.le_trans HZ_5.out HZ_6.out), Nat.lt_of_lt_of_le hL_4 (Nat.le_trans HZ_5.out HZ_6.out), HB_6.out⟩
          · have hb_7 := alloc_below w_2 (.cells #[.string ⟨#[]⟩, .slice none 0 0, .int .i64 0, .int .u32 0, .int .i64 0, .int .i64 0] 35)
            have hB_7 := hB_2.trans (hb_7.mono hB_2.size)
            have hT_7 := box_there (Below.refl (w_2.alloc (.cells #[.string ⟨#[]⟩, .slice none 0 0, .int .i64 0, .int .u32 0, .int .i64 0, .int .i64 0] 35)).heap.size (w_2.alloc (.cells #[.string ⟨#[]⟩, .slice none 0 0, .int .i64 0, .int .u32 0, .int .i64 0, .int .i64 0] 35)))
            have hL_7 : w_2.heap.size < (w_2.alloc (.cells #[.string ⟨#[]⟩, .slice none 0 0, .int .i64 0, .int .u32 0, .int .i64 0, .int .i64 0] 35)).heap.size := by rw [World.size_alloc]; omega
            have hG_7 := hB_2.size
            go_simp
            refine hK.out _ _ ⟨keep_cell a0 hB_7 hlta, keep_cell a1 hB_7 hlta, keep_cell a2 hB_7 hlta, keep_cell a3 hB_7 hlta, keep_cell a4 hB_7 hlta, keep_cell a5 hB_7 hlta, keep_cell b0 hB_7 hltb, keep_cell b1 hB_7 hltb, keep_cell b2 hB_7 hltb, keep_cell b3 hB_7 hltb, keep_cell b4 hB_7 hltb, keep_cell b5 hB_7 hltb⟩ (fun hHeld => ?_)
            clear hK K
            (try simp only [Act.put, List.setIfInBounds_toArray, List.set_cons_zero, List.set_cons_succ])
            generalize w_2.alloc (.cells #[.string ⟨#[]⟩, .slice none 0 0, .int .i64 0, .int .u32 0, .int .i64 0, .int .i64 0] 35) = w_7 at *
            refine held_step (i := 4) rfl (by kernel_rfl) (fun K hK => ?_)
            have hb_8 := alloc_below w_7 (.cells #[.string ⟨#[]⟩, .slice none 0 0, .int .i64 0, .int .u32 0, .int .i64 0, .int .i64 0] 35)
            have hB_8 := hB_7.trans (hb_8.mono hB_7.size)
            have hT_8 := box_there (Below.refl (w_7.alloc (.cells #[.string ⟨#[]⟩, .slice none 0 0, .int .i64 0, .int .u32 0, .int .i64 0, .int .i64 0] 35)).heap.size (w_7.alloc (.cells #[.string ⟨#[]⟩, .slice none 0 0, .int .i64 0, .int .u32 0, .int .i64 0, .int .i64 0] 35)))
            have hL_8 : w_7.heap.size < (w_7.alloc (.cells #[.string ⟨#[]⟩, .slice none 0 0, .int .i64 0, .int .u32 0, .int .i64 0, .int .i64 0] 35)).heap.size := by rw [World.size_alloc]; omega
            have hG_8 := hB_7.size
            have hTD_8 := there_later hT_7 hb_8 hL_7
            have hLD_8 := Nat.lt_of_lt_of_le hL_7 hb_8.size
            have hN_8 : w_7.heap.size ≠ w_2.heap.size := by have := hL_7; omega
            go_simp
            refine hK.out _ _ ⟨keep_cell a0 hB_8 hlta, keep_cell a1 hB_8 hlta, keep_cell a2 hB_8 hlta, keep_cell a3 hB_8 hlta, keep_cell a4 hB_8 hlta, keep_cell a5 hB_8 hlta, keep_cell b0 hB_8 hltb, keep_cell b1 hB_8 hltb, keep_cell b2 hB_8 hltb, keep_cell b3 hB_8 hltb, keep_cell b4 hB_8 hltb, keep_cell b5 hB_8 hltb⟩ (fun hHeld => ?_)
            clear hK K
            (try simp only [Act.put, List.setIfInBounds_toArray, List.set_cons_zero, List.set_cons_succ])
            generalize w_7.alloc (.cells #[.string ⟨#[]⟩, .slice none 0 0, .int .i64 0, .int .u32 0, .int .i64 0, .int .i64 0] 35) = w_8 at *
            have hNE := hN_8
            have f0 := there_free hT_8 0 (by decide)
            have f1 := there_free hT_8 1 (by decide)
            have f2 := there_free hT_8 2 (by decide)
            have f3 := there_free hT_8 3 (by decide)
            have f4 := there_free hT_8 4 (by decide)
            have f5 := there_free hT_8 5 (by decide)
            obtain ⟨y0, hy0⟩ := there_cell hT_8 0 (by decide)
            obtain ⟨y1, hy1⟩ := there_cell hT_8 1 (by decide)
            obtain ⟨y2, hy2⟩ := there_cell hT_8 2 (by decide)
            obtain ⟨y3, hy3⟩ := there_cell hT_8 3 (by decide)
            obtain ⟨y4, hy4⟩ := there_cell hT_8 4 (by decide)
            obtain ⟨y5, hy5⟩ := there_cell hT_8 5 (by decide)
            have HB_9 : Hid (Below w5.heap.size w5 (w_8.setCells w_7.heap.size 0 [.string src', .slice ga L.length gc, .int .i64 lv1, .int .u32 c, .int .i64 fr1, .int .i64 til1])) := Lib.hid (below_puts (g := w_7.heap.size) (o := 0) hB_8 hG_8 [.string src', .slice ga L.length gc, .int .i64 lv1, .int .u32 c, .int .i64 fr1, .int .i64 til1])
            have HZ_9 := Lib.hid (below_puts_base (g := w_7.heap.size) (o := 0) (Below.refl 0 w_8) (Nat.zero_le _) [.string src', .slice ga L.length gc, .int .i64 lv1, .int .u32 c, .int .i64 fr1, .int .i64 til1]).size
            have HC_9 := Lib.hid (c6_puts w_8 w_7.heap.size (.string src') (.slice ga L.length gc) (.int .i64 lv1) (.int .u32 c) (.int .i64 fr1) (.int .i64 til1) hT_8)
            have HT_9 := Lib.hid (World.there_setCells hTD_8 w_7.heap.size 0 [.string src', .slice ga L.length gc, .int .i64 lv1, .int .u32 c, .int .i64 fr1, .int .i64 til1])
            refine held_step (i := 6) rfl (by kernel_rfl) (fun K hK => ?_)
            go_simp
            refine hK.out _ (w_8.setCells w_7.heap.size 0 [.string src', .slice ga L.length gc, .int .i64 lv1, .int .u32 c, .int .i64 fr1, .int .i64 til1]) ⟨keep_cell a0 HB_9.out hlta, keep_cell a1 HB_9.out hlta, keep_cell a2 HB_9.out hlta, keep_cell a3 HB_9.out hlta, keep_cell a4 HB_9.out hlta, keep_cell a5 HB_9.out hlta, keep_cell b0 HB_9.out hltb, keep_cell b1 HB_9.out hltb, keep_cell b2 HB_9.out hltb, keep_cell b3 HB_9.out hltb, keep_cell b4 HB_9.out hltb, keep_cell b5 HB_9.out hltb⟩ (fun hHeld => ?_)
            clear hK K
            (try simp only [Act.put, List.setIfInBounds_toArray, List.set_cons_zero, List.set_cons_succ])
            generalize (w_8.setCells w_7.heap.size 0 [.string src', .slice ga L.length gc, .int .i64 lv1, .int .u32 c, .int .i64 fr1, .int .i64 til1]) = w_9 at *
            clear f0 f1 f2 f3 f4 f5 hy0 hy1 hy2 hy3 hy4 hy5 y0 y1 y2 y3 y4 y5
            have f0 := there_free HT_9.out 0 (by decide)
            have f1 := there_free HT_9.out 1 (by decide)
            have f2 := there_free HT_9.out 2 (by decide)
            have f3 := there_free HT_9.out 3 (by decide)
            have f4 := there_free HT_9.out 4 (by decide)
            have f5 := there_free HT_9.out 5 (by decide)
            obtain ⟨y0, hy0⟩ := there_cell HT_9.out 0 (by decide)
            obtain ⟨y1, hy1⟩ := there_cell HT_9.out 1 (by decide)
            obtain ⟨y2, hy2⟩ := there_cell HT_9.out 2 (by decide)
            obtain ⟨y3, hy3⟩ := there_cell HT_9.out 3 (by decide)
            obtain ⟨y4, hy4⟩ := there_cell HT_9.out 4 (by decide)
            obtain ⟨y5, hy5⟩ := there_cell HT_9.out 5 (by decide)
            have HB_10 : Hid (Below w5.heap.size w5 (w_9.setCells w_2.heap.size 0 [.string src', .slice ua L.length uc, .int .i64 lv2, .int .u32 lc, .int .i64 fr2, .int .i64 til2])) := Lib.hid (below_puts (g := w_2.heap.size) (o := 0) HB_9.out hG_7 [.string src', .slice ua L.length uc, .int .i64 lv2, .int .u32 lc, .int .i64 fr2, .int .i64 til2])
            have HZ_10 := Lib.hid (below_puts_base (g := w_2.heap.size) (o := 0) (Below.refl 0 w_9) (Nat.zero_le _) [.string src', .slice ua L.length uc, .int .i64 lv2, .int .u32 lc, .int .i64 fr2, .int .i64 til2]).size
            have HC_10 := Lib.hid (c6_puts w_9 w_2.heap.size (.string src') (.slice ua L.length uc) (.int .i64 lv2) (.int .u32 lc) (.int .i64 fr2) (.int .i64 til2) HT_9.out)
            have HD_10 := Lib.hid (c6_out HC_9.out hNE 0 [.string src', .slice ua L.length uc, .int .i64 lv2, .int .u32 lc, .int .i64 fr2, .int .i64 til2])
            refine held_step (i := 7) rfl (by kernel_rfl) (fun K hK => ?_)
            go_simp
            refine hK.out _ (w_9.setCells w_2.heap.size 0 [.string src', .slice ua L.length uc, .int .i64 lv2, .int .u32 lc, .int .i64 fr2, .int .i64 til2]) ⟨keep_cell a0 HB_10.out hlta, keep_cell a1 HB_10.out hlta, keep_cell a2 HB_10.out hlta, keep_cell a3 HB_10.out hlta, keep_cell a4 HB_10.out hlta, keep_cell a5 HB_10.out hlta, keep_cell b0 HB_10.out hltb, keep_cell b1 HB_10.out hltb, keep_cell b2 HB_10.out hltb, keep_cell b3 HB_10.out hltb, keep_cell b4 HB_10.out hltb, keep_cell b5 HB_10.out hltb⟩ (fun hHeld => ?_)
            clear hK K
            (try simp only [Act.put, List.setIfInBounds_toArray, List.set_cons_zero, List.set_cons_succ])
            generalize (w_9.setCells w_2.heap.size 0 [.string src', .slice ua L.length uc, .int .i64 lv2, .int .u32 lc, .int .i64 fr2, .int .i64 til2]) = w_10 at *
            refine wpAnyH_done (by kernel_rfl) ?_ _
            go_wp2
            go_meet
            exact ⟨w_7.heap.size, w_2.heap.size, rfl, rfl, HD_10.out, HC_10.out, Nat.lt_of_lt_of_le hL_8 (Nat.le_trans HZ_9.out HZ_10.out), Nat.lt_of_lt_of_le hLD_8 (Nat.le_trans HZ_9.out HZ_10.out), HB_10.out⟩
        · have hb_11 := alloc_below w_1 (.cells #[.string ⟨#[]⟩, .slice none 0 0, .int .i64 0, .int .u32 0, .int .i64 0, .int .i64 0] 35)
          have hB_11 := hB_1.trans (hb_11.mono hB_1.size)
          have hT_11 := box_there (Below.refl (w_1.alloc (.cells #[.string ⟨#[]⟩, .slice none 0 0, .int .i64 0, .int .u32 0, .int .i64 0, .int .i64 0] 35)).heap.size (w_1.alloc (.cells #[.string ⟨#[]⟩, .slice none 0 0, .int .i64 0, .int .u32 0, .int .i64 0, .int .i64 0] 35)))
          have hL_11 : w_1.heap.size < (w_1.alloc (.cells #[.string ⟨#[]⟩, .slice none 0 0, .int .i64 0, .int .u32 0, .int .i64 0, .int .i64 0] 35)).heap.size := by rw [World.size_alloc]; omega
          have hG_11 := hB_1.size
          go_simp
          refine hK.out _ _ ⟨keep_cell a0 hB_11 hlta, keep_cell a1 hB_11 hlta, keep_cell a2 hB_11 hlta, keep_cell a3 hB_11 hlta, keep_cell a4 hB_11 hlta, keep_cell a5 hB_11 hlta, keep_cell b0 hB_11 hltb, keep_cell b1 hB_11 hltb, keep_cell b2 hB_11 hltb, keep_cell b3 hB_11 hltb, keep_cell b4 hB_11 hltb, keep_cell b5 hB_11 hltb⟩ (fun hHeld => ?_)
          clear hK K
          (try simp only [Act.put, List.setIfInBounds_toArray, List.set_cons_zero, List.set_cons_succ])
          generalize w_1.alloc (.cells #[.string ⟨#[]⟩, .slice none 0 0, .int .i64 0, .int .u32 0, .int .i64 0, .int .i64 0] 35) = w_11 at *
          refine held_two (i := 3) (j := 5) rfl rfl (by kernel_rfl) (fun K hK => ?_) (fun K hK => ?_)
          · go_simp; go_at_call 13; refine (K2.out _ hB_11).mono ?_; rintro e w_12 ⟨rfl, hb_12⟩
            have hB_12 := hB_11.trans (hb_12.mono hB_11.size)
            have hTA_12 := there_later hT_11 hb_12 hL_11
            have hLA_12 := Nat.lt_of_lt_of_le hL_11 hb_12.size
            refine hK.out _ _ ⟨keep_cell a0 hB_12 hlta, keep_cell a1 hB_12 hlta, keep_cell a2 hB_12 hlta, keep_cell a3 hB_12 hlta, keep_cell a4 hB_12 hlta, keep_cell a5 hB_12 hlta, keep_cell b0 hB_12 hltb, keep_cell b1 hB_12 hltb, keep_cell b2 hB_12 hltb, keep_cell b3 hB_12 hltb, keep_cell b4 hB_12 hltb, keep_cell b5 hB_12 hltb⟩ (fun hHeld => ?_)
            clear hK K
            (try simp only [Act.put, List.setIfInBounds_toArray, List.set_cons_zero, List.set_cons_succ])
            refine held_step (i := 5) rfl (by kernel_rfl) (fun K hK => ?_)
            have hb_13 := alloc_below w_12 (.cells #[.string ⟨#[]⟩, .slice none 0 0, .int .i64 0, .int .u32 0, .int .i64 0, .int .i64 0] 35)
            have hB_13 := hB_12.trans (hb_13.mono hB_12.size)
            have hT_13 := box_there (Below.refl (w_12.alloc (.cells #[.string ⟨#[]⟩, .slice none 0 0, .int .i64 0, .int .u32 0, .int .i64 0, .int .i64 0] 35)).heap.size (w_12.alloc (.cells #[.string ⟨#[]⟩, .slice none 0 0, .int .i64 0, .int .u32 0, .int .i64 0, .int .i64 0] 35)))
            have hL_13 : w_12.heap.size < (w_12.alloc (.cells #[.string ⟨#[]⟩, .slice none 0 0, .int .i64 0, .int .u32 0, .int .i64 0, .int .i64 0] 35)).heap.size := by rw [World.size_alloc]; omega
            have hG_13 := hB_12.size
            have hTA_13 := there_later hTA_12 hb_13 hLA_12
            have hLA_13 := Nat.lt_of_lt_of_le hLA_12 hb_13.size
            have hN_13 : w_1.heap.size ≠ w_12.heap.size := by have := hLA_12; omega
            go_simp
            refine hK.out _ _ ⟨keep_cell a0 hB_13 hlta, keep_cell a1 hB_13 hlta, keep_cell a2 hB_13 hlta, keep_cell a3 hB_13 hlta, keep_cell a4 hB_13 hlta, keep_cell a5 hB_13 hlta, keep_cell b0 hB_13 hltb, keep_cell b1 hB_13 hltb, keep_cell b2 hB_13 hltb, keep_cell b3 hB_13 hltb, keep_cell b4 hB_13 hltb, keep_cell b5 hB_13 hltb⟩ (fun hHeld => ?_)
            clear hK K
            (try simp only [Act.put, List.setIfInBounds_toArray, List.set_cons_zero, List.set_cons_succ])
            generalize w_12.alloc (.cells #[.string ⟨#[]⟩, .slice none 0 0, .int .i64 0, .int .u32 0, .int .i64 0, .int .i64 0] 35) = w_13 at *
            have hNE := hN_13
            have f0 := there_free hTA_13 0 (by decide)
            have f1 := there_free hTA_13 1 (by decide)
            have f2 := there_free hTA_13 2 (by decide)
            have f3 := there_free hTA_13 3 (by decide)
            have f4 := there_free hTA_13 4 (by decide)
            have f5 := there_free hTA_13 5 (by decide)
            obtain ⟨y0, hy0⟩ := there_cell hTA_13 0 (by decide)
            obtain ⟨y1, hy1⟩ := there_cell hTA_13 1 (by decide)
            obtain ⟨y2, hy2⟩ := there_cell hTA_13 2 (by decide)
            obtain ⟨y3, hy3⟩ := there_cell hTA_13 3 (by decide)
            obtain ⟨y4, hy4⟩ := there_cell hTA_13 4 (by decide)
            obtain ⟨y5, hy5⟩ := there_cell hTA_13 5 (by decide)
            have HB_14 : Hid (Below w5.heap.size w5 (w_13.setCells w_1.heap.size 0 [.string src', .slice ga L.length gc, .int .i64 lv1, .int .u32 c, .int .i64 fr1, .int .i64 til1])) := Lib.hid (below_puts (g := w_1.heap.size) (o := 0) hB_13 hG_11 [.string src', .slice ga L.length gc, .int .i64 lv1, .int .u32 c, .int .i64 fr1, .int .i64 til1])
            have HZ_14 := Lib.hid (below_puts_base (g := w_1.heap.size) (o := 0) (Below.refl 0 w_13) (Nat.zero_le _) [.string src', .slice ga L.length gc, .int .i64 lv1, .int .u32 c, .int .i64 fr1, .int .i64 til1]).size
            have HC_14 := Lib.hid (c6_puts w_13 w_1.heap.size (.string src') (.slice ga L.length gc) (.int .i64 lv1) (.int .u32 c) (.int .i64 fr1) (.int .i64 til1) hTA_13)
            have HT_14 := Lib.hid (World.there_setCells hT_13 w_1.heap.size 0 [.string src', .slice ga L.length gc, .int .i64 lv1, .int .u32 c, .int .i64 fr1, .int .i64 til1])
            refine held_step (i := 6) rfl (by kernel_rfl) (fun K hK => ?_)
            go_simp
            refine hK.out _ (w_13.setCells w_1.heap.size 0 [.string src', .slice ga L.length gc, .int .i64 lv1, .int .u32 c, .int .i64 fr1, .int .i64 til1]) ⟨keep_cell a0 HB_14.out hlta, keep_cell a1 HB_14.out hlta, keep_cell a2 HB_14.out hlta, keep_cell a3 HB_14.out hlta, keep_cell a4 HB_14.out hlta, keep_cell a5 HB_14.out hlta, keep_cell b0 HB_14.out hltb, keep_cell b1 HB_14.out hltb, keep_cell b2 HB_14.out hltb, keep_cell b3 HB_14.out hltb, keep_cell b4 HB_14.out hltb, keep_cell b5 HB_14.out hltb⟩ (fun hHeld => ?_)
            clear hK K
            (try simp only [Act.put, List.setIfInBounds_toArray, List.set_cons_zero, List.set_cons_succ])
            generalize (w_13.setCells w_1.heap.size 0 [.string src', .slice ga L.length gc, .int .i64 lv1, .int .u32 c, .int .i64 fr1, .int .i64 til1]) = w_14 at *
            clear f0 f1 f2 f3 f4 f5 hy0 hy1 hy2 hy3 hy4 hy5 y0 y1 y2 y3 y4 y5
            have f0 := there_free HT_14.out 0 (by decide)
            have f1 := there_free HT_14.out 1 (by decide)
            have f2 := there_free HT_14.out 2 (by decide)
            have f3 := there_free HT_14.out 3 (by decide)
            have f4 := there_free HT_14.out 4 (by decide)
            have f5 := there_free HT_14.out 5 (by decide)
            obtain ⟨y0, hy0⟩ := there_cell HT_14.out 0 (by decide)
            obtain ⟨y1, hy1⟩ := there_cell HT_14.out 1 (by decide)
            obtain ⟨y2, hy2⟩ := there_cell HT_14.out 2 (by decide)
            obtain ⟨y3, hy3⟩ := there_cell HT_14.out 3 (by decide)
            obtain ⟨y4, hy4⟩ := there_cell HT_14.out 4 (by decide)
            obtain ⟨y5, hy5⟩ := there_cell HT_14.out 5 (by decide)
            have HB_15 : Hid (Below w5.heap.size w5 (w_14.setCells w_12.heap.size 0 [.string src', .slice ua L.length uc, .int .i64 lv2, .int .u32 lc, .int .i64 fr2, .int .i64 til2])) := Lib.hid (below_puts (g := w_12.heap.size) (o := 0) HB_14.out hG_13 [.string src', .slice ua L.length uc, .int .i64 lv2, .int .u32 lc, .int .i64 fr2, .int .i64 til2])
            have HZ_15 := Lib.hid (below_puts_base (g := w_12.heap.size) (o := 0) (Below.refl 0 w_14) (Nat.zero_le _) [.string src', .slice ua L.length uc, .int .i64 lv2, .int .u32 lc, .int .i64 fr2, .int .i64 til2]).size
            have HC_15 := Lib.hid (c6_puts w_14 w_12.heap.size (.string src') (.slice ua L.length uc) (.int .i64 lv2) (.int .u32 lc) (.int .i64 fr2) (.int .i64 til2) HT_14.out)
            have HD_15 := Lib.hid (c6_out HC_14.out hNE 0 [.string src', .slice ua L.length uc, .int .i64 lv2, .int .u32 lc, .int .i64 fr2, .int .i64 til2])
            refine held_step (i := 7) rfl (by kernel_rfl) (fun K hK => ?_)
            go_simp
            refine hK.out _ (w_14.setCells w_12.heap.size 0 [.string src', .slice ua L.length uc, .int .i64 lv2, .int .u32 lc, .int .i64 fr2, .int .i64 til2]) ⟨keep_cell a0 HB_15.out hlta, keep_cell a1 HB_15.out hlta, keep_cell a2 HB_15.out hlta, keep_cell a3 HB_15.out hlta, keep_cell a4 HB_15.out hlta, keep_cell a5 HB_15.out hlta, keep_cell b0 HB_15.out hltb, keep_cell b1 HB_15.out hltb, keep_cell b2 HB_15.out hltb, keep_cell b3 HB_15.out hltb, keep_cell b4 HB_15.out hltb, keep_cell b5 HB_15.out hltb⟩ (fun hHeld => ?_)
            clear hK K
            (try simp only [Act.put, List.setIfInBounds_toArray, List.set_cons_zero, List.set_cons_succ])
            generalize (w_14.setCells w_12.heap.size 0 [.string src', .slice ua L.length uc, .int .i64 lv2, .int .u32 lc, .int .i64 fr2, .int .i64 til2]) = w_15 at *
            refine wpAnyH_done (by kernel_rfl) ?_ _
            go_wp2
            go_meet
            exact ⟨w_1.heap.size, w_12.heap.size, rfl, rfl, HD_15.out, HC_15.out, Nat.lt_of_lt_of_le hLA_13 (Nat.le_trans HZ_14.out HZ_15.out), Nat.lt_of_lt_of_le hL_13 (Nat.le_trans HZ_14.out HZ_15.out), HB_15.out⟩
          · have hb_16 := alloc_below w_11 (.cells #[.string ⟨#[]⟩, .slice none 0 0, .int .i64 0, .int .u32 0, .int .i64 0, .int .i64 0] 35)
            have hB_16 := hB_11.trans (hb_16.mono hB_11.size)
            have hT_16 := box_there (Below.refl (w_11.alloc (.cells #[.string ⟨#[]⟩, .slice none 0 0, .int .i64 0, .int .u32 0, .int .i64 0, .int .i64 0] 35)).heap.size (w_11.alloc (.cells #[.string ⟨#[]⟩, .slice none 0 0, .int .i64 0, .int .u32 0, .int .i64 0, .int .i64 0] 35)))
            have hL_16 : w_11.heap.size < (w_11.alloc (.cells #[.string ⟨#[]⟩, .slice none 0 0, .int .i64 0, .int .u32 0, .int .i64 0, .int .i64 0] 35)).heap.size := by rw [World.size_alloc]; omega
            have hG_16 := hB_11.size
            have hTA_16 := there_later hT_11 hb_16 hL_11
            have hLA_16 := Nat.lt_of_lt_of_le hL_11 hb_16.size
            have hN_16 : w_1.heap.size ≠ w_11.heap.size := by have := hL_11; omega
            go_simp
            refine hK.out _ _ ⟨keep_cell a0 hB_16 hlta, keep_cell a1 hB_16 hlta, keep_cell a2 hB_16 hlta, keep_cell a3 hB_16 hlta, keep_cell a4 hB_16 hlta, keep_cell a5 hB_16 hlta, keep_cell b0 hB_16 hltb, keep_cell b1 hB_16 hltb, keep_cell b2 hB_16 hltb, keep_cell b3 hB_16 hltb, keep_cell b4 hB_16 hltb, keep_cell b5 hB_16 hltb⟩ (fun hHeld => ?_)
            clear hK K
            (try simp only [Act.put, List.setIfInBounds_toArray, List.set_cons_zero, List.set_cons_succ])
            generalize w_11.alloc (.cells #[.string ⟨#[]⟩, .slice none 0 0, .int .i64 0, .int .u32 0, .int .i64 0, .int .i64 0] 35) = w_16 at *
            refine held_step (i := 3) rfl (by kernel_rfl) (fun K hK => ?_)
            go_simp; go_at_call 13; refine (K2.out _ hB_16).mono ?_; rintro e w_17 ⟨rfl, hb_17⟩
            have hB_17 := hB_16.trans (hb_17.mono hB_16.size)
            have hTA_17 := there_later hTA_16 hb_17 hLA_16
            have hLA_17 := Nat.lt_of_lt_of_le hLA_16 hb_17.size
            have hTD_17 := there_later hT_16 hb_17 hL_16
            have hLD_17 := Nat.lt_of_lt_of_le hL_16 hb_17.size
            refine hK.out _ _ ⟨keep_cell a0 hB_17 hlta, keep_cell a1 hB_17 hlta, keep_cell a2 hB_17 hlta, keep_cell a3 hB_17 hlta, keep_cell a4 hB_17 hlta, keep_cell a5 hB_17 hlta, keep_cell b0 hB_17 hltb, keep_cell b1 hB_17 hltb, keep_cell b2 hB_17 hltb, keep_cell b3 hB_17 hltb, keep_cell b4 hB_17 hltb, keep_cell b5 hB_17 hltb⟩ (fun hHeld => ?_)
            clear hK K
            (try simp only [Act.put, List.setIfInBounds_toArray, List.set_cons_zero, List.set_cons_succ])
            have hNE := hN_16
            have f0 := there_free hTA_17 0 (by decide)
            have f1 := there_free hTA_17 1 (by decide)
            have f2 := there_free hTA_17 2 (by decide)
            have f3 := there_free hTA_17 3 (by decide)
            have f4 := there_free hTA_17 4 (by decide)
            have f5 := there_free hTA_17 5 (by decide)
            obtain ⟨y0, hy0⟩ := there_cell hTA_17 0 (by decide)
            obtain ⟨y1, hy1⟩ := there_cell hTA_17 1 (by decide)
            obtain ⟨y2, hy2⟩ := there_cell hTA_17 2 (by decide)
            obtain ⟨y3, hy3⟩ := there_cell hTA_17 3 (by decide)
            obtain ⟨y4, hy4⟩ := there_cell hTA_17 4 (by decide)
            obtain ⟨y5, hy5⟩ := there_cell hTA_17 5 (by decide)
            have HB_18 : Hid (Below w5.heap.size w5 (w_17.setCells w_1.heap.size 0 [.string src', .slice ga L.length gc, .int .i64 lv1, .int .u32 c, .int .i64 fr1, .int .i64 til1])) := Lib.hid (below_puts (g := w_1.heap.size) (o := 0) hB_17 hG_11 [.string src', .slice ga L.length gc, .int .i64 lv1, .int .u32 c, .int .i64 fr1, .int .i64 til1])
            have HZ_18 := Lib.hid (below_puts_base (g := w_1.heap.size) (o := 0) (Below.refl 0 w_17) (Nat.zero_le _) [.string src', .slice ga L.length gc, .int .i64 lv1, .int .u32 c, .int .i64 fr1, .int .i64 til1]).size
            have HC_18 := Lib.hid (c6_puts w_17 w_1.heap.size (.string src') (.slice ga L.length gc) (.int .i64 lv1) (.int .u32 c) (.int .i64 fr1) (.int .i64 til1) hTA_17)
            have HT_18 := Lib.hid (World.there_setCells hTD_17 w_1.heap.size 0 [.string src', .slice ga L.length gc, .int .i64 lv1, .int .u32 c, .int .i64 fr1, .int .i64 til1])
            refine held_step (i := 6) rfl (by kernel_rfl) (fun K hK => ?_)
            go_simp
            refine hK.out _ (w_17.setCells w_1.heap.size 0 [.string src', .slice ga L.length gc, .int .i64 lv1, .int .u32 c, .int .i64 fr1, .int .i64 til1]) ⟨keep_cell a0 HB_18.out hlta, keep_cell a1 HB_18.out hlta, keep_cell a2 HB_18.out hlta, keep_cell a3 HB_18.out hlta, keep_cell a4 HB_18.out hlta, keep_cell a5 HB_18.out hlta, keep_cell b0 HB_18.out hltb, keep_cell b1 HB_18.out hltb, keep_cell b2 HB_18.out hltb, keep_cell b3 HB_18.out hltb, keep_cell b4 HB_18.out hltb, keep_cell b5 HB_18.out hltb⟩ (fun hHeld => ?_)
            clear hK K
            (try simp only [Act.put, List.setIfInBounds_toArray, List.set_cons_zero, List.set_cons_succ])
            generalize (w_17.setCells w_1.heap.size 0 [.string src', .slice ga L.length gc, .int .i64 lv1, .int .u32 c, .int .i64 fr1, .int .i64 til1]) = w_18 at *
            clear f0 f1 f2 f3 f4 f5 hy0 hy1 hy2 hy3 hy4 hy5 y0 y1 y2 y3 y4 y5
            have f0 := there_free HT_18.out 0 (by decide)
            have f1 := there_free HT_18.out 1 (by decide)
            have f2 := there_free HT_18.out 2 (by decide)
            have f3 := there_free HT_18.out 3 (by decide)
            have f4 := there_free HT_18.out 4 (by decide)
            have f5 := there_free HT_18.out 5 (by decide)
            obtain ⟨y0, hy0⟩ := there_cell HT_18.out 0 (by decide)
            obtain ⟨y1, hy1⟩ := there_cell HT_18.out 1 (by decide)
            obtain ⟨y2, hy2⟩ := there_cell HT_18.out 2 (by decide)
            obtain ⟨y3, hy3⟩ := there_cell HT_18.out 3 (by decide)
            obtain ⟨y4, hy4⟩ := there_cell HT_18.out 4 (by decide)
            obtain ⟨y5, hy5⟩ := there_cell HT_18.out 5 (by decide)
            have HB_19 : Hid (Below w5.heap.size w5 (w_18.setCells w_11.heap.size 0 [.string src', .slice ua L.length uc, .int .i64 lv2, .int .u32 lc, .int .i64 fr2, .int .i64 til2])) := Lib.hid (below_puts (g := w_11.heap.size) (o := 0) HB_18.out hG_16 [.string src', .slice ua L.length uc, .int .i64 lv2, .int .u32 lc, .int .i64 fr2, .int .i64 til2])
            have HZ_19 := Lib.hid (below_puts_base (g := w_11.heap.size) (o := 0) (Below.refl 0 w_18) (Nat.zero_le _) [.string src', .slice ua L.length uc, .int .i64 lv2, .int .u32 lc, .int .i64 fr2, .int .i64 til2]).size
            have HC_19 := Lib.hid (c6_puts w_18 w_11.heap.size (.string src') (.slice ua L.length uc) (.int .i64 lv2) (.int .u32 lc) (.int .i64 fr2) (.int .i64 til2) HT_18.out)
            have HD_19 := Lib.hid (c6_out HC_18.out hNE 0 [.string src', .slice ua L.length uc, .int .i64 lv2, .int .u32 lc, .int .i64 fr2, .int .i64 til2])
            refine held_step (i := 7) rfl (by kernel_rfl) (fun K hK => ?_)
            go_simp
            refine hK.out _ (w_18.setCells w_11.heap.size 0 [.string src', .slice ua L.length uc, .int .i64 lv2, .int .u32 lc, .int .i64 fr2, .int .i64 til2]) ⟨keep_cell a0 HB_19.out hlta, keep_cell a1 HB_19.out hlta, keep_cell a2 HB_19.out hlta, keep_cell a3 HB_19.out hlta, keep_cell a4 HB_19.out hlta, keep_cell a5 HB_19.out hlta, keep_cell b0 HB_19.out hltb, keep_cell b1 HB_19.out hltb, keep_cell b2 HB_19.out hltb, keep_cell b3 HB_19.out hltb, keep_cell b4 HB_19.out hltb, keep_cell b5 HB_19.out hltb⟩ (fun hHeld => ?_)
            clear hK K
            (try simp only [Act.put, List.setIfInBounds_toArray, List.set_cons_zero, List.set_cons_succ])
            generalize (w_18.setCells w_11.heap.size 0 [.string src', .slice ua L.length uc, .int .i64 lv2, .int .u32 lc, .int .i64 fr2, .int .i64 til2]) = w_19 at *
            refine wpAnyH_done (by kernel_rfl) ?_ _
            go_wp2
            go_meet
            exact ⟨w_1.heap.size, w_11.heap.size, rfl, rfl, HD_19.out, HC_19.out, Nat.lt_of_lt_of_le hLA_17 (Nat.le_trans HZ_18.out HZ_19.out), Nat.lt_of_lt_of_le hLD_17 (Nat.le_trans HZ_18.out HZ_19.out), HB_19.out⟩
        · have hb_20 := alloc_below w_1 (.cells #[.string ⟨#[]⟩, .slice none 0 0, .int .i64 0, .int .u32 0, .int .i64 0, .int .i64 0] 35)
          have hB_20 := hB_1.trans (hb_20.mono hB_1.size)
          have hT_20 := box_there (Below.refl (w_1.alloc (.cells #[.string ⟨#[]⟩, .slice none 0 0, .int .i64 0, .int .u32 0, .int .i64 0, .int .i64 0] 35)).heap.size (w_1.alloc (.cells #[.string ⟨#[]⟩, .slice none 0 0, .int .i64 0, .int .u32 0, .int .i64 0, .int .i64 0] 35)))
          have hL_20 : w_1.heap.size < (w_1.alloc (.cells #[.string ⟨#[]⟩, .slice none 0 0, .int .i64 0, .int .u32 0, .int .i64 0, .int .i64 0] 35)).heap.size := by rw [World.size_alloc]; omega
          have hG_20 := hB_1.size
          go_simp
          refine hK.out _ _ ⟨keep_cell a0 hB_20 hlta, keep_cell a1 hB_20 hlta, keep_cell a2 hB_20 hlta, keep_cell a3 hB_20 hlta, keep_cell a4 hB_20 hlta, keep_cell a5 hB_20 hlta, keep_cell b0 hB_20 hltb, keep_cell b1 hB_20 hltb, keep_cell b2 hB_20 hltb, keep_cell b3 hB_20 hltb, keep_cell b4 hB_20 hltb, keep_cell b5 hB_20 hltb⟩ (fun hHeld => ?_)
          clear hK K
          (try simp only [Act.put, List.setIfInBounds_toArray, List.set_cons_zero, List.set_cons_succ])
          generalize w_1.alloc (.cells #[.string ⟨#[]⟩, .slice none 0 0, .int .i64 0, .int .u32 0, .int .i64 0, .int .i64 0] 35) = w_20 at *
          refine held_two (i := 3) (j := 4) rfl rfl (by kernel_rfl) (fun K hK => ?_) (fun K hK => ?_)
          · go_simp; go_at_call 13; refine (K2.out _ hB_20).mono ?_; rintro e w_21 ⟨rfl, hb_21⟩
            have hB_21 := hB_20.trans (hb_21.mono hB_20.size)
            have hTD_21 := there_later hT_20 hb_21 hL_20
            have hLD_21 := Nat.lt_of_lt_of_le hL_20 hb_21.size
            refine hK.out _ _ ⟨keep_cell a0 hB_21 hlta, keep_cell a1 hB_21 hlta, keep_cell a2 hB_21 hlta, keep_cell a3 hB_21 hlta, keep_cell a4 hB_21 hlta, keep_cell a5 hB_21 hlta, keep_cell b0 hB_21 hltb, keep_cell b1 hB_21 hltb, keep_cell b2 hB_21 hltb, keep_cell b3 hB_21 hltb, keep_cell b4 hB_21 hltb, keep_cell b5 hB_21 hltb⟩ (fun hHeld => ?_)
            clear hK K
            (try simp only [Act.put, List.setIfInBounds_toArray, List.set_cons_zero, List.set_cons_succ])
            refine held_step (i := 4) rfl (by kernel_rfl) (fun K hK => ?_)
            have hb_22 := alloc_below w_21 (.cells #[.string ⟨#[]⟩, .slice none 0 0, .int .i64 0, .int .u32 0, .int .i64 0, .int .i64 0] 35)
            have hB_22 := hB_21.trans (hb_22.mono hB_21.size)
            have hT_22 := box_there (Below.refl (w_21.alloc (.cells #[.string ⟨#[]⟩, .slice none 0 0, .int .i64 0, .int .u32 0, .int .i64 0, .int .i64 0] 35)).heap.size (w_21.alloc (.cells #[.string ⟨#[]⟩, .slice none 0 0, .int .i64 0, .int .u32 0, .int .i64 0, .int .i64 0] 35)))
            have hL_22 : w_21.heap.size < (w_21.alloc (.cells #[.string ⟨#[]⟩, .slice none 0 0, .int .i64 0, .int .u32 0, .int .i64 0, .int .i64 0] 35)).heap.size := by rw [World.size_alloc]; omega
            have hG_22 := hB_21.size
            have hTD_22 := there_later hTD_21 hb_22 hLD_21
            have hLD_22 := Nat.lt_of_lt_of_le hLD_21 hb_22.size
            have hN_22 : w_21.heap.size ≠ w_1.heap.size := by have := hLD_21; omega
            go_simp
            refine hK.out _ _ ⟨keep_cell a0 hB_22 hlta, keep_cell a1 hB_22 hlta, keep_cell a2 hB_22 hlta, keep_cell a3 hB_22 hlta, keep_cell a4 hB_22 hlta, keep_cell a5 hB_22 hlta, keep_cell b0 hB_22 hltb, keep_cell b1 hB_22 hltb, keep_cell b2 hB_22 hltb, keep_cell b3 hB_22 hltb, keep_cell b4 hB_22 hltb, keep_cell b5 hB_22 hltb⟩ (fun hHeld => ?_)
            clear hK K
            (try simp only [Act.put, List.setIfInBounds_toArray, List.set_cons_zero, List.set_cons_succ])
            generalize w_21.alloc (.cells #[.string ⟨#[]⟩, .slice none 0 0, .int .i64 0, .int .u32 0, .int .i64 0, .int .i64 0] 35) = w_22 at *
            have hNE := hN_22
            have f0 := there_free hT_22 0 (by decide)
            have f1 := there_free hT_22 1 (by decide)
            have f2 := there_free hT_22 2 (by decide)
            have f3 := there_free hT_22 3 (by decide)
            have f4 := there_free hT_22 4 (by decide)
            have f5 := there_free hT_22 5 (by decide)
            obtain ⟨y0, hy0⟩ := there_cell hT_22 0 (by decide)
            obtain ⟨y1, hy1⟩ := there_cell hT_22 1 (by decide)
            obtain ⟨y2, hy2⟩ := there_cell hT_22 2 (by decide)
            obtain ⟨y3, hy3⟩ := there_cell hT_22 3 (by decide)
            obtain ⟨y4, hy4⟩ := there_cell hT_22 4 (by decide)
            obtain ⟨y5, hy5⟩ := there_cell hT_22 5 (by decide)
            have HB_23 : Hid (Below w5.heap.size w5 (w_22.setCells w_21.heap.size 0 [.string src', .slice ga L.length gc, .int .i64 lv1, .int .u32 c, .int .i64 fr1, .int .i64 til1])) := Lib.hid (below_puts (g := w_21.heap.size) (o := 0) hB_22 hG_22 [.string src', .slice ga L.length gc, .int .i64 lv1, .int .u32 c, .int .i64 fr1, .int .i64 til1])
            have HZ_23 := Lib.hid (below_puts_base (g := w_21.heap.size) (o := 0) (Below.refl 0 w_22) (Nat.zero_le _) [.string src', .slice ga L.length gc, .int .i64 lv1, .int .u32 c, .int .i64 fr1, .int .i64 til1]).size
            have HC_23 := Lib.hid (c6_puts w_22 w_21.heap.size (.string src') (.slice ga L.length gc) (.int .i64 lv1) (.int .u32 c) (.int .i64 fr1) (.int .i64 til1) hT_22)
            have HT_23 := Lib.hid (World.there_setCells hTD_22 w_21.heap.size 0 [.string src', .slice ga L.length gc, .int .i64 lv1, .int .u32 c, .int .i64 fr1, .int .i64 til1])
            refine held_step (i := 6) rfl (by kernel_rfl) (fun K hK => ?_)
            go_simp
            refine hK.out _ (w_22.setCells w_21.heap.size 0 [.string src', .slice ga L.length gc, .int .i64 lv1, .int .u32 c, .int .i64 fr1, .int .i64 til1]) ⟨keep_cell a0 HB_23.out hlta, keep_cell a1 HB_23.out hlta, keep_cell a2 HB_23.out hlta, keep_cell a3 HB_23.out hlta, keep_cell a4 HB_23.out hlta, keep_cell a5 HB_23.out hlta, keep_cell b0 HB_23.out hltb, keep_cell b1 HB_23.out hltb, keep_cell b2 HB_23.out hltb, keep_cell b3 HB_23.out hltb, keep_cell b4 HB_23.out hltb, keep_cell b5 HB_23.out hltb⟩ (fun hHeld => ?_)
            clear hK K
            (try simp only [Act.put, List.setIfInBounds_toArray, List.set_cons_zero, List.set_cons_succ])
            generalize (w_22.setCells w_21.heap.size 0 [.string src', .slice ga L.length gc, .int .i64 lv1, .int .u32 c, .int .i64 fr1, .int .i64 til1]) = w_23 at *
            clear f0 f1 f2 f3 f4 f5 hy0 hy1 hy2 hy3 hy4 hy5 y0 y1 y2 y3 y4 y5
            have f0 := there_free HT_23.out 0 (by decide)
            have f1 := there_free HT_23.out 1 (by decide)
            have f2 := there_free HT_23.out 2 (by decide)
            have f3 := there_free HT_23.out 3 (by decide)
            have f4 := there_free HT_23.out 4 (by decide)
            have f5 := there_free HT_23.out 5 (by decide)
            obtain ⟨y0, hy0⟩ := there_cell HT_23.out 0 (by decide)
            obtain ⟨y1, hy1⟩ := there_cell HT_23.out 1 (by decide)
            obtain ⟨y2, hy2⟩ := there_cell HT_23.out 2 (by decide)
            obtain ⟨y3, hy3⟩ := there_cell HT_23.out 3 (by decide)
            obtain ⟨y4, hy4⟩ := there_cell HT_23.out 4 (by decide)
            obtain ⟨y5, hy5⟩ := there_cell HT_23.out 5 (by decide)
            have HB_24 : Hid (Below w5.heap.size w5 (w_23.setCells w_1.heap.size 0 [.string src', .slice ua L.length uc, .int .i64 lv2, .int .u32 lc, .int .i64 fr2, .int .i64 til2])) := Lib.hid (below_puts (g := w_1.heap.size) (o := 0) HB_23.out hG_20 [.string src', .slice ua L.length uc, .int .i64 lv2, .int .u32 lc, .int .i64 fr2, .int .i64 til2])
            have HZ_24 := Lib.hid (below_puts_base (g := w_1.heap.size) (o := 0) (Below.refl 0 w_23) (Nat.zero_le _) [.string src', .slice ua L.length uc, .int .i64 lv2, .int .u32 lc, .int .i64 fr2, .int .i64 til2]).size
            have HC_24 := Lib.hid (c6_puts w_23 w_1.heap.size (.string src') (.slice ua L.length uc) (.int .i64 lv2) (.int .u32 lc) (.int .i64 fr2) (.int .i64 til2) HT_23.out)
            have HD_24 := Lib.hid (c6_out HC_23.out hNE 0 [.string src', .slice ua L.length uc, .int .i64 lv2, .int .u32 lc, .int .i64 fr2, .int .i64 til2])
            refine held_step (i := 7) rfl (by kernel_rfl) (fun K hK => ?_)
            go_simp
            refine hK.out _ (w_23.setCells w_1.heap.size 0 [.string src', .slice ua L.length uc, .int .i64 lv2, .int .u32 lc, .int .i64 fr2, .int .i64 til2]) ⟨keep_cell a0 HB_24.out hlta, keep_cell a1 HB_24.out hlta, keep_cell a2 HB_24.out hlta, keep_cell a3 HB_24.out hlta, keep_cell a4 HB_24.out hlta, keep_cell a5 HB_24.out hlta, keep_cell b0 HB_24.out hltb, keep_cell b1 HB_24.out hltb, keep_cell b2 HB_24.out hltb, keep_cell b3 HB_24.out hltb, keep_cell b4 HB_24.out hltb, keep_cell b5 HB_24.out hltb⟩ (fun hHeld => ?_)
            clear hK K
            (try simp only [Act.put, List.setIfInBounds_toArray, List.set_cons_zero, List.set_cons_succ])
            generalize (w_23.setCells w_1.heap.size 0 [.string src', .slice ua L.length uc, .int .i64 lv2, .int .u32 lc, .int .i64 fr2, .int .i64 til2]) = w_24 at *
            refine wpAnyH_done (by kernel_rfl) ?_ _
            go_wp2
            go_meet
            exact ⟨w_21.heap.size, w_1.heap.size, rfl, rfl, HD_24.out, HC_24.out, Nat.lt_of_lt_of_le hL_22 (Nat.le_trans HZ_23.out HZ_24.out), Nat.lt_of_lt_of_le hLD_22 (Nat.le_trans HZ_23.out HZ_24.out), HB_24.out⟩
          · have hb_25 := alloc_below w_20 (.cells #[.string ⟨#[]⟩, .slice none 0 0, .int .i64 0, .int .u32 0, .int .i64 0, .int .i64 0] 35)
            have hB_25 := hB_20.trans (hb_25.mono hB_20.size)
            have hT_25 := box_there (Below.refl (w_20.alloc (.cells #[.string ⟨#[]⟩, .slice none 0 0, .int .i64 0, .int .u32 0, .int .i64 0, .int .i64 0] 35)).heap.size (w_20.alloc (.cells #[.string ⟨#[]⟩, .slice none 0 0, .int .i64 0, .int .u32 0, .int .i64 0, .int .i64 0] 35)))
            have hL_25 : w_20.heap.size < (w_20.alloc (.cells #[.string ⟨#[]⟩, .slice none 0 0, .int .i64 0, .int .u32 0, .int .i64 0, .int .i64 0] 35)).heap.size := by rw [World.size_alloc]; omega
            have hG_25 := hB_20.size
            have hTD_25 := there_later hT_20 hb_25 hL_20
            have hLD_25 := Nat.lt_of_lt_of_le hL_20 hb_25.size
            have hN_25 : w_20.heap.size ≠ w_1.heap.size := by have := hL_20; omega
            go_simp
            refine hK.out _ _ ⟨keep_cell a0 hB_25 hlta, keep_cell a1 hB_25 hlta, keep_cell a2 hB_25 hlta, keep_cell a3 hB_25 hlta, keep_cell a4 hB_25 hlta, keep_cell a5 hB_25 hlta, keep_cell b0 hB_25 hltb, keep_cell b1 hB_25 hltb, keep_cell b2 hB_25 hltb, keep_cell b3 hB_25 hltb, keep_cell b4 hB_25 hltb, keep_cell b5 hB_25 hltb⟩ (fun hHeld => ?_)
            clear hK K
            (try simp only [Act.put, List.setIfInBounds_toArray, List.set_cons_zero, List.set_cons_succ])
            generalize w_20.alloc (.cells #[.string ⟨#[]⟩, .slice none 0 0, .int .i64 0, .int .u32 0, .int .i64 0, .int .i64 0] 35) = w_25 at *
            refine held_step (i := 3) rfl (by kernel_rfl) (fun K hK => ?_)
            go_simp; go_at_call 13; refine (K2.out _ hB_25).mono ?_; rintro e w_26 ⟨rfl, hb_26⟩
            have hB_26 := hB_25.trans (hb_26.mono hB_25.size)
            have hTA_26 := there_later hT_25 hb_26 hL_25
            have hLA_26 := Nat.lt_of_lt_of_le hL_25 hb_26.size
            have hTD_26 := there_later hTD_25 hb_26 hLD_25
            have hLD_26 := Nat.lt_of_lt_of_le hLD_25 hb_26.size
            refine hK.out _ _ ⟨keep_cell a0 hB_26 hlta, keep_cell a1 hB_26 hlta, keep_cell a2 hB_26 hlta, keep_cell a3 hB_26 hlta, keep_cell a4 hB_26 hlta, keep_cell a5 hB_26 hlta, keep_cell b0 hB_26 hltb, keep_cell b1 hB_26 hltb, keep_cell b2 hB_26 hltb, keep_cell b3 hB_26 hltb, keep_cell b4 hB_26 hltb, keep_cell b5 hB_26 hltb⟩ (fun hHeld => ?_)
            clear hK K
            (try simp only [Act.put, List.setIfInBounds_toArray, List.set_cons_zero, List.set_cons_succ])
            have hNE := hN_25
            have f0 := there_free hTA_26 0 (by decide)
            have f1 := there_free hTA_26 1 (by decide)
            have f2 := there_free hTA_26 2 (by decide)
            have f3 := there_free hTA_26 3 (by decide)
            have f4 := there_free hTA_26 4 (by decide)
            have f5 := there_free hTA_26 5 (by decide)
            obtain ⟨y0, hy0⟩ := there_cell hTA_26 0 (by decide)
            obtain ⟨y1, hy1⟩ := there_cell hTA_26 1 (by decide)
            obtain ⟨y2, hy2⟩ := there_cell hTA_26 2 (by decide)
            obtain ⟨y3, hy3⟩ := there_cell hTA_26 3 (by decide)
            obtain ⟨y4, hy4⟩ := there_cell hTA_26 4 (by decide)
            obtain ⟨y5, hy5⟩ := there_cell hTA_26 5 (by decide)
            have HB_27 : Hid (Below w5.heap.size w5 (w_26.setCells w_20.heap.size 0 [.string src', .slice ga L.length gc, .int .i64 lv1, .int .u32 c, .int .i64 fr1, .int .i64 til1])) := Lib.hid (below_puts (g := w_20.heap.size) (o := 0) hB_26 hG_25 [.string src', .slice ga L.length gc, .int .i64 lv1, .int .u32 c, .int .i64 fr1, .int .i64 til1])
            have HZ_27 := Lib.hid (below_puts_base (g := w_20.heap.size) (o := 0) (Below.refl 0 w_26) (Nat.zero_le _) [.string src', .slice ga L.length gc, .int .i64 lv1, .int .u32 c, .int .i64 fr1, .int .i64 til1]).size
            have HC_27 := Lib.hid (c6_puts w_26 w_20.heap.size (.string src') (.slice ga L.length gc) (.int .i64 lv1) (.int .u32 c) (.int .i64 fr1) (.int .i64 til1) hTA_26)
            have HT_27 := Lib.hid (World.there_setCells hTD_26 w_20.heap.size 0 [.string src', .slice ga L.length gc, .int .i64 lv1, .int .u32 c, .int .i64 fr1, .int .i64 til1])
            refine held_step (i := 6) rfl (by kernel_rfl) (fun K hK => ?_)
            go_simp
            refine hK.out _ (w_26.setCells w_20.heap.size 0 [.string src', .slice ga L.length gc, .int .i64 lv1, .int .u32 c, .int .i64 fr1, .int .i64 til1]) ⟨keep_cell a0 HB_27.out hlta, keep_cell a1 HB_27.out hlta, keep_cell a2 HB_27.out hlta, keep_cell a3 HB_27.out hlta, keep_cell a4 HB_27.out hlta, keep_cell a5 HB_27.out hlta, keep_cell b0 HB_27.out hltb, keep_cell b1 HB_27.out hltb, keep_cell b2 HB_27.out hltb, keep_cell b3 HB_27.out hltb, keep_cell b4 HB_27.out hltb, keep_cell b5 HB_27.out hltb⟩ (fun hHeld => ?_)
            clear hK K
            (try simp only [Act.put, List.setIfInBounds_toArray, List.set_cons_zero, List.set_cons_succ])
            generalize (w_26.setCells w_20.heap.size 0 [.string src', .slice ga L.length gc, .int .i64 lv1, .int .u32 c, .int .i64 fr1, .int .i64 til1]) = w_27 at *
            clear f0 f1 f2 f3 f4 f5 hy0 hy1 hy2 hy3 hy4 hy5 y0 y1 y2 y3 y4 y5
            have f0 := there_free HT_27.out 0 (by decide)
            have f1 := there_free HT_27.out 1 (by decide)
            have f2 := there_free HT_27.out 2 (by decide)
            have f3 := there_free HT_27.out 3 (by decide)
            have f4 := there_free HT_27.out 4 (by decide)
            have f5 := there_free HT_27.out 5 (by decide)
            obtain ⟨y0, hy0⟩ := there_cell HT_27.out 0 (by decide)
            obtain ⟨y1, hy1⟩ := there_cell HT_27.out 1 (by decide)
            obtain ⟨y2, hy2⟩ := there_cell HT_27.out 2 (by decide)
            obtain ⟨y3, hy3⟩ := there_cell HT_27.out 3 (by decide)
            obtain ⟨y4, hy4⟩ := there_cell HT_27.out 4 (by decide)
            obtain ⟨y5, hy5⟩ := there_cell HT_27.out 5 (by decide)
            have HB_28 : Hid (Below w5.heap.size w5 (w_27.setCells w_1.heap.size 0 [.string src', .slice ua L.length uc, .int .i64 lv2, .int .u32 lc, .int .i64 fr2, .int .i64 til2])) := Lib.hid (below_puts (g := w_1.heap.size) (o := 0) HB_27.out hG_20 [.string src', .slice ua L.length uc, .int .i64 lv2, .int .u32 lc, .int .i64 fr2, .int .i64 til2])
            have HZ_28 := Lib.hid (below_puts_base (g := w_1.heap.size) (o := 0) (Below.refl 0 w_27) (Nat.zero_le _) [.string src', .slice ua L.length uc, .int .i64 lv2, .int .u32 lc, .int .i64 fr2, .int .i64 til2]).size
            have HC_28 := Lib.hid (c6_puts w_27 w_1.heap.size (.string src') (.slice ua L.length uc) (.int .i64 lv2) (.int .u32 lc) (.int .i64 fr2) (.int .i64 til2) HT_27.out)
            have HD_28 := Lib.hid (c6_out HC_27.out hNE 0 [.string src', .slice ua L.length uc, .int .i64 lv2, .int .u32 lc, .int .i64 fr2, .int .i64 til2])
            refine held_step (i := 7) rfl (by kernel_rfl) (fun K hK => ?_)
            go_simp
            refine hK.out _ (w_27.setCells w_1.heap.size 0 [.string src', .slice ua L.length uc, .int .i64 lv2, .int .u32 lc, .int .i64 fr2, .int .i64 til2]) ⟨keep_cell a0 HB_28.out hlta, keep_cell a1 HB_28.out hlta, keep_cell a2 HB_28.out hlta, keep_cell a3 HB_28.out hlta, keep_cell a4 HB_28.out hlta, keep_cell a5 HB_28.out hlta, keep_cell b0 HB_28.out hltb, keep_cell b1 HB_28.out hltb, keep_cell b2 HB_28.out hltb, keep_cell b3 HB_28.out hltb, keep_cell b4 HB_28.out hltb, keep_cell b5 HB_28.out hltb⟩ (fun hHeld => ?_)
            clear hK K
            (try simp only [Act.put, List.setIfInBounds_toArray, List.set_cons_zero, List.set_cons_succ])
            generalize (w_27.setCells w_1.heap.size 0 [.string src', .slice ua L.length uc, .int .i64 lv2, .int .u32 lc, .int .i64 fr2, .int .i64 til2]) = w_28 at *
            refine wpAnyH_done (by kernel_rfl) ?_ _
            go_wp2
            go_meet
            exact ⟨w_20.heap.size, w_1.heap.size, rfl, rfl, HD_28.out, HC_28.out, Nat.lt_of_lt_of_le hLA_26 (Nat.le_trans HZ_27.out HZ_28.out), Nat.lt_of_lt_of_le hLD_26 (Nat.le_trans HZ_27.out HZ_28.out), HB_28.out⟩
      · have hb_29 := alloc_below wd (.cells #[.string ⟨#[]⟩, .slice none 0 0, .int .i64 0, .int .u32 0, .int .i64 0, .int .i64 0] 35)
        have hB_29 := hd.trans (hb_29.mono hd.size)
        have hT_29 := box_there (Below.refl (wd.alloc (.cells #[.string ⟨#[]⟩, .slice none 0 0, .int .i64 0, .int .u32 0, .int .i64 0, .int .i64 0] 35)).heap.size (wd.alloc (.cells #[.string ⟨#[]⟩, .slice none 0 0, .int .i64 0, .int .u32 0, .int .i64 0, .int .i64 0] 35)))
        have hL_29 : wd.heap.size < (wd.alloc (.cells #[.string ⟨#[]⟩, .slice none 0 0, .int .i64 0, .int .u32 0, .int .i64 0, .int .i64 0] 35)).heap.size := by rw [World.size_alloc]; omega
        have hG_29 := hd.size
        go_simp
        refine hK.out _ _ ⟨keep_cell a0 hB_29 hlta, keep_cell a1 hB_29 hlta, keep_cell a2 hB_29 hlta, keep_cell a3 hB_29 hlta, keep_cell a4 hB_29 hlta, keep_cell a5 hB_29 hlta, keep_cell b0 hB_29 hltb, keep_cell b1 hB_29 hltb, keep_cell b2 hB_29 hltb, keep_cell b3 hB_29 hltb, keep_cell b4 hB_29 hltb, keep_cell b5 hB_29 hltb⟩ (fun hHeld => ?_)
        clear hK K
        (try simp only [Act.put, List.setIfInBounds_toArray, List.set_cons_zero, List.set_cons_succ])
        generalize wd.alloc (.cells #[.string ⟨#[]⟩, .slice none 0 0, .int .i64 0, .int .u32 0, .int .i64 0, .int .i64 0] 35) = w_29 at *
        refine held_two (i := 1) (j := 5) rfl rfl (by kernel_rfl) (fun K hK => ?_) (fun K hK => ?_)
        · go_simp; go_at_call 13; refine (K1.out _ hB_29).mono ?_; rintro e w_30 ⟨rfl, hb_30⟩
          have hB_30 := hB_29.trans (hb_30.mono hB_29.size)
          have hTA_30 := there_later hT_29 hb_30 hL_29
          have hLA_30 := Nat.lt_of_lt_of_le hL_29 hb_30.size
          refine hK.out _ _ ⟨keep_cell a0 hB_30 hlta, keep_cell a1 hB_30 hlta, keep_cell a2 hB_30 hlta, keep_cell a3 hB_30 hlta, keep_cell a4 hB_30 hlta, keep_cell a5 hB_30 hlta, keep_cell b0 hB_30 hltb, keep_cell b1 hB_30 hltb, keep_cell b2 hB_30 hltb, keep_cell b3 hB_30 hltb, keep_cell b4 hB_30 hltb, keep_cell b5 hB_30 hltb⟩ (fun hHeld => ?_)
          clear hK K
          (try simp only [Act.put, List.setIfInBounds_toArray, List.set_cons_zero, List.set_cons_succ])
          refine held_two (i := 3) (j := 5) rfl rfl (by kernel_rfl) (fun K hK => ?_) (fun K hK => ?_)
          · go_simp; go_at_call 13; refine (K2.out _ hB_30).mono ?_; rintro e w_31 ⟨rfl, hb_31⟩
            have hB_31 := hB_30.trans (hb_31.mono hB_30.size)
            have hTA_31 := there_later hTA_30 hb_31 hLA_30
            have hLA_31 := Nat.lt_of_lt_of_le hLA_30 hb_31.size
            refine hK.out _ _ ⟨keep_cell a0 hB_31 hlta, keep_cell a1 hB_31 hlta, keep_cell a2 hB_31 hlta, keep_cell a3 hB_31 hlta, keep_cell a4 hB_31 hlta, keep_cell a5 hB_31 hlta, keep_cell b0 hB_31 hltb, keep_cell b1 hB_31 hltb, keep_cell b2 hB_31 hltb, keep_cell b3 hB_31 hltb, keep_cell b4 hB_31 hltb, keep_cell b5 hB_31 hltb⟩ (fun hHeld => ?_)
            clear hK K
            (try simp only [Act.put, List.setIfInBounds_toArray, List.set_cons_zero, List.set_cons_succ])
            refine held_step (i := 5) rfl (by kernel_rfl) (fun K hK => ?_)
            have hb_32 := alloc_below w_31 (.cells #[.string ⟨#[]⟩, .slice none 0 0, .int .i64 0, .int .u32 0, .int .i64 0, .int .i64 0] 35)
            have hB_32 := hB_31.trans (hb_32.mono hB_31.size)
            have hT_32 := box_there (Below.refl (w_31.alloc (.cells #[.string ⟨#[]⟩, .slice none 0 0, .int .i64 0, .int .u32 0, .int .i64 0, .int .i64 0] 35)).heap.size (w_31.alloc (.cells #[.string ⟨#[]⟩, .slice none 0 0, .int .i64 0, .int .u32 0, .int .i64 0, .int .i64 0] 35)))
            have hL_32 : w_31.heap.size < (w_31.alloc (.cells #[.string ⟨#[]⟩, .slice none 0 0, .int .i64 0, .int .u32 0, .int .i64 0, .int .i64 0] 35)).heap.size := by rw [World.size_alloc]; omega
            have hG_32 := hB_31.size
            have hTA_32 := there_later hTA_31 hb_32 hLA_31
            have hLA_32 := Nat.lt_of_lt_of_le hLA_31 hb_32.size
            have hN_32 : wd.heap.size ≠ w_31.heap.size := by have := hLA_31; omega
            go_simp
            refine hK.out _ _ ⟨keep_cell a0 hB_32 hlta, keep_cell a1 hB_32 hlta, keep_cell a2 hB_32 hlta, keep_cell a3 hB_32 hlta, keep_cell a4 hB_32 hlta, keep_cell a5 hB_32 hlta, keep_cell b0 hB_32 hltb, keep_cell b1 hB_32 hltb, keep_cell b2 hB_32 hltb, keep_cell b3 hB_32 hltb, keep_cell b4 hB_32 hltb, keep_cell b5 hB_32 hltb⟩ (fun hHeld => ?_)
            clear hK K
            (try simp only [Act.put, List.setIfInBounds_toArray, List.set_cons_zero, List.set_cons_succ])
            generalize w_31.alloc (.cells #[.string ⟨#[]⟩, .slice none 0 0, .int .i64 0, .int .u32 0, .int .i64 0, .int .i64 0] 35) = w_32 at *
            have hNE := hN_32
            have f0 := there_free hTA_32 0 (by decide)
            have f1 := there_free hTA_32 1 (by decide)
            have f2 := there_free hTA_32 2 (by decide)
            have f3 := there_free hTA_32 3 (by decide)
            have f4 := there_free hTA_32 4 (by decide)
            have f5 := there_free hTA_32 5 (by decide)
            obtain ⟨y0, hy0⟩ := there_cell hTA_32 0 (by decide)
            obtain ⟨y1, hy1⟩ := there_cell hTA_32 1 (by decide)
            obtain ⟨y2, hy2⟩ := there_cell hTA_32 2 (by decide)
            obtain ⟨y3, hy3⟩ := there_cell hTA_32 3 (by decide)
            obtain ⟨y4, hy4⟩ := there_cell hTA_32 4 (by decide)
            obtain ⟨y5, hy5⟩ := there_cell hTA_32 5 (by decide)
            have HB_33 : Hid (Below w5.heap.size w5 (w_32.setCells wd.heap.size 0 [.string src', .slice ga L.length gc, .int .i64 lv1, .int .u32 c, .int .i64 fr1, .int .i64 til1])) := Lib.hid (below_puts (g := wd.heap.size) (o := 0) hB_32 hG_29 [.string src', .slice ga L.length gc, .int .i64 lv1, .int .u32 c, .int .i64 fr1, .int .i64 til1])
            have HZ_33 := Lib.hid (below_puts_base (g := wd.heap.size) (o := 0) (Below.refl 0 w_32) (Nat.zero_le _) [.string src', .slice ga L.length gc, .int .i64 lv1, .int .u32 c, .int .i64 fr1, .int .i64 til1]).size
            have HC_33 := Lib.hid (c6_puts w_32 wd.heap.size (.string src') (.slice ga L.length gc) (.int .i64 lv1) (.int .u32 c) (.int .i64 fr1) (.int .i64 til1) hTA_32)
            have HT_33 := Lib.hid (World.there_setCells hT_32 wd.heap.size 0 [.string src', .slice ga L.length gc, .int .i64 lv1, .int .u32 c, .int .i64 fr1, .int .i64 til1])
            refine held_step (i := 6) rfl (by kernel_rfl) (fun K hK => ?_)
            go_simp
            refine hK.out _ (w_32.setCells wd.heap.size 0 [.string src', .slice ga L.length gc, .int .i64 lv1, .int .u32 c, .int .i64 fr1, .int .i64 til1]) ⟨keep_cell a0 HB_33.out hlta, keep_cell a1 HB_33.out hlta, keep_cell a2 HB_33.out hlta, keep_cell a3 HB_33.out hlta, keep_cell a4 HB_33.out hlta, keep_cell a5 HB_33.out hlta, keep_cell b0 HB_33.out hltb, keep_cell b1 HB_33.out hltb, keep_cell b2 HB_33.out hltb, keep_cell b3 HB_33.out hltb, keep_cell b4 HB_33.out hltb, keep_cell b5 HB_33.out hltb⟩ (fun hHeld => ?_)
            clear hK K
            (try simp only [Act.put, List.setIfInBounds_toArray, List.set_cons_zero, List.set_cons_succ])
            generalize (w_32.setCells wd.heap.size 0 [.string src', .slice ga L.length gc, .int .i64 lv1, .int .u32 c, .int .i64 fr1, .int .i64 til1]) = w_33 at *
            clear f0 f1 f2 f3 f4 f5 hy0 hy1 hy2 hy3 hy4 hy5 y0 y1 y2 y3 y4 y5
            have f0 := there_free HT_33.out 0 (by decide)
            have f1 := there_free HT_33.out 1 (by decide)
            have f2 := there_free HT_33.out 2 (by decide)
            have f3 := there_free HT_33.out 3 (by decide)
            have f4 := there_free HT_33.out 4 (by decide)
            have f5 := there_free HT_33.out 5 (by decide)
            obtain ⟨y0, hy0⟩ := there_cell HT_33.out 0 (by decide)
            obtain ⟨y1, hy1⟩ := there_cell HT_33.out 1 (by decide)
            obtain ⟨y2, hy2⟩ := there_cell HT_33.out 2 (by decide)
            obtain ⟨y3, hy3⟩ := there_cell HT_33.out 3 (by decide)
            obtain ⟨y4, hy4⟩ := there_cell HT_33.out 4 (by decide)
            obtain ⟨y5, hy5⟩ := there_cell HT_33.out 5 (by decide)
            have HB_34 : Hid (Below w5.heap.size w5 (w_33.setCells w_31.heap.size 0 [.string src', .slice ua L.length uc, .int .i64 lv2, .int .u32 lc, .int .i64 fr2, .int .i64 til2])) := Lib.hid (below_puts (g := w_31.heap.size) (o := 0) HB_33.out hG_32 [.string src', .slice ua L.length uc, .int .i64 lv2, .int .u32 lc, .int .i64 fr2, .int .i64 til2])
            have HZ_34 := Lib.hid (below_puts_base (g := w_31.heap.size) (o := 0) (Below.refl 0 w_33) (Nat.zero_le _) [.string src', .slice ua L.length uc, .int .i64 lv2, .int .u32 lc, .int .i64 fr2, .int .i64 til2]).size
            have HC_34 := Lib.hid (c6_puts w_33 w_31.heap.size (.string src') (.slice ua L.length uc) (.int .i64 lv2) (.int .u32 lc) (.int .i64 fr2) (.int .i64 til2) HT_33.out)
            have HD_34 := Lib.hid (c6_out HC_33.out hNE 0 [.string src', .slice ua L.length uc, .int .i64 lv2, .int .u32 lc, .int .i64 fr2, .int .i64 til2])
            refine held_step (i := 7) rfl (by kernel_rfl) (fun K hK => ?_)
            go_simp
            refine hK.out _ (w_33.setCells w_31.heap.size 0 [.string src', .slice ua L.length uc, .int .i64 lv2, .int .u32 lc, .int .i64 fr2, .int .i64 til2]) ⟨keep_cell a0 HB_34.out hlta, keep_cell a1 HB_34.out hlta, keep_cell a2 HB_34.out hlta, keep_cell a3 HB_34.out hlta, keep_cell a4 HB_34.out hlta, keep_cell a5 HB_34.out hlta, keep_cell b0 HB_34.out hltb, keep_cell b1 HB_34.out hltb, keep_cell b2 HB_34.out hltb, keep_cell b3 HB_34.out hltb, keep_cell b4 HB_34.out hltb, keep_cell b5 HB_34.out hltb⟩ (fun hHeld => ?_)
            clear hK K
            (try simp only [Act.put, List.setIfInBounds_toArray, List.set_cons_zero, List.set_cons_succ])
            generalize (w_33.setCells w_31.heap.size 0 [.string src', .slice ua L.length uc, .int .i64 lv2, .int .u32 lc, .int .i64 fr2, .int .i64 til2]) = w_34 at *
            refine wpAnyH_done (by kernel_rfl) ?_ _
            go_wp2
            go_meet
            exact ⟨wd.heap.size, w_31.heap.size, rfl, rfl, HD_34.out, HC_34.out, Nat.lt_of_lt_of_le hLA_32 (Nat.le_trans HZ_33.out HZ_34.out), Nat.lt_of_lt_of_le hL_32 (Nat.le_trans HZ_33.out HZ_34.out), HB_34.out⟩
          · have hb_35 := alloc_below w_30 (.cells #[.string ⟨#[]⟩, .slice none 0 0, .int .i64 0, .int .u32 0, .int .i64 0, .int .i64 0] 35)
            have hB_35 := hB_30.trans (hb_35.mono hB_30.size)
            have hT_35 := box_there (Below.refl (w_30.alloc (.cells #[.string ⟨#[]⟩, .slice none 0 0, .int .i64 0, .int .u32 0, .int .i64 0, .int .i64 0] 35)).heap.size (w_30.alloc (.cells #[.string ⟨#[]⟩, .slice none 0 0, .int .i64 0, .int .u32 0, .int .i64 0, .int .i64 0] 35)))
            have hL_35 : w_30.heap.size < (w_30.alloc (.cells #[.string ⟨#[]⟩, .slice none 0 0, .int .i64 0, .int .u32 0, .int .i64 0, .int .i64 0] 35)).heap.size := by rw [World.size_alloc]; omega
            have hG_35 := hB_30.size
            have hTA_35 := there_later hTA_30 hb_35 hLA_30
            have hLA_35 := Nat.lt_of_lt_of_le hLA_30 hb_35.size
            have hN_35 : wd.heap.size ≠ w_30.heap.size := by have := hLA_30; omega
            go_simp
            refine hK.out _ _ ⟨keep_cell a0 hB_35 hlta, keep_cell a1 hB_35 hlta, keep_cell a2 hB_35 hlta, keep_cell a3 hB_35 hlta, keep_cell a4 hB_35 hlta, keep_cell a5 hB_35 hlta, keep_cell b0 hB_35 hltb, keep_cell b1 hB_35 hltb, keep_cell b2 hB_35 hltb, keep_cell b3 hB_35 hltb, keep_cell b4 hB_35 hltb, keep_cell b5 hB_35 hltb⟩ (fun hHeld => ?_)
            clear hK K
            (try simp only [Act.put, List.setIfInBounds_toArray, List.set_cons_zero, List.set_cons_succ])
            generalize w_30.alloc (.cells #[.string ⟨#[]⟩, .slice none 0 0, .int .i64 0, .int .u32 0, .int .i64 0, .int .i64 0] 35) = w_35 at *
            refine held_step (i := 3) rfl (by kernel_rfl) (fun K hK => ?_)
            go_simp; go_at_call 13; refine (K2.out _ hB_35).mono ?_; rintro e w_36 ⟨rfl, hb_36⟩
            have hB_36 := hB_35.trans (hb_36.mono hB_35.size)
            have hTA_36 := there_later hTA_35 hb_36 hLA_35
            have hLA_36 := Nat.lt_of_lt_of_le hLA_35 hb_36.size
            have hTD_36 := there_later hT_35 hb_36 hL_35
            have hLD_36 := Nat.lt_of_lt_of_le hL_35 hb_36.size
            refine hK.out _ _ ⟨keep_cell a0 hB_36 hlta, keep_cell a1 hB_36 hlta, keep_cell a2 hB_36 hlta, keep_cell a3 hB_36 hlta, keep_cell a4 hB_36 hlta, keep_cell a5 hB_36 hlta, keep_cell b0 hB_36 hltb, keep_cell b1 hB_36 hltb, keep_cell b2 hB_36 hltb, keep_cell b3 hB_36 hltb, keep_cell b4 hB_36 hltb, keep_cell b5 hB_36 hltb⟩ (fun hHeld => ?_)
            clear hK K
            (try simp only [Act.put, List.setIfInBounds_toArray, List.set_cons_zero, List.set_cons_succ])
            have hNE := hN_35
            have f0 := there_free hTA_36 0 (by decide)
            have f1 := there_free hTA_36 1 (by decide)
            have f2 := there_free hTA_36 2 (by decide)
            have f3 := there_free hTA_36 3 (by decide)
            have f4 := there_free hTA_36 4 (by decide)
            have f5 := there_free hTA_36 5 (by decide)
            obtain ⟨y0, hy0⟩ := there_cell hTA_36 0 (by decide)
            obtain ⟨y1, hy1⟩ := there_cell hTA_36 1 (by decide)
            obtain ⟨y2, hy2⟩ := there_cell hTA_36 2 (by decide)
            obtain ⟨y3, hy3⟩ := there_cell hTA_36 3 (by decide)
            obtain ⟨y4, hy4⟩ := there_cell hTA_36 4 (by decide)
            obtain ⟨y5, hy5⟩ := there_cell hTA_36 5 (by decide)
            have HB_37 : Hid (Below w5.heap.size w5 (w_36.setCells wd.heap.size 0 [.string src', .slice ga L.length gc, .int .i64 lv1, .int .u32 c, .int .i64 fr1, .int .i64 til1])) := Lib.hid (below_puts (g := wd.heap.size) (o := 0) hB_36 hG_29 [.string src', .slice ga L.length gc, .int .i64 lv1, .int .u32 c, .int .i64 fr1, .int .i64 til1])
            have HZ_37 := Lib.hid (below_puts_base (g := wd.heap.size) (o := 0) (Below.refl 0 w_36) (Nat.zero_le _) [.string src', .slice ga L.length gc, .int .i64 lv1, .int .u32 c, .int .i64 fr1, .int .i64 til1]).size
            have HC_37 := Lib.hid (c6_puts w_36 wd.heap.size (.string src') (.slice ga L.length gc) (.int .i64 lv1) (.int .u32 c) (.int .i64 fr1) (.int .i64 til1) hTA_36)
            have HT_37 := Lib.hid (World.there_setCells hTD_36 wd.heap.size 0 [.string src', .slice ga L.length gc, .int .i64 lv1, .int .u32 c, .int .i64 fr1, .int .i64 til1])
            refine held_step (i := 6) rfl (by kernel_rfl) (fun K hK => ?_)
            go_simp
            refine hK.out _ (w_36.setCells wd.heap.size 0 [.string src', .slice ga L.length gc, .int .i64 lv1, .int .u32 c, .int .i64 fr1, .int .i64 til1]) ⟨keep_cell a0 HB_37.out hlta, keep_cell a1 HB_37.out hlta, keep_cell a2 HB_37.out hlta, keep_cell a3 HB_37.out hlta, keep_cell a4 HB_37.out hlta, keep_cell a5 HB_37.out hlta, keep_cell b0 HB_37.out hltb, keep_cell b1 HB_37.out hltb, keep_cell b2 HB_37.out hltb, keep_cell b3 HB_37.out hltb, keep_cell b4 HB_37.out hltb, keep_cell b5 HB_37.out hltb⟩ (fun hHeld => ?_)
            clear hK K
            (try simp only [Act.put, List.setIfInBounds_toArray, List.set_cons_zero, List.set_cons_succ])
            generalize (w_36.setCells wd.heap.size 0 [.string src', .slice ga L.length gc, .int .i64 lv1, .int .u32 c, .int .i64 fr1, .int .i64 til1]) = w_37 at *
            clear f0 f1 f2 f3 f4 f5 hy0 hy1 hy2 hy3 hy4 hy5 y0 y1 y2 y3 y4 y5
            have f0 := there_free HT_37.out 0 (by decide)
            have f1 := there_free HT_37.out 1 (by decide)
            have f2 := there_free HT_37.out 2 (by decide)
            have f3 := there_free HT_37.out 3 (by decide)
            have f4 := there_free HT_37.out 4 (by decide)
            have f5 := there_free HT_37.out 5 (by decide)
            obtain ⟨y0, hy0⟩ := there_cell HT_37.out 0 (by decide)
            obtain ⟨y1, hy1⟩ := there_cell HT_37.out 1 (by decide)
            obtain ⟨y2, hy2⟩ := there_cell HT_37.out 2 (by decide)
            obtain ⟨y3, hy3⟩ := there_cell HT_37.out 3 (by decide)
            obtain ⟨y4, hy4⟩ := there_cell HT_37.out 4 (by decide)
            obtain ⟨y5, hy5⟩ := there_cell HT_37.out 5 (by decide)
            have HB_38 : Hid (Below w5.heap.size w5 (w_37.setCells w_30.heap.size 0 [.string src', .slice ua L.length uc, .int .i64 lv2, .int .u32 lc, .int .i64 fr2, .int .i64 til2])) := Lib.hid (below_puts (g := w_30.heap.size) (o := 0) HB_37.out hG_35 [.string src', .slice ua L.length uc, .int .i64 lv2, .int .u32 lc, .int .i64 fr2, .int .i64 til2])
            have HZ_38 := Lib.hid (below_puts_base (g := w_30.heap.size) (o := 0) (Below.refl 0 w_37) (Nat.zero_le _) [.string src', .slice ua L.length uc, .int .i64 lv2, .int .u32 lc, .int .i64 fr2, .int .i64 til2]).size
            have HC_38 := Lib.hid (c6_puts w_37 w_30.heap.size (.string src') (.slice ua L.length uc) (.int .i64 lv2) (.int .u32 lc) (.int .i64 fr2) (.int .i64 til2) HT_37.out)
            have HD_38 := Lib.hid (c6_out HC_37.out hNE 0 [.string src', .slice ua L.length uc, .int .i64 lv2, .int .u32 lc, .int .i64 fr2, .int .i64 til2])
            refine held_step (i := 7) rfl (by kernel_rfl) (fun K hK => ?_)
            go_simp
            refine hK.out _ (w_37.setCells w_30.heap.size 0 [.string src', .slice ua L.length uc, .int .i64 lv2, .int .u32 lc, .int .i64 fr2, .int .i64 til2]) ⟨keep_cell a0 HB_38.out hlta, keep_cell a1 HB_38.out hlta, keep_cell a2 HB_38.out hlta, keep_cell a3 HB_38.out hlta, keep_cell a4 HB_38.out hlta, keep_cell a5 HB_38.out hlta, keep_cell b0 HB_38.out hltb, keep_cell b1 HB_38.out hltb, keep_cell b2 HB_38.out hltb, keep_cell b3 HB_38.out hltb, keep_cell b4 HB_38.out hltb, keep_cell b5 HB_38.out hltb⟩ (fun hHeld => ?_)
            clear hK K
            (try simp only [Act.put, List.setIfInBounds_toArray, List.set_cons_zero, List.set_cons_succ])
            generalize (w_37.setCells w_30.heap.size 0 [.string src', .slice ua L.length uc, .int .i64 lv2, .int .u32 lc, .int .i64 fr2, .int .i64 til2]) = w_38 at *
            refine wpAnyH_done (by kernel_rfl) ?_ _
            go_wp2
            go_meet
            exact ⟨wd.heap.size, w_30.heap.size, rfl, rfl, HD_38.out, HC_38.out, Nat.lt_of_lt_of_le hLA_36 (Nat.le_trans HZ_37.out HZ_38.out), Nat.lt_of_lt_of_le hLD_36 (Nat.le_trans HZ_37.out HZ_38.out), HB_38.out⟩
        · have hb_39 := alloc_below w_29 (.cells #[.string ⟨#[]⟩, .slice none 0 0, .int .i64 0, .int .u32 0, .int .i64 0, .int .i64 0] 35)
          have hB_39 := hB_29.trans (hb_39.mono hB_29.size)
          have hT_39 := box_there (Below.refl (w_29.alloc (.cells #[.string ⟨#[]⟩, .slice none 0 0, .int .i64 0, .int .u32 0, .int .i64 0, .int .i64 0] 35)).heap.size (w_29.alloc (.cells #[.string ⟨#[]⟩, .slice none 0 0, .int .i64 0, .int .u32 0, .int .i64 0, .int .i64 0] 35)))
          have hL_39 : w_29.heap.size < (w_29.alloc (.cells #[.string ⟨#[]⟩, .slice none 0 0, .int .i64 0, .int .u32 0, .int .i64 0, .int .i64 0] 35)).heap.size := by rw [World.size_alloc]; omega
          have hG_39 := hB_29.size
          have hTA_39 := there_later hT_29 hb_39 hL_29
          have hLA_39 := Nat.lt_of_lt_of_le hL_29 hb_39.size
          have hN_39 : wd.heap.size ≠ w_29.heap.size := by have := hL_29; omega
          go_simp
          refine hK.out _ _ ⟨keep_cell a0 hB_39 hlta, keep_cell a1 hB_39 hlta, keep_cell a2 hB_39 hlta, keep_cell a3 hB_39 hlta, keep_cell a4 hB_39 hlta, keep_cell a5 hB_39 hlta, keep_cell b0 hB_39 hltb, keep_cell b1 hB_39 hltb, keep_cell b2 hB_39 hltb, keep_cell b3 hB_39 hltb, keep_cell b4 hB_39 hltb, keep_cell b5 hB_39 hltb⟩ (fun hHeld => ?_)
          clear hK K
          (try simp only [Act.put, List.setIfInBounds_toArray, List.set_cons_zero, List.set_cons_succ])
          generalize w_29.alloc (.cells #[.string ⟨#[]⟩, .slice none 0 0, .int .i64 0, .int .u32 0, .int .i64 0, .int .i64 0] 35) = w_39 at *
          refine held_step (i := 1) rfl (by kernel_rfl) (fun K hK => ?_)
          go_simp; go_at_call 13; refine (K1.out _ hB_39).mono ?_; rintro e w_40 ⟨rfl, hb_40⟩
          have hB_40 := hB_39.trans (hb_40.mono hB_39.size)
          have hTA_40 := there_later hTA_39 hb_40 hLA_39
          have hLA_40 := Nat.lt_of_lt_of_le hLA_39 hb_40.size
          have hTD_40 := there_later hT_39 hb_40 hL_39
          have hLD_40 := Nat.lt_of_lt_of_le hL_39 hb_40.size
          refine hK.out _ _ ⟨keep_cell a0 hB_40 hlta, keep_cell a1 hB_40 hlta, keep_cell a2 hB_40 hlta, keep_cell a3 hB_40 hlta, keep_cell a4 hB_40 hlta, keep_cell a5 hB_40 hlta, keep_cell b0 hB_40 hltb, keep_cell b1 hB_40 hltb, keep_cell b2 hB_40 hltb, keep_cell b3 hB_40 hltb, keep_cell b4 hB_40 hltb, keep_cell b5 hB_40 hltb⟩ (fun hHeld => ?_)
          clear hK K
          (try simp only [Act.put, List.setIfInBounds_toArray, List.set_cons_zero, List.set_cons_succ])
          refine held_step (i := 3) rfl (by kernel_rfl) (fun K hK => ?_)
          go_simp; go_at_call 13; refine (K2.out _ hB_40).mono ?_; rintro e w_41 ⟨rfl, hb_41⟩
          have hB_41 := hB_40.trans (hb_41.mono hB_40.size)
          have hTA_41 := there_later hTA_40 hb_41 hLA_40
          have hLA_41 := Nat.lt_of_lt_of_le hLA_40 hb_41.size
          have hTD_41 := there_later hTD_40 hb_41 hLD_40
          have hLD_41 := Nat.lt_of_lt_of_le hLD_40 hb_41.size
          refine hK.out _ _ ⟨keep_cell a0 hB_41 hlta, keep_cell a1 hB_41 hlta, keep_cell a2 hB_41 hlta, keep_cell a3 hB_41 hlta, keep_cell a4 hB_41 hlta, keep_cell a5 hB_41 hlta, keep_cell b0 hB_41 hltb, keep_cell b1 hB_41 hltb, keep_cell b2 hB_41 hltb, keep_cell b3 hB_41 hltb, keep_cell b4 hB_41 hltb, keep_cell b5 hB_41 hltb⟩ (fun hHeld => ?_)
          clear hK K
          (try simp only [Act.put, List.setIfInBounds_toArray, List.set_cons_zero, List.set_cons_succ])
          have hNE := hN_39
          have f0 := there_free hTA_41 0 (by decide)
          have f1 := there_free hTA_41 1 (by decide)
          have f2 := there_free hTA_41 2 (by decide)
          have f3 := there_free hTA_41 3 (by decide)
          have f4 := there_free hTA_41 4 (by decide)
          have f5 := there_free hTA_41 5 (by decide)
          obtain ⟨y0, hy0⟩ := there_cell hTA_41 0 (by decide)
          obtain ⟨y1, hy1⟩ := there_cell hTA_41 1 (by decide)
          obtain ⟨y2, hy2⟩ := there_cell hTA_41 2 (by decide)
          obtain ⟨y3, hy3⟩ := there_cell hTA_41 3 (by decide)
          obtain ⟨y4, hy4⟩ := there_cell hTA_41 4 (by decide)
          obtain ⟨y5, hy5⟩ := there_cell hTA_41 5 (by decide)
          have HB_42 : Hid (Below w5.heap.size w5 (w_41.setCells wd.heap.size 0 [.string src', .slice ga L.length gc, .int .i64 lv1, .int .u32 c, .int .i64 fr1, .int .i64 til1])) := Lib.hid (below_puts (g := wd.heap.size) (o := 0) hB_41 hG_29 [.string src', .slice ga L.length gc, .int .i64 lv1, .int .u32 c, .int .i64 fr1, .int .i64 til1])
          have HZ_42 := Lib.hid (below_puts_base (g := wd.heap.size) (o := 0) (Below.refl 0 w_41) (Nat.zero_le _) [.string src', .slice ga L.length gc, .int .i64 lv1, .int .u32 c, .int .i64 fr1, .int .i64 til1]).size
          have HC_42 := Lib.hid (c6_puts w_41 wd.heap.size (.string src') (.slice ga L.length gc) (.int .i64 lv1) (.int .u32 c) (.int .i64 fr1) (.int .i64 til1) hTA_41)
          have HT_42 := Lib.hid (World.there_setCells hTD_41 wd.heap.size 0 [.string src', .slice ga L.length gc, .int .i64 lv1, .int .u32 c, .int .i64 fr1, .int .i64 til1])
          refine held_step (i := 6) rfl (by kernel_rfl) (fun K hK => ?_)
          go_simp
          refine hK.out _ (w_41.setCells wd.heap.size 0 [.string src', .slice ga L.length gc, .int .i64 lv1, .int .u32 c, .int .i64 fr1, .int .i64 til1]) ⟨keep_cell a0 HB_42.out hlta, keep_cell a1 HB_42.out hlta, keep_cell a2 HB_42.out hlta, keep_cell a3 HB_42.out hlta, keep_cell a4 HB_42.out hlta, keep_cell a5 HB_42.out hlta, keep_cell b0 HB_42.out hltb, keep_cell b1 HB_42.out hltb, keep_cell b2 HB_42.out hltb, keep_cell b3 HB_42.out hltb, keep_cell b4 HB_42.out hltb, keep_cell b5 HB_42.out hltb⟩ (fun hHeld => ?_)
          clear hK K
          (try simp only [Act.put, List.setIfInBounds_toArray, List.set_cons_zero, List.set_cons_succ])
          generalize (w_41.setCells wd.heap.size 0 [.string src', .slice ga L.length gc, .int .i64 lv1, .int .u32 c, .int .i64 fr1, .int .i64 til1]) = w_42 at *
          clear f0 f1 f2 f3 f4 f5 hy0 hy1 hy2 hy3 hy4 hy5 y0 y1 y2 y3 y4 y5
          have f0 := there_free HT_42.out 0 (by decide)
          have f1 := there_free HT_42.out 1 (by decide)
          have f2 := there_free HT_42.out 2 (by decide)
          have f3 := there_free HT_42.out 3 (by decide)
          have f4 := there_free HT_42.out 4 (by decide)
          have f5 := there_free HT_42.out 5 (by decide)
          obtain ⟨y0, hy0⟩ := there_cell HT_42.out 0 (by decide)
          obtain ⟨y1, hy1⟩ := there_cell HT_42.out 1 (by decide)
          obtain ⟨y2, hy2⟩ := there_cell HT_42.out 2 (by decide)
          obtain ⟨y3, hy3⟩ := there_cell HT_42.out 3 (by decide)
          obtain ⟨y4, hy4⟩ := there_cell HT_42.out 4 (by decide)
          obtain ⟨y5, hy5⟩ := there_cell HT_42.out 5 (by decide)
          have HB_43 : Hid (Below w5.heap.size w5 (w_42.setCells w_29.heap.size 0 [.string src', .slice ua L.length uc, .int .i64 lv2, .int .u32 lc, .int .i64 fr2, .int .i64 til2])) := Lib.hid (below_puts (g := w_29.heap.size) (o := 0) HB_42.out hG_39 [.string src', .slice ua L.length uc, .int .i64 lv2, .int .u32 lc, .int .i64 fr2, .int .i64 til2])
          have HZ_43 := Lib.hid (below_puts_base (g := w_29.heap.size) (o := 0) (Below.refl 0 w_42) (Nat.zero_le _) [.string src', .slice ua L.length uc, .int .i64 lv2, .int .u32 lc, .int .i64 fr2, .int .i64 til2]).size
          have HC_43 := Lib.hid (c6_puts w_42 w_29.heap.size (.string src') (.slice ua L.length uc) (.int .i64 lv2) (.int .u32 lc) (.int .i64 fr2) (.int .i64 til2) HT_42.out)
          have HD_43 := Lib.hid (c6_out HC_42.out hNE 0 [.string src', .slice ua L.length uc, .int .i64 lv2, .int .u32 lc, .int .i64 fr2, .int .i64 til2])
          refine held_step (i := 7) rfl (by kernel_rfl) (fun K hK => ?_)
          go_simp
          refine hK.out _ (w_42.setCells w_29.heap.size 0 [.string src', .slice ua L.length uc, .int .i64 lv2, .int .u32 lc, .int .i64 fr2, .int .i64 til2]) ⟨keep_cell a0 HB_43.out hlta, keep_cell a1 HB_43.out hlta, keep_cell a2 HB_43.out hlta, keep_cell a3 HB_43.out hlta, keep_cell a4 HB_43.out hlta, keep_cell a5 HB_43.out hlta, keep_cell b0 HB_43.out hltb, keep_cell b1 HB_43.out hltb, keep_cell b2 HB_43.out hltb, keep_cell b3 HB_43.out hltb, keep_cell b4 HB_43.out hltb, keep_cell b5 HB_43.out hltb⟩ (fun hHeld => ?_)
          clear hK K
          (try simp only [Act.put, List.setIfInBounds_toArray, List.set_cons_zero, List.set_cons_succ])
          generalize (w_42.setCells w_29.heap.size 0 [.string src', .slice ua L.length uc, .int .i64 lv2, .int .u32 lc, .int .i64 fr2, .int .i64 til2]) = w_43 at *
          refine wpAnyH_done (by kernel_rfl) ?_ _
          go_wp2
          go_meet
          exact ⟨wd.heap.size, w_29.heap.size, rfl, rfl, HD_43.out, HC_43.out, Nat.lt_of_lt_of_le hLA_41 (Nat.le_trans HZ_42.out HZ_43.out), Nat.lt_of_lt_of_le hLD_41 (Nat.le_trans HZ_42.out HZ_43.out), HB_43.out⟩
      · have hb_44 := alloc_below wd (.cells #[.string ⟨#[]⟩, .slice none 0 0, .int .i64 0, .int .u32 0, .int .i64 0, .int .i64 0] 35)
        have hB_44 := hd.trans (hb_44.mono hd.size)
        have hT_44 := box_there (Below.refl (wd.alloc (.cells #[.string ⟨#[]⟩, .slice none 0 0, .int .i64 0, .int .u32 0, .int .i64 0, .int .i64 0] 35)).heap.size (wd.alloc (.cells #[.string ⟨#[]⟩, .slice none 0 0, .int .i64 0, .int .u32 0, .int .i64 0, .int .i64 0] 35)))
        have hL_44 : wd.heap.size < (wd.alloc (.cells #[.string ⟨#[]⟩, .slice none 0 0, .int .i64 0, .int .u32 0, .int .i64 0, .int .i64 0] 35)).heap.size := by rw [World.size_alloc]; omega
        have hG_44 := hd.size
        go_simp
        refine hK.out _ _ ⟨keep_cell a0 hB_44 hlta, keep_cell a1 hB_44 hlta, keep_cell a2 hB_44 hlta, keep_cell a3 hB_44 hlta, keep_cell a4 hB_44 hlta, keep_cell a5 hB_44 hlta, keep_cell b0 hB_44 hltb, keep_cell b1 hB_44 hltb, keep_cell b2 hB_44 hltb, keep_cell b3 hB_44 hltb, keep_cell b4 hB_44 hltb, keep_cell b5 hB_44 hltb⟩ (fun hHeld => ?_)
        clear hK K
        (try simp only [Act.put, List.setIfInBounds_toArray, List.set_cons_zero, List.set_cons_succ])
        generalize wd.alloc (.cells #[.string ⟨#[]⟩, .slice none 0 0, .int .i64 0, .int .u32 0, .int .i64 0, .int .i64 0] 35) = w_44 at *
        refine held_two (i := 1) (j := 4) rfl rfl (by kernel_rfl) (fun K hK => ?_) (fun K hK => ?_)
        · go_simp; go_at_call 13; refine (K1.out _ hB_44).mono ?_; rintro e w_45 ⟨rfl, hb_45⟩
          have hB_45 := hB_44.trans (hb_45.mono hB_44.size)
          have hTD_45 := there_later hT_44 hb_45 hL_44
          have hLD_45 := Nat.lt_of_lt_of_le hL_44 hb_45.size
          refine hK.out _ _ ⟨keep_cell a0 hB_45 hlta, keep_cell a1 hB_45 hlta, keep_cell a2 hB_45 hlta, keep_cell a3 hB_45 hlta, keep_cell a4 hB_45 hlta, keep_cell a5 hB_45 hlta, keep_cell b0 hB_45 hltb, keep_cell b1 hB_45 hltb, keep_cell b2 hB_45 hltb, keep_cell b3 hB_45 hltb, keep_cell b4 hB_45 hltb, keep_cell b5 hB_45 hltb⟩ (fun hHeld => ?_)
          clear hK K
          (try simp only [Act.put, List.setIfInBounds_toArray, List.set_cons_zero, List.set_cons_succ])
          refine held_two (i := 3) (j := 4) rfl rfl (by kernel_rfl) (fun K hK => ?_) (fun K hK => ?_)
          · go_simp; go_at_call 13; refine (K2.out _ hB_45).mono ?_; rintro e w_46 ⟨rfl, hb_46⟩
            have hB_46 := hB_45.trans (hb_46.mono hB_45.size)
            have hTD_46 := there_later hTD_45 hb_46 hLD_45
            have hLD_46 := Nat.lt_of_lt_of_le hLD_45 hb_46.size
            refine hK.out _ _ ⟨keep_cell a0 hB_46 hlta, keep_cell a1 hB_46 hlta, keep_cell a2 hB_46 hlta, keep_cell a3 hB_46 hlta, keep_cell a4 hB_46 hlta, keep_cell a5 hB_46 hlta, keep_cell b0 hB_46 hltb, keep_cell b1 hB_46 hltb, keep_cell b2 hB_46 hltb, keep_cell b3 hB_46 hltb, keep_cell b4 hB_46 hltb, keep_cell b5 hB_46 hltb⟩ (fun hHeld => ?_)
            clear hK K
            (try simp only [Act.put, List.setIfInBounds_toArray, List.set_cons_zero, List.set_cons_succ])
            refine held_step (i := 4) rfl (by kernel_rfl) (fun K hK => ?_)
            have hb_47 := alloc_below w_46 (.cells #[.string ⟨#[]⟩, .slice none 0 0, .int .i64 0, .int .u32 0, .int .i64 0, .int .i64 0] 35)
            have hB_47 := hB_46.trans (hb_47.mono hB_46.size)
            have hT_47 := box_there (Below.refl (w_46.alloc (.cells #[.string ⟨#[]⟩, .slice none 0 0, .int .i64 0, .int .u32 0, .int .i64 0, .int .i64 0] 35)).heap.size (w_46.alloc (.cells #[.string ⟨#[]⟩, .slice none 0 0, .int .i64 0, .int .u32 0, .int .i64 0, .int .i64 0] 35)))
            have hL_47 : w_46.heap.size < (w_46.alloc (.cells #[.string ⟨#[]⟩, .slice none 0 0, .int .i64 0, .int .u32 0, .int .i64 0, .int .i64 0] 35)).heap.size := by rw [World.size_alloc]; omega
            have hG_47 := hB_46.size
            have hTD_47 := there_later hTD_46 hb_47 hLD_46
            have hLD_47 := Nat.lt_of_lt_of_le hLD_46 hb_47.size
            have hN_47 : w_46.heap.size ≠ wd.heap.size := by have := hLD_46; omega
            go_simp
            refine hK.out _ _ ⟨keep_cell a0 hB_47 hlta, keep_cell a1 hB_47 hlta, keep_cell a2 hB_47 hlta, keep_cell a3 hB_47 hlta, keep_cell a4 hB_47 hlta, keep_cell a5 hB_47 hlta, keep_cell b0 hB_47 hltb, keep_cell b1 hB_47 hltb, keep_cell b2 hB_47 hltb, keep_cell b3 hB_47 hltb, keep_cell b4 hB_47 hltb, keep_cell b5 hB_47 hltb⟩ (fun hHeld => ?_)
            clear hK K
            (try simp only [Act.put, List.setIfInBounds_toArray, List.set_cons_zero, List.set_cons_succ])
            generalize w_46.alloc (.cells #[.string ⟨#[]⟩, .slice none 0 0, .int .i64 0, .int .u32 0, .int .i64 0, .int .i64 0] 35) = w_47 at *
            have hNE := hN_47
            have f0 := there_free hT_47 0 (by decide)
            have f1 := there_free hT_47 1 (by decide)
            have f2 := there_free hT_47 2 (by decide)
            have f3 := there_free hT_47 3 (by decide)
            have f4 := there_free hT_47 4 (by decide)
            have f5 := there_free hT_47 5 (by decide)
            obtain ⟨y0, hy0⟩ := there_cell hT_47 0 (by decide)
            obtain ⟨y1, hy1⟩ := there_cell hT_47 1 (by decide)
            obtain ⟨y2, hy2⟩ := there_cell hT_47 2 (by decide)
            obtain ⟨y3, hy3⟩ := there_cell hT_47 3 (by decide)
            obtain ⟨y4, hy4⟩ := there_cell hT_47 4 (by decide)
            obtain ⟨y5, hy5⟩ := there_cell hT_47 5 (by decide)
            have HB_48 : Hid (Below w5.heap.size w5 (w_47.setCells w_46.heap.size 0 [.string src', .slice ga L.length gc, .int .i64 lv1, .int .u32 c, .int .i64 fr1, .int .i64 til1])) := Lib.hid (below_puts (g := w_46.heap.size) (o := 0) hB_47 hG_47 [.string src', .slice ga L.length gc, .int .i64 lv1, .int .u32 c, .int .i64 fr1, .int .i64 til1])
            have HZ_48 := Lib.hid (below_puts_base (g := w_46.heap.size) (o := 0) (Below.refl 0 w_47) (Nat.zero_le _) [.string src', .slice ga L.length gc, .int .i64 lv1, .int .u32 c, .int .i64 fr1, .int .i64 til1]).size
            have HC_48 := Lib.hid (c6_puts w_47 w_46.heap.size (.string src') (.slice ga L.length gc) (.int .i64 lv1) (.int .u32 c) (.int .i64 fr1) (.int .i64 til1) hT_47)
            have HT_48 := Lib.hid (World.there_setCells hTD_47 w_46.heap.size 0 [.string src', .slice ga L.length gc, .int .i64 lv1, .int .u32 c, .int .i64 fr1, .int .i64 til1])
            refine held_step (i := 6) rfl (by kernel_rfl) (fun K hK => ?_)
            go_simp
            refine hK.out _ (w_47.setCells w_46.heap.size 0 [.string src', .slice ga L.length gc, .int .i64 lv1, .int .u32 c, .int .i64 fr1, .int .i64 til1]) ⟨keep_cell a0 HB_48.out hlta, keep_cell a1 HB_48.out hlta, keep_cell a2 HB_48.out hlta, keep_cell a3 HB_48.out hlta, keep_cell a4 HB_48.out hlta, keep_cell a5 HB_48.out hlta, keep_cell b0 HB_48.out hltb, keep_cell b1 HB_48.out hltb, keep_cell b2 HB_48.out hltb, keep_cell b3 HB_48.out hltb, keep_cell b4 HB_48.out hltb, keep_cell b5 HB_48.out hltb⟩ (fun hHeld => ?_)
            clear hK K
            (try simp only [Act.put, List.setIfInBounds_toArray, List.set_cons_zero, List.set_cons_succ])
            generalize (w_47.setCells w_46.heap.size 0 [.string src', .slice ga L.length gc, .int .i64 lv1, .int .u32 c, .int .i64 fr1, .int .i64 til1]) = w_48 at *
            clear f0 f1 f2 f3 f4 f5 hy0 hy1 hy2 hy3 hy4 hy5 y0 y1 y2 y3 y4 y5
            have f0 := there_free HT_48.out 0 (by decide)
            have f1 := there_free HT_48.out 1 (by decide)
            have f2 := there_free HT_48.out 2 (by decide)
            have f3 := there_free HT_48.out 3 (by decide)
            have f4 := there_free HT_48.out 4 (by decide)
            have f5 := there_free HT_48.out 5 (by decide)
            obtain ⟨y0, hy0⟩ := there_cell HT_48.out 0 (by decide)
            obtain ⟨y1, hy1⟩ := there_cell HT_48.out 1 (by decide)
            obtain ⟨y2, hy2⟩ := there_cell HT_48.out 2 (by decide)
            obtain ⟨y3, hy3⟩ := there_cell HT_48.out 3 (by decide)
            obtain ⟨y4, hy4⟩ := there_cell HT_48.out 4 (by decide)
            obtain ⟨y5, hy5⟩ := there_cell HT_48.out 5 (by decide)
            have HB_49 : Hid (Below w5.heap.size w5 (w_48.setCells wd.heap.size 0 [.string src', .slice ua L.length uc, .int .i64 lv2, .int .u32 lc, .int .i64 fr2, .int .i64 til2])) := Lib.hid (below_puts (g := wd.heap.size) (o := 0) HB_48.out hG_44 [.string src', .slice ua L.length uc, .int .i64 lv2, .int .u32 lc, .int .i64 fr2, .int .i64 til2])
            have HZ_49 := Lib.hid (below_puts_base (g := wd.heap.size) (o := 0) (Below.refl 0 w_48) (Nat.zero_le _) [.string src', .slice ua L.length uc, .int .i64 lv2, .int .u32 lc, .int .i64 fr2, .int .i64 til2]).size
            have HC_49 := Lib.hid (c6_puts w_48 wd.heap.size (.string src') (.slice ua L.length uc) (.int .i64 lv2) (.int .u32 lc) (.int .i64 fr2) (.int .i64 til2) HT_48.out)
            have HD_49 := Lib.hid (c6_out HC_48.out hNE 0 [.string src', .slice ua L.length uc, .int .i64 lv2, .int .u32 lc, .int .i64 fr2, .int .i64 til2])
            refine held_step (i := 7) rfl (by kernel_rfl) (fun K hK => ?_)
            go_simp
            refine hK.out _ (w_48.setCells wd.heap.size 0 [.string src', .slice ua L.length uc, .int .i64 lv2, .int .u32 lc, .int .i64 fr2, .int .i64 til2]) ⟨keep_cell a0 HB_49.out hlta, keep_cell a1 HB_49.out hlta, keep_cell a2 HB_49.out hlta, keep_cell a3 HB_49.out hlta, keep_cell a4 HB_49.out hlta, keep_cell a5 HB_49.out hlta, keep_cell b0 HB_49.out hltb, keep_cell b1 HB_49.out hltb, keep_cell b2 HB_49.out hltb, keep_cell b3 HB_49.out hltb, keep_cell b4 HB_49.out hltb, keep_cell b5 HB_49.out hltb⟩ (fun hHeld => ?_)
            clear hK K
            (try simp only [Act.put, List.setIfInBounds_toArray, List.set_cons_zero, List.set_cons_succ])
            generalize (w_48.setCells wd.heap.size 0 [.string src', .slice ua L.length uc, .int .i64 lv2, .int .u32 lc, .int .i64 fr2, .int .i64 til2]) = w_49 at *
            refine wpAnyH_done (by kernel_rfl) ?_ _
            go_wp2
            go_meet
            exact ⟨w_46.heap.size, wd.heap.size, rfl, rfl, HD_49.out, HC_49.out, Nat.lt_of_lt_of_le hL_47 (Nat.le_trans HZ_48.out HZ_49.out), Nat.lt_of_lt_of_le hLD_47 (Nat.le_trans HZ_48.out HZ_49.out), HB_49.out⟩
          · have hb_50 := alloc_below w_45 (.cells #[.string ⟨#[]⟩, .slice none 0 0, .int .i64 0, .int .u32 0, .int .i64 0, .int .i64 0] 35)
            have hB_50 := hB_45.trans (hb_50.mono hB_45.size)
            have hT_50 := box_there (Below.refl (w_45.alloc (.cells #[.string ⟨#[]⟩, .slice none 0 0, .int .i64 0, .int .u32 0, .int .i64 0, .int .i64 0] 35)).heap.size (w_45.alloc (.cells #[.string ⟨#[]⟩, .slice none 0 0, .int .i64 0, .int .u32 0, .int .i64 0, .int .i64 0] 35)))
            have hL_50 : w_45.heap.size < (w_45.alloc (.cells #[.string ⟨#[]⟩, .slice none 0 0, .int .i64 0, .int .u32 0, .int .i64 0, .int .i64 0] 35)).heap.size := by rw [World.size_alloc]; omega
            have hG_50 := hB_45.size
            have hTD_50 := there_later hTD_45 hb_50 hLD_45
            have hLD_50 := Nat.lt_of_lt_of_le hLD_45 hb_50.size
            have hN_50 : w_45.heap.size ≠ wd.heap.size := by have := hLD_45; omega
            go_simp
            refine hK.out _ _ ⟨keep_cell a0 hB_50 hlta, keep_cell a1 hB_50 hlta, keep_cell a2 hB_50 hlta, keep_cell a3 hB_50 hlta, keep_cell a4 hB_50 hlta, keep_cell a5 hB_50 hlta, keep_cell b0 hB_50 hltb, keep_cell b1 hB_50 hltb, keep_cell b2 hB_50 hltb, keep_cell b3 hB_50 hltb, keep_cell b4 hB_50 hltb, keep_cell b5 hB_50 hltb⟩ (fun hHeld => ?_)
            clear hK K
            (try simp only [Act.put, List.setIfInBounds_toArray, List.set_cons_zero, List.set_cons_succ])
            generalize w_45.alloc (.cells #[.string ⟨#[]⟩, .slice none 0 0, .int .i64 0, .int .u32 0, .int .i64 0, .int .i64 0] 35) = w_50 at *
            refine held_step (i := 3) rfl (by kernel_rfl) (fun K hK => ?_)
            go_simp; go_at_call 13; refine (K2.out _ hB_50).mono ?_; rintro e w_51 ⟨rfl, hb_51⟩
            have hB_51 := hB_50.trans (hb_51.mono hB_50.size)
            have hTA_51 := there_later hT_50 hb_51 hL_50
            have hLA_51 := Nat.lt_of_lt_of_le hL_50 hb_51.size
            have hTD_51 := there_later hTD_50 hb_51 hLD_50
            have hLD_51 := Nat.lt_of_lt_of_le hLD_50 hb_51.size
            refine hK.out _ _ ⟨keep_cell a0 hB_51 hlta, keep_cell a1 hB_51 hlta, keep_cell a2 hB_51 hlta, keep_cell a3 hB_51 hlta, keep_cell a4 hB_51 hlta, keep_cell a5 hB_51 hlta, keep_cell b0 hB_51 hltb, keep_cell b1 hB_51 hltb, keep_cell b2 hB_51 hltb, keep_cell b3 hB_51 hltb, keep_cell b4 hB_51 hltb, keep_cell b5 hB_51 hltb⟩ (fun hHeld => ?_)
            clear hK K
            (try simp only [Act.put, List.setIfInBounds_toArray, List.set_cons_zero, List.set_cons_succ])
            have hNE := hN_50
            have f0 := there_free hTA_51 0 (by decide)
            have f1 := there_free hTA_51 1 (by decide)
            have f2 := there_free hTA_51 2 (by decide)
            have f3 := there_free hTA_51 3 (by decide)
            have f4 := there_free hTA_51 4 (by decide)
            have f5 := there_free hTA_51 5 (by decide)
            obtain ⟨y0, hy0⟩ := there_cell hTA_51 0 (by decide)
            obtain ⟨y1, hy1⟩ := there_cell hTA_51 1 (by decide)
            obtain ⟨y2, hy2⟩ := there_cell hTA_51 2 (by decide)
            obtain ⟨y3, hy3⟩ := there_cell hTA_51 3 (by decide)
            obtain ⟨y4, hy4⟩ := there_cell hTA_51 4 (by decide)
            obtain ⟨y5, hy5⟩ := there_cell hTA_51 5 (by decide)
            have HB_52 : Hid (Below w5.heap.size w5 (w_51.setCells w_45.heap.size 0 [.string src', .slice ga L.length gc, .int .i64 lv1, .int .u32 c, .int .i64 fr1, .int .i64 til1])) := Lib.hid (below_puts (g := w_45.heap.size) (o := 0) hB_51 hG_50 [.string src', .slice ga L.length gc, .int .i64 lv1, .int .u32 c, .int .i64 fr1, .int .i64 til1])
            have HZ_52 := Lib.hid (below_puts_base (g := w_45.heap.size) (o := 0) (Below.refl 0 w_51) (Nat.zero_le _) [.string src', .slice ga L.length gc, .int .i64 lv1, .int .u32 c, .int .i64 fr1, .int .i64 til1]).size
            have HC_52 := Lib.hid (c6_puts w_51 w_45.heap.size (.string src') (.slice ga L.length gc) (.int .i64 lv1) (.int .u32 c) (.int .i64 fr1) (.int .i64 til1) hTA_51)
            have HT_52 := Lib.hid (World.there_setCells hTD_51 w_45.heap.size 0 [.string src', .slice ga L.length gc, .int .i64 lv1, .int .u32 c, .int .i64 fr1, .int .i64 til1])
            refine held_step (i := 6) rfl (by kernel_rfl) (fun K hK => ?_)
            go_simp
            refine hK.out _ (w_51.setCells w_45.heap.size 0 [.string src', .slice ga L.length gc, .int .i64 lv1, .int .u32 c, .int .i64 fr1, .int .i64 til1]) ⟨keep_cell a0 HB_52.out hlta, keep_cell a1 HB_52.out hlta, keep_cell a2 HB_52.out hlta, keep_cell a3 HB_52.out hlta, keep_cell a4 HB_52.out hlta, keep_cell a5 HB_52.out hlta, keep_cell b0 HB_52.out hltb, keep_cell b1 HB_52.out hltb, keep_cell b2 HB_52.out hltb, keep_cell b3 HB_52.out hltb, keep_cell b4 HB_52.out hltb, keep_cell b5 HB_52.out hltb⟩ (fun hHeld => ?_)
            clear hK K
            (try simp only [Act.put, List.setIfInBounds_toArray, List.set_cons_zero, List.set_cons_succ])
            generalize (w_51.setCells w_45.heap.size 0 [.string src', .slice ga L.length gc, .int .i64 lv1, .int .u32 c, .int .i64 fr1, .int .i64 til1]) = w_52 at *
            clear f0 f1 f2 f3 f4 f5 hy0 hy1 hy2 hy3 hy4 hy5 y0 y1 y2 y3 y4 y5
            have f0 := there_free HT_52.out 0 (by decide)
            have f1 := there_free HT_52.out 1 (by decide)
            have f2 := there_free HT_52.out 2 (by decide)
            have f3 := there_free HT_52.out 3 (by decide)
            have f4 := there_free HT_52.out 4 (by decide)
            have f5 := there_free HT_52.out 5 (by decide)
            obtain ⟨y0, hy0⟩ := there_cell HT_52.out 0 (by decide)
            obtain ⟨y1, hy1⟩ := there_cell HT_52.out 1 (by decide)
            obtain ⟨y2, hy2⟩ := there_cell HT_52.out 2 (by decide)
            obtain ⟨y3, hy3⟩ := there_cell HT_52.out 3 (by decide)
            obtain ⟨y4, hy4⟩ := there_cell HT_52.out 4 (by decide)
            obtain ⟨y5, hy5⟩ := there_cell HT_52.out 5 (by decide)
            have HB_53 : Hid (Below w5.heap.size w5 (w_52.setCells wd.heap.size 0 [.string src', .slice ua L.length uc, .int .i64 lv2, .int .u32 lc, .int .i64 fr2, .int .i64 til2])) := Lib.hid (below_puts (g := wd.heap.size) (o := 0) HB_52.out hG_44 [.string src', .slice ua L.length uc, .int .i64 lv2, .int .u32 lc, .int .i64 fr2, .int .i64 til2])
            have HZ_53 := Lib.hid (below_puts_base (g := wd.heap.size) (o := 0) (Below.refl 0 w_52) (Nat.zero_le _) [.string src', .slice ua L.length uc, .int .i64 lv2, .int .u32 lc, .int .i64 fr2, .int .i64 til2]).size
            have HC_53 := Lib.hid (c6_puts w_52 wd.heap.size (.string src') (.slice ua L.length uc) (.int .i64 lv2) (.int .u32 lc) (.int .i64 fr2) (.int .i64 til2) HT_52.out)
            have HD_53 := Lib.hid (c6_out HC_52.out hNE 0 [.string src', .slice ua L.length uc, .int .i64 lv2, .int .u32 lc, .int .i64 fr2, .int .i64 til2])
            refine held_step (i := 7) rfl (by kernel_rfl) (fun K hK => ?_)
            go_simp
            refine hK.out _ (w_52.setCells wd.heap.size 0 [.string src', .slice ua L.length uc, .int .i64 lv2, .int .u32 lc, .int .i64 fr2, .int .i64 til2]) ⟨keep_cell a0 HB_53.out hlta, keep_cell a1 HB_53.out hlta, keep_cell a2 HB_53.out hlta, keep_cell a3 HB_53.out hlta, keep_cell a4 HB_53.out hlta, keep_cell a5 HB_53.out hlta, keep_cell b0 HB_53.out hltb, keep_cell b1 HB_53.out hltb, keep_cell b2 HB_53.out hltb, keep_cell b3 HB_53.out hltb, keep_cell b4 HB_53.out hltb, keep_cell b5 HB_53.out hltb⟩ (fun hHeld => ?_)
            clear hK K
            (try simp only [Act.put, List.setIfInBounds_toArray, List.set_cons_zero, List.set_cons_succ])
            generalize (w_52.setCells wd.heap.size 0 [.string src', .slice ua L.length uc, .int .i64 lv2, .int .u32 lc, .int .i64 fr2, .int .i64 til2]) = w_53 at *
            refine wpAnyH_done (by kernel_rfl) ?_ _
            go_wp2
            go_meet
            exact ⟨w_45.heap.size, wd.heap.size, rfl, rfl, HD_53.out, HC_53.out, Nat.lt_of_lt_of_le hLA_51 (Nat.le_trans HZ_52.out HZ_53.out), Nat.lt_of_lt_of_le hLD_51 (Nat.le_trans HZ_52.out HZ_53.out), HB_53.out⟩
        · have hb_54 := alloc_below w_44 (.cells #[.string ⟨#[]⟩, .slice none 0 0, .int .i64 0, .int .u32 0, .int .i64 0, .int .i64 0] 35)
          have hB_54 := hB_44.trans (hb_54.mono hB_44.size)
          have hT_54 := box_there (Below.refl (w_44.alloc (.cells #[.string ⟨#[]⟩, .slice none 0 0, .int .i64 0, .int .u32 0, .int .i64 0, .int .i64 0] 35)).heap.size (w_44.alloc (.cells #[.string ⟨#[]⟩, .slice none 0 0, .int .i64 0, .int .u32 0, .int .i64 0, .int .i64 0] 35)))
          have hL_54 : w_44.heap.size < (w_44.alloc (.cells #[.string ⟨#[]⟩, .slice none 0 0, .int .i64 0, .int .u32 0, .int .i64 0, .int .i64 0] 35)).heap.size := by rw [World.size_alloc]; omega
          have hG_54 := hB_44.size
          have hTD_54 := there_later hT_44 hb_54 hL_44
          have hLD_54 := Nat.lt_of_lt_of_le hL_44 hb_54.size
          have hN_54 : w_44.heap.size ≠ wd.heap.size := by have := hL_44; omega
          go_simp
          refine hK.out _ _ ⟨keep_cell a0 hB_54 hlta, keep_cell a1 hB_54 hlta, keep_cell a2 hB_54 hlta, keep_cell a3 hB_54 hlta, keep_cell a4 hB_54 hlta, keep_cell a5 hB_54 hlta, keep_cell b0 hB_54 hltb, keep_cell b1 hB_54 hltb, keep_cell b2 hB_54 hltb, keep_cell b3 hB_54 hltb, keep_cell b4 hB_54 hltb, keep_cell b5 hB_54 hltb⟩ (fun hHeld => ?_)
          clear hK K
          (try simp only [Act.put, List.setIfInBounds_toArray, List.set_cons_zero, List.set_cons_succ])
          generalize w_44.alloc (.cells #[.string ⟨#[]⟩, .slice none 0 0, .int .i64 0, .int .u32 0, .int .i64 0, .int .i64 0] 35) = w_54 at *
          refine held_step (i := 1) rfl (by kernel_rfl) (fun K hK => ?_)
          go_simp; go_at_call 13; refine (K1.out _ hB_54).mono ?_; rintro e w_55 ⟨rfl, hb_55⟩
          have hB_55 := hB_54.trans (hb_55.mono hB_54.size)
          have hTA_55 := there_later hT_54 hb_55 hL_54
          have hLA_55 := Nat.lt_of_lt_of_le hL_54 hb_55.size
          have hTD_55 := there_later hTD_54 hb_55 hLD_54
          have hLD_55 := Nat.lt_of_lt_of_le hLD_54 hb_55.size
          refine hK.out _ _ ⟨keep_cell a0 hB_55 hlta, keep_cell a1 hB_55 hlta, keep_cell a2 hB_55 hlta, keep_cell a3 hB_55 hlta, keep_cell a4 hB_55 hlta, keep_cell a5 hB_55 hlta, keep_cell b0 hB_55 hltb, keep_cell b1 hB_55 hltb, keep_cell b2 hB_55 hltb, keep_cell b3 hB_55 hltb, keep_cell b4 hB_55 hltb, keep_cell b5 hB_55 hltb⟩ (fun hHeld => ?_)
          clear hK K
          (try simp only [Act.put, List.setIfInBounds_toArray, List.set_cons_zero, List.set_cons_succ])
          refine held_step (i := 3) rfl (by kernel_rfl) (fun K hK => ?_)
          go_simp; go_at_call 13; refine (K2.out _ hB_55).mono ?_; rintro e w_56 ⟨rfl, hb_56⟩
          have hB_56 := hB_55.trans (hb_56.mono hB_55.size)
          have hTA_56 := there_later hTA_55 hb_56 hLA_55
          have hLA_56 := Nat.lt_of_lt_of_le hLA_55 hb_56.size
          have hTD_56 := there_later hTD_55 hb_56 hLD_55
          have hLD_56 := Nat.lt_of_lt_of_le hLD_55 hb_56.size
          refine hK.out _ _ ⟨keep_cell a0 hB_56 hlta, keep_cell a1 hB_56 hlta, keep_cell a2 hB_56 hlta, keep_cell a3 hB_56 hlta, keep_cell a4 hB_56 hlta, keep_cell a5 hB_56 hlta, keep_cell b0 hB_56 hltb, keep_cell b1 hB_56 hltb, keep_cell b2 hB_56 hltb, keep_cell b3 hB_56 hltb, keep_cell b4 hB_56 hltb, keep_cell b5 hB_56 hltb⟩ (fun hHeld => ?_)
          clear hK K
          (try simp only [Act.put, List.setIfInBounds_toArray, List.set_cons_zero, List.set_cons_succ])
          have hNE := hN_54
          have f0 := there_free hTA_56 0 (by decide)
          have f1 := there_free hTA_56 1 (by decide)
          have f2 := there_free hTA_56 2 (by decide)
          have f3 := there_free hTA_56 3 (by decide)
          have f4 := there_free hTA_56 4 (by decide)
          have f5 := there_free hTA_56 5 (by decide)
          obtain ⟨y0, hy0⟩ := there_cell hTA_56 0 (by decide)
          obtain ⟨y1, hy1⟩ := there_cell hTA_56 1 (by decide)
          obtain ⟨y2, hy2⟩ := there_cell hTA_56 2 (by decide)
          obtain ⟨y3, hy3⟩ := there_cell hTA_56 3 (by decide)
          obtain ⟨y4, hy4⟩ := there_cell hTA_56 4 (by decide)
          obtain ⟨y5, hy5⟩ := there_cell hTA_56 5 (by decide)
          have HB_57 : Hid (Below w5.heap.size w5 (w_56.setCells w_44.heap.size 0 [.string src', .slice ga L.length gc, .int .i64 lv1, .int .u32 c, .int .i64 fr1, .int .i64 til1])) := Lib.hid (below_puts (g := w_44.heap.size) (o := 0) hB_56 hG_54 [.string src', .slice ga L.length gc, .int .i64 lv1, .int .u32 c, .int .i64 fr1, .int .i64 til1])
          have HZ_57 := Lib.hid (below_puts_base (g := w_44.heap.size) (o := 0) (Below.refl 0 w_56) (Nat.zero_le _) [.string src', .slice ga L.length gc, .int .i64 lv1, .int .u32 c, .int .i64 fr1, .int .i64 til1]).size
          have HC_57 := Lib.hid (c6_puts w_56 w_44.heap.size (.string src') (.slice ga L.length gc) (.int .i64 lv1) (.int .u32 c) (.int .i64 fr1) (.int .i64 til1) hTA_56)
          have HT_57 := Lib.hid (World.there_setCells hTD_56 w_44.heap.size 0 [.string src', .slice ga L.length gc, .int .i64 lv1, .int .u32 c, .int .i64 fr1, .int .i64 til1])
          refine held_step (i := 6) rfl (by kernel_rfl) (fun K hK => ?_)
          go_simp
          refine hK.out _ (w_56.setCells w_44.heap.size 0 [.string src', .slice ga L.length gc, .int .i64 lv1, .int .u32 c, .int .i64 fr1, .int .i64 til1]) ⟨keep_cell a0 HB_57.out hlta, keep_cell a1 HB_57.out hlta, keep_cell a2 HB_57.out hlta, keep_cell a3 HB_57.out hlta, keep_cell a4 HB_57.out hlta, keep_cell a5 HB_57.out hlta, keep_cell b0 HB_57.out hltb, keep_cell b1 HB_57.out hltb, keep_cell b2 HB_57.out hltb, keep_cell b3 HB_57.out hltb, keep_cell b4 HB_57.out hltb, keep_cell b5 HB_57.out hltb⟩ (fun hHeld => ?_)
          clear hK K
          (try simp only [Act.put, List.setIfInBounds_toArray, List.set_cons_zero, List.set_cons_succ])
          generalize (w_56.setCells w_44.heap.size 0 [.string src', .slice ga L.length gc, .int .i64 lv1, .int .u32 c, .int .i64 fr1, .int .i64 til1]) = w_57 at *
          clear f0 f1 f2 f3 f4 f5 hy0 hy1 hy2 hy3 hy4 hy5 y0 y1 y2 y3 y4 y5
          have f0 := there_free HT_57.out 0 (by decide)
          have f1 := there_free HT_57.out 1 (by decide)
          have f2 := there_free HT_57.out 2 (by decide)
          have f3 := there_free HT_57.out 3 (by decide)
          have f4 := there_free HT_57.out 4 (by decide)
          have f5 := there_free HT_57.out 5 (by decide)
          obtain ⟨y0, hy0⟩ := there_cell HT_57.out 0 (by decide)
          obtain ⟨y1, hy1⟩ := there_cell HT_57.out 1 (by decide)
          obtain ⟨y2, hy2⟩ := there_cell HT_57.out 2 (by decide)
          obtain ⟨y3, hy3⟩ := there_cell HT_57.out 3 (by decide)
          obtain ⟨y4, hy4⟩ := there_cell HT_57.out 4 (by decide)
          obtain ⟨y5, hy5⟩ := there_cell HT_57.out 5 (by decide)
          have HB_58 : Hid (Below w5.heap.size w5 (w_57.setCells wd.heap.size 0 [.string src', .slice ua L.length uc, .int .i64 lv2, .int .u32 lc, .int .i64 fr2, .int .i64 til2])) := Lib.hid (below_puts (g := wd.heap.size) (o := 0) HB_57.out hG_44 [.string src', .slice ua L.length uc, .int .i64 lv2, .int .u32 lc, .int .i64 fr2, .int .i64 til2])
          have HZ_58 := Lib.hid (below_puts_base (g := wd.heap.size) (o := 0) (Below.refl 0 w_57) (Nat.zero_le _) [.string src', .slice ua L.length uc, .int .i64 lv2, .int .u32 lc, .int .i64 fr2, .int .i64 til2]).size
          have HC_58 := Lib.hid (c6_puts w_57 wd.heap.size (.string src') (.slice ua L.length uc) (.int .i64 lv2) (.int .u32 lc) (.int .i64 fr2) (.int .i64 til2) HT_57.out)
          have HD_58 := Lib.hid (c6_out HC_57.out hNE 0 [.string src', .slice ua L.length uc, .int .i64 lv2, .int .u32 lc, .int .i64 fr2, .int .i64 til2])
          refine held_step (i := 7) rfl (by kernel_rfl) (fun K hK => ?_)
          go_simp
          refine hK.out _ (w_57.setCells wd.heap.size 0 [.string src', .slice ua L.length uc, .int .i64 lv2, .int .u32 lc, .int .i64 fr2, .int .i64 til2]) ⟨keep_cell a0 HB_58.out hlta, keep_cell a1 HB_58.out hlta, keep_cell a2 HB_58.out hlta, keep_cell a3 HB_58.out hlta, keep_cell a4 HB_58.out hlta, keep_cell a5 HB_58.out hlta, keep_cell b0 HB_58.out hltb, keep_cell b1 HB_58.out hltb, keep_cell b2 HB_58.out hltb, keep_cell b3 HB_58.out hltb, keep_cell b4 HB_58.out hltb, keep_cell b5 HB_58.out hltb⟩ (fun hHeld => ?_)
          clear hK K
          (try simp only [Act.put, List.setIfInBounds_toArray, List.set_cons_zero, List.set_cons_succ])
          generalize (w_57.setCells wd.heap.size 0 [.string src', .slice ua L.length uc, .int .i64 lv2, .int .u32 lc, .int .i64 fr2, .int .i64 til2]) = w_58 at *
          refine wpAnyH_done (by kernel_rfl) ?_ _
          go_wp2
          go_meet
          exact ⟨w_44.heap.size, wd.heap.size, rfl, rfl, HD_58.out, HC_58.out, Nat.lt_of_lt_of_le hLA_56 (Nat.le_trans HZ_57.out HZ_58.out), Nat.lt_of_lt_of_le hLD_56 (Nat.le_trans HZ_57.out HZ_58.out), HB_58.out⟩
    case rest =>
      obtain ⟨gx, gy, rfl, rfl, hX, hY, hltx, hlty, hB⟩ := hcut
      have HX : Hid (ABx gx src' L ga gc lv1 c fr1 til1 wc) := Lib.hid ⟨hX, hltx, HG5.out.f.later hB⟩
      have HY : Hid (ABx gy src' L ua uc lv2 lc fr2 til2 wc) := Lib.hid ⟨hY, hlty, HH5.out.f.later hB⟩
      have HM := Lib.hid (HM5.out.later hB)
      obtain ⟨lm, cm, fm, tm, e1, e2, e3, e4, e5, e6, e7, e8, e9, e10, e11⟩ := merges_law RA.out RB.out hc
      have fx : AlFit ⟨src', L, lv1, c, fr1, til1⟩ := ⟨HS.out.1, HFI.out, (by have := HL8.out; unfold maxLen; omega : L.length ≤ maxLen), hc⟩
      have fy : AlFit ⟨src', L, lv2, lc, fr2, til2⟩ := ⟨HS.out.1, HFI.out, (by have := HL8.out; unfold maxLen; omega : L.length ≤ maxLen), hlc⟩
      have K3 := Lib.hid (fun W (h1 : FldsAt W (.slice ga L.length gc) L) (h2 : FldsAt W (.slice ua L.length uc) L) => merge_as ⟨src', L, lv1, c, fr1, til1⟩ ⟨src', L, lv2, lc, fr2, til2⟩ ⟨src', L, lm, cm, fm, tm⟩ (.slice ga L.length gc) (.slice ua L.length uc) W fx fy h1 h2 e1 e4)
      have K4 := Lib.hid (fun W (h1 : FldsAt W (.slice ga L.length gc) L) (h2 : FldsAt W (.slice ua L.length uc) L) => merge_as ⟨src', L, lv2, lc, fr2, til2⟩ ⟨src', L, lv1, c, fr1, til1⟩ ⟨src', L, lm, cm, fm, tm⟩ (.slice ua L.length uc) (.slice ga L.length gc) W fy fx h2 h1 e2 e5)
      have K5 := Lib.hid (fun W (h1 : FldsAt W (.slice ga L.length gc) L) => merge_as ⟨src', L, lv1, c, fr1, til1⟩ ⟨src', L, lv1, c, fr1, til1⟩ ⟨src', L, lv1, c, fr1, til1⟩ (.slice ga L.length gc) (.slice ga L.length gc) W fx fx h1 h1 e3 e6)
      have HMR := Lib.hid e7
      have HF1 := Lib.hid e8
      have HF2 := Lib.hid e9
      have HCM := Lib.hid e10
      have HFIR := Lib.hid (e11 n2)
      have HC := Lib.hid (And.intro hc hlc)
      clear e1 e2 e3 e4 e5 e6 e7 e8 e9 e10 e11 fx fy hX hY hltx hlty hB K1 K2 HG5 HH5 HM5 a0 a1 a2 a3 a4 a5 b0 b1 b2 b3 b4 b5 hlta hltb hc hlc
      obtain ⟨a0, a1, a2, a3, a4, a5⟩ := HX.out.x
      obtain ⟨b0, b1, b2, b3, b4, b5⟩ := HY.out.x
      go_wp2_with fail
      refine (K3.out _ HX.out.f HY.out.f).mono ?_
      rintro e w6c ⟨ma, mc, rfl, hF, hb⟩
      have Hm := Lib.hid (abx_new (src := src') (lv := lm) (c := cm) (fr := fm) (til := tm) (t := 35) hF)
      have hbb := hb.trans ((alloc_below w6c (.cells #[.string src', .slice ma L.length mc, .int .i64 lm, .int .u32 cm, .int .i64 fm, .int .i64 tm] 35)).mono hb.size)
      replace HX := Lib.hid (HX.out.later hbb)
      replace HY := Lib.hid (HY.out.later hbb)
      replace HM := Lib.hid (HM.out.later hbb)
      clear a0 a1 a2 a3 a4 a5 b0 b1 b2 b3 b4 b5 hF hb hbb K3
      go_upto_region 9 with fail
      change Code.wp _ _ _ _ (w6c.alloc (.cells #[.string src', .slice ma L.length mc, .int .i64 lm, .int .u32 cm, .int .i64 fm, .int .i64 tm] 35))
      generalize w6c.alloc (.cells #[.string src', .slice ma L.length mc, .int .i64 lm, .int .u32 cm, .int .i64 fm, .int .i64 tm] 35) = w6 at *
      generalize w6c.heap.size = gm at *
      obtain ⟨a0, a1, a2, a3, a4, a5⟩ := HX.out.x
      obtain ⟨b0, b1, b2, b3, b4, b5⟩ := HY.out.x
      go_wp2_with fail
      refine (K4.out _ HX.out.f HY.out.f).mono ?_
      rintro e w7c ⟨na, nc, rfl, hF, hb⟩
      have Hn := Lib.hid (abx_new (src := src') (lv := lm) (c := cm) (fr := fm) (til := tm) (t := 35) hF)
      have hbb := hb.trans ((alloc_below w7c (.cells #[.string src', .slice na L.length nc, .int .i64 lm, .int .u32 cm, .int .i64 fm, .int .i64 tm] 35)).mono hb.size)
      replace HX := Lib.hid (HX.out.later hbb)
      replace HY := Lib.hid (HY.out.later hbb)
      replace HM := Lib.hid (HM.out.later hbb)
      replace Hm := Lib.hid (Hm.out.later hbb)
      clear a0 a1 a2 a3 a4 a5 b0 b1 b2 b3 b4 b5 hF hb hbb K4
      go_upto_region 10 with fail
      change Code.wp _ _ _ _ (w7c.alloc (.cells #[.string src', .slice na L.length nc, .int .i64 lm, .int .u32 cm, .int .i64 fm, .int .i64 tm] 35))
      generalize w7c.alloc (.cells #[.string src', .slice na L.length nc, .int .i64 lm, .int .u32 cm, .int .i64 fm, .int .i64 tm] 35) = w7 at *
      generalize w7c.heap.size = gn at *
      obtain ⟨a0, a1, a2, a3, a4, a5⟩ := HX.out.x
      obtain ⟨b0, b1, b2, b3, b4, b5⟩ := HY.out.x
      go_wp2_with fail
      refine (K5.out _ HX.out.f).mono ?_
      rintro e w8c ⟨oa, oc, rfl, hF, hb⟩
      have Ho := Lib.hid (abx_new (src := src') (lv := lv1) (c := c) (fr := fr1) (til := til1) (t := 35) hF)
      have hbb := hb.trans ((alloc_below w8c (.cells #[.string src', .slice oa L.length oc, .int .i64 lv1, .int .u32 c, .int .i64 fr1, .int .i64 til1] 35)).mono hb.size)
      replace HX := Lib.hid (HX.out.later hbb)
      replace HY := Lib.hid (HY.out.later hbb)
      replace HM := Lib.hid (HM.out.later hbb)
      replace Hm := Lib.hid (Hm.out.later hbb)
      replace Hn := Lib.hid (Hn.out.later hbb)
      clear a0 a1 a2 a3 a4 a5 b0 b1 b2 b3 b4 b5 hF hb hbb K5
      go_upto_region 11 with fail
      change Code.wp _ _ _ _ (w8c.alloc (.cells #[.string src', .slice oa L.length oc, .int .i64 lv1, .int .u32 c, .int .i64 fr1, .int .i64 til1] 35))
      generalize w8c.alloc (.cells #[.string src', .slice oa L.length oc, .int .i64 lv1, .int .u32 c, .int .i64 fr1, .int .i64 til1] 35) = w8 at *
      generalize w8c.heap.size = go at *
      have t2 := HM.out.t2
      obtain ⟨q1, hq1⟩ : ∃ z, firesA ⟨src', L, lv1, c, fr1, til1⟩ n2 = z := ⟨_, rfl⟩
      obtain ⟨q2, hq2⟩ : ∃ z, firesA ⟨src', L, lv2, lc, fr2, til2⟩ n2 = z := ⟨_, rfl⟩
      have k1 := fun W => fires_as src' L ga L.length gc lv1 c fr1 til1 n2 q1 hq1 W
      have k2 := fun W => fires_as src' L ua L.length uc lv2 lc fr2 til2 n2 q2 hq2 W
      have HQ : Hid ((q1 || q2) = true → firesA ⟨src', L, lm, cm, fm, tm⟩ n2 = true) := Lib.hid (by rw [← hq1, ← hq2]; exact HFIR.out)
      clear hq1 hq2 HFIR
      obtain ⟨a0, a1, a2, a3, a4, a5⟩ := HX.out.x
      go_upto_region 12 with fail
      go_cut [20] (fun s20 wx => s20 = .bool (q1 || q2) ∧ Below w8.heap.size w8 wx)
      case first =>
        go_wp2_with fail
        refine (k1 _).mono ?_
        rintro e w9 ⟨rfl, hb9⟩
        obtain ⟨b0, b1, b2, b3, b4, b5⟩ := HY.out.x.later hb9 HY.out.lt
        clear a0 a1 a2 a3 a4 a5 t2 k1
        cases q1
        · go_wp2_with fail
          refine (k2 _).mono ?_
          rintro e w10 ⟨rfl, hb10⟩
          have hb910 := hb9.trans (hb10.mono hb9.size)
          clear b0 b1 b2 b3 b4 b5 k2
          go_wp2
          go_meet
          exact ⟨rfl, hb910⟩
        · go_wp2
          go_meet
          exact ⟨rfl, hb9⟩
      case rest =>
        obtain ⟨rfl, hB⟩ := hcut
        replace HX := Lib.hid (HX.out.later hB)
        replace HY := Lib.hid (HY.out.later hB)
        replace HM := Lib.hid (HM.out.later hB)
        replace Hm := Lib.hid (Hm.out.later hB)
        replace Hn := Lib.hid (Hn.out.later hB)
        replace Ho := Lib.hid (Ho.out.later hB)
        generalize (q1 || q2) = q at *
        clear a0 a1 a2 a3 a4 a5 t2 hB k1 k2
        obtain ⟨nid, hnid⟩ : ∃ z, shortL (idB src' L) = z := ⟨_, rfl⟩
        have KA : Hid (∀ W, Below wc.heap.size wc W → Calls Try.prog 30 #[.agg #[.string src', .slice ma L.length mc, .int .i64 lm, .int .u32 cm, .int .i64 fm, .int .i64 tm], .agg #[.string src', .slice na L.length nc, .int .i64 lm, .int .u32 cm, .int .i64 fm, .int .i64 tm]] W fun e w' => e = .returned (.bool true) ∧ Below W.heap.size W w') := Lib.hid (fun W h => by
          have := asame_any src' src' L L (.slice ma L.length mc) (.slice na L.length nc) lm cm fm tm lm cm fm tm W (Hm.out.f.later h) (Hn.out.f.later h) (by have := HL8.out; unfold maxLen; omega) (by have := HL8.out; unfold maxLen; omega)
          rw [show sameA src' src' L L lm cm fm tm lm cm fm tm = true by unfold sameA; simp] at this
          exact this)
        have KB : Hid (∀ W, Below wc.heap.size wc W → Calls Try.prog 30 #[.agg #[.string src', .slice oa L.length oc, .int .i64 lv1, .int .u32 c, .int .i64 fr1, .int .i64 til1], .agg #[.string src', .slice ga L.length gc, .int .i64 lv1, .int .u32 c, .int .i64 fr1, .int .i64 til1]] W fun e w' => e = .returned (.bool true) ∧ Below W.heap.size W w') := Lib.hid (fun W h => by
          have := asame_any src' src' L L (.slice oa L.length oc) (.slice ga L.length gc) lv1 c fr1 til1 lv1 c fr1 til1 W (Ho.out.f.later h) (HX.out.f.later h) (by have := HL8.out; unfold maxLen; omega) (by have := HL8.out; unfold maxLen; omega)
          rw [show sameA src' src' L L lv1 c fr1 til1 lv1 c fr1 til1 = true by unfold sameA; simp] at this
          exact this)
        have KI : Hid (∀ W, Below wc.heap.size wc W → Calls Try.prog 31 #[.agg #[.string src', .slice ma L.length mc, .int .i64 lm, .int .u32 cm, .int .i64 fm, .int .i64 tm]] W fun e w' => e = .returned (.int .u64 nid) ∧ Below W.heap.size W w') := Lib.hid (fun W h => by
          rw [← hnid]
          exact id_any src' L lm cm fm tm (.slice ma L.length mc) W (Hm.out.f.later h) (idB_bound (rightA_who HMR.out)))
        have KJ : Hid (∀ W, Below wc.heap.size wc W → Calls Try.prog 31 #[.agg #[.string src', .slice ga L.length gc, .int .i64 lv1, .int .u32 c, .int .i64 fr1, .int .i64 til1]] W fun e w' => e = .returned (.int .u64 nid) ∧ Below W.heap.size W w') := Lib.hid (fun W h => by
          rw [← hnid]
          exact id_any src' L lv1 c fr1 til1 (.slice ga L.length gc) W (HX.out.f.later h) (idB_bound (rightA_who RA.out)))
        have KL : Hid (∀ W, Below wc.heap.size wc W → Calls Try.prog 28 #[Lab lv1 c, Lab lm cm] W fun e w' => e = .returned (.bool true) ∧ Below W.heap.size W w') := Lib.hid (fun W h => by
          have := rflows_any lv1 c lm cm W HC.out.1 HCM.out
          rw [HF1.out] at this
          exact this)
        have KM : Hid (∀ W, Below wc.heap.size wc W → Calls Try.prog 28 #[Lab lv2 lc, Lab lm cm] W fun e w' => e = .returned (.bool true) ∧ Below W.heap.size W w') := Lib.hid (fun W h => by
          have := rflows_any lv2 lc lm cm W HC.out.2 HCM.out
          rw [HF2.out] at this
          exact this)
        have KR : Hid (∀ W, Below wc.heap.size wc W → Calls Try.prog 23 #[.agg #[.string src', .slice ma L.length mc, .int .i64 lm, .int .u32 cm, .int .i64 fm, .int .i64 tm]] W fun e w' => e = .returned (.bool true) ∧ Below W.heap.size W w') := Lib.hid (fun W h => by
          have := aright_any src' L lm cm fm tm (.slice ma L.length mc) W HS.out.1 (Hm.out.f.later h) HFI.out (by have := HL8.out; unfold maxLen; omega)
          rw [show (whoA src' L lm && beginsA fm && endsA fm tm) = true from HMR.out] at this
          exact this)
        have KE : Hid (∀ W, Below wc.heap.size wc W → Calls Try.prog 36 #[.slice ma L.length mc, .slice ga L.length gc] W fun e w' => e = .returned (.bool true) ∧ Below W.heap.size W w') := Lib.hid (fun W h => by
          have := rsame6_any L L W (.slice ma L.length mc) (.slice ga L.length gc) (Hm.out.f.later h) (HX.out.f.later h) (by have := HL8.out; unfold maxLen; omega) (by have := HL8.out; unfold maxLen; omega)
          rw [decide_eq_true rfl] at this
          exact this)
        clear hnid
        obtain ⟨m0, m1, m2, m3, m4, m5⟩ := Hm.out.x
        obtain ⟨p0, p1, p2, p3, p4, p5⟩ := Hn.out.x
        obtain ⟨o0, o1, o2, o3, o4, o5⟩ := Ho.out.x
        obtain ⟨x0, x1, x2, x3, x4, x5⟩ := HX.out.x
        have y2 := HY.out.x.2.2.1
        have y3 := HY.out.x.2.2.2.1
        have ltm := Hm.out.lt
        have ltn := Hn.out.lt
        have lto := Ho.out.lt
        have ltx := HX.out.lt
        have lty := HY.out.lt
        have HBM := Lib.hid HM.out.below
        have HQ2 : Hid (q = true → ∀ W, Calls Try.prog 24 #[.agg #[.string src', .slice ma L.length mc, .int .i64 lm, .int .u32 cm, .int .i64 fm, .int .i64 tm], .int .i64 n2] W fun e w' => e = .returned (.bool true) ∧ Below W.heap.size W w') := Lib.hid (fun h W => fires_as src' L ma L.length mc lm cm fm tm n2 true (HQ.out h) W)
        have hnn : (nid == nid) = true := by simp
        clear HQ Hm Hn Ho HX HY HM HS HFI HL8 RA RB HMR HF1 HF2 HCM HC
        cases q
        · go_upto_region 13 with fail
          refine wp_region_held_drew (S := (fun W => W.cell? ⟨gm, 0, none⟩ = some (.string src') ∧ W.cell? ⟨gm, 1, none⟩ = some (.slice ma L.length mc) ∧ W.cell? ⟨gm, 2, none⟩ = some (.int .i64 lm) ∧ W.cell? ⟨gm, 3, none⟩ = some (.int .u32 cm) ∧ W.cell? ⟨gm, 4, none⟩ = some (.int .i64 fm) ∧ W.cell? ⟨gm, 5, none⟩ = some (.int .i64 tm) ∧ W.cell? ⟨gn, 0, none⟩ = some (.string src') ∧ W.cell? ⟨gn, 1, none⟩ = some (.slice na L.length nc) ∧ W.cell? ⟨gn, 2, none⟩ = some (.int .i64 lm) ∧ W.cell? ⟨gn, 3, none⟩ = some (.int .u32 cm) ∧ W.cell? ⟨gn, 4, none⟩ = some (.int .i64 fm) ∧ W.cell? ⟨gn, 5, none⟩ = some (.int .i64 tm) ∧ W.cell? ⟨go, 0, none⟩ = some (.string src') ∧ W.cell? ⟨go, 1, none⟩ = some (.slice oa L.length oc) ∧ W.cell? ⟨go, 2, none⟩ = some (.int .i64 lv1) ∧ W.cell? ⟨go, 3, none⟩ = some (.int .u32 c) ∧ W.cell? ⟨go, 4, none⟩ = some (.int .i64 fr1) ∧ W.cell? ⟨go, 5, none⟩ = some (.int .i64 til1) ∧ W.cell? ⟨gx, 0, none⟩ = some (.string src') ∧ W.cell? ⟨gx, 1, none⟩ = some (.slice ga L.length gc) ∧ W.cell? ⟨gx, 2, none⟩ = some (.int .i64 lv1) ∧ W.cell? ⟨gx, 3, none⟩ = some (.int .u32 c) ∧ W.cell? ⟨gx, 4, none⟩ = some (.int .i64 fr1) ∧ W.cell? ⟨gx, 5, none⟩ = some (.int .i64 til1) ∧ W.cell? ⟨gy, 2, none⟩ = some (.int .i64 lv2) ∧ W.cell? ⟨gy, 3, none⟩ = some (.int .u32 lc))) (by kernel_rfl) ⟨m0, m1, m2, m3, m4, m5, p0, p1, p2, p3, p4, p5, o0, o1, o2, o3, o4, o5, x0, x1, x2, x3, x4, x5, y2, y3⟩ (fun hHeld => ?_)
          have hd : Below wc.heap.size wc wc.drew := (Below.refl _ _).drew
          refine held_take (i := 0) (v := ?_) rfl rfl (by kernel_rfl) (by kernel_rfl) (by kernel_rfl) (fun _ _ _ h => h) (by rfl) hHeld ?_ ?_
          rotate_left
          · rintro wh ⟨z0, z1, z2, z3, z4, z5, z6, z7, z8, z9, z10, z11, z12, z13, z14, z15, z16, z17, z18, z19, z20, z21, z22, z23, z24, z25⟩
            go_simp
            (try with_reducible rfl)
          simp only [Act.put, List.setIfInBounds_toArray, List.set_cons_zero, List.set_cons_succ]
          refine held_take (i := 1) (v := ?_) rfl rfl (by kernel_rfl) (by kernel_rfl) (by kernel_rfl) (fun _ _ _ h => h) (by rfl) hHeld ?_ ?_
          rotate_left
          · rintro wh ⟨z0, z1, z2, z3, z4, z5, z6, z7, z8, z9, z10, z11, z12, z13, z14, z15, z16, z17, z18, z19, z20, z21, z22, z23, z24, z25⟩
            go_simp
            (try with_reducible rfl)
          simp only [Act.put, List.setIfInBounds_toArray, List.set_cons_zero, List.set_cons_succ]
          refine held_take (i := 2) (v := ?_) rfl rfl (by kernel_rfl) (by kernel_rfl) (by kernel_rfl) (fun _ _ _ h => h) (by rfl) hHeld ?_ ?_
          rotate_left
          · rintro wh ⟨z0, z1, z2, z3, z4, z5, z6, z7, z8, z9, z10, z11, z12, z13, z14, z15, z16, z17, z18, z19, z20, z21, z22, z23, z24, z25⟩
            go_simp
            (try with_reducible rfl)
          simp only [Act.put, List.setIfInBounds_toArray, List.set_cons_zero, List.set_cons_succ]
          refine held_take (i := 3) (v := ?_) rfl rfl (by kernel_rfl) (by kernel_rfl) (by kernel_rfl) (fun _ _ _ h => h) (by rfl) hHeld ?_ ?_
          rotate_left
          · rintro wh ⟨z0, z1, z2, z3, z4, z5, z6, z7, z8, z9, z10, z11, z12, z13, z14, z15, z16, z17, z18, z19, z20, z21, z22, z23, z24, z25⟩
            go_simp
            (try with_reducible rfl)
          simp only [Act.put, List.setIfInBounds_toArray, List.set_cons_zero, List.set_cons_succ]
          refine held_take (i := 4) (v := ?_) rfl rfl (by kernel_rfl) (by kernel_rfl) (by kernel_rfl) (fun _ _ _ h => h) (by rfl) hHeld ?_ ?_
          rotate_left
          · rintro wh ⟨z0, z1, z2, z3, z4, z5, z6, z7, z8, z9, z10, z11, z12, z13, z14, z15, z16, z17, z18, z19, z20, z21, z22, z23, z24, z25⟩
            go_simp
            (try with_reducible rfl)
          simp only [Act.put, List.setIfInBounds_toArray, List.set_cons_zero, List.set_cons_succ]
          refine held_take (i := 5) (v := ?_) rfl rfl (by kernel_rfl) (by kernel_rfl) (by kernel_rfl) (fun _ _ _ h => h) (by rfl) hHeld ?_ ?_
          rotate_left
          · rintro wh ⟨z0, z1, z2, z3, z4, z5, z6, z7, z8, z9, z10, z11, z12, z13, z14, z15, z16, z17, z18, z19, z20, z21, z22, z23, z24, z25⟩
            go_simp
            (try with_reducible rfl)
          simp only [Act.put, List.setIfInBounds_toArray, List.set_cons_zero, List.set_cons_succ]
          refine held_take (i := 6) (v := ?_) rfl rfl (by kernel_rfl) (by kernel_rfl) (by kernel_rfl) (fun _ _ _ h => h) (by rfl) hHeld ?_ ?_
          rotate_left
          · rintro wh ⟨z0, z1, z2, z3, z4, z5, z6, z7, z8, z9, z10, z11, z12, z13, z14, z15, z16, z17, z18, z19, z20, z21, z22, z23, z24, z25⟩
            go_simp
            (try with_reducible rfl)
          simp only [Act.put, List.setIfInBounds_toArray, List.set_cons_zero, List.set_cons_succ]
          refine held_take (i := 7) (v := ?_) rfl rfl (by kernel_rfl) (by kernel_rfl) (by kernel_rfl) (fun _ _ _ h => h) (by rfl) hHeld ?_ ?_
          rotate_left
          · rintro wh ⟨z0, z1, z2, z3, z4, z5, z6, z7, z8, z9, z10, z11, z12, z13, z14, z15, z16, z17, z18, z19, z20, z21, z22, z23, z24, z25⟩
            go_simp
            (try with_reducible rfl)
          simp only [Act.put, List.setIfInBounds_toArray, List.set_cons_zero, List.set_cons_succ]
          refine held_take (i := 8) (v := ?_) rfl rfl (by kernel_rfl) (by kernel_rfl) (by kernel_rfl) (fun _ _ _ h => h) (by rfl) hHeld ?_ ?_
          rotate_left
          · rintro wh ⟨z0, z1, z2, z3, z4, z5, z6, z7, z8, z9, z10, z11, z12, z13, z14, z15, z16, z17, z18, z19, z20, z21, z22, z23, z24, z25⟩
            go_simp
            (try with_reducible rfl)
          simp only [Act.put, List.setIfInBounds_toArray, List.set_cons_zero, List.set_cons_succ]
          refine held_take (i := 9) (v := ?_) rfl rfl (by kernel_rfl) (by kernel_rfl) (by kernel_rfl) (fun _ _ _ h => h) (by rfl) hHeld ?_ ?_
          rotate_left
          · rintro wh ⟨z0, z1, z2, z3, z4, z5, z6, z7, z8, z9, z10, z11, z12, z13, z14, z15, z16, z17, z18, z19, z20, z21, z22, z23, z24, z25⟩
            go_simp
            (try with_reducible rfl)
          simp only [Act.put, List.setIfInBounds_toArray, List.set_cons_zero, List.set_cons_succ]
          refine held_call (i := 10) rfl (by kernel_rfl) (by rfl) (fun K hK => ?_)
          (go_simp; go_at_call 30; refine (KA.out _ hd).mono ?_; rintro e v1 ⟨rfl, hb1⟩; have hB1 := hd.trans (hb1.mono hd.size))
          refine hK.out _ _ ⟨keep_cell m0 hB1 ltm, keep_cell m1 hB1 ltm, keep_cell m2 hB1 ltm, keep_cell m3 hB1 ltm, keep_cell m4 hB1 ltm, keep_cell m5 hB1 ltm, keep_cell p0 hB1 ltn, keep_cell p1 hB1 ltn, keep_cell p2 hB1 ltn, keep_cell p3 hB1 ltn, keep_cell p4 hB1 ltn, keep_cell p5 hB1 ltn, keep_cell o0 hB1 lto, keep_cell o1 hB1 lto, keep_cell o2 hB1 lto, keep_cell o3 hB1 lto, keep_cell o4 hB1 lto, keep_cell o5 hB1 lto, keep_cell x0 hB1 ltx, keep_cell x1 hB1 ltx, keep_cell x2 hB1 ltx, keep_cell x3 hB1 ltx, keep_cell x4 hB1 ltx, keep_cell x5 hB1 ltx, keep_cell y2 hB1 lty, keep_cell y3 hB1 lty⟩ (fun hHeld => ?_)
          clear hK K
          (try simp only [Act.put, List.setIfInBounds_toArray, List.set_cons_zero, List.set_cons_succ])
          refine held_take (i := 11) (v := ?_) rfl rfl (by kernel_rfl) (by kernel_rfl) (by kernel_rfl) (fun _ _ _ h => h) (by rfl) hHeld ?_ ?_
          rotate_left
          · rintro wh ⟨z0, z1, z2, z3, z4, z5, z6, z7, z8, z9, z10, z11, z12, z13, z14, z15, z16, z17, z18, z19, z20, z21, z22, z23, z24, z25⟩
            go_simp
            (try with_reducible rfl)
          simp only [Act.put, List.setIfInBounds_toArray, List.set_cons_zero, List.set_cons_succ]
          refine held_take (i := 12) (v := ?_) rfl rfl (by kernel_rfl) (by kernel_rfl) (by kernel_rfl) (fun _ _ _ h => h) (by rfl) hHeld ?_ ?_
          rotate_left
          · rintro wh ⟨z0, z1, z2, z3, z4, z5, z6, z7, z8, z9, z10, z11, z12, z13, z14, z15, z16, z17, z18, z19, z20, z21, z22, z23, z24, z25⟩
            go_simp
            (try with_reducible rfl)
          simp only [Act.put, List.setIfInBounds_toArray, List.set_cons_zero, List.set_cons_succ]
          refine held_take (i := 13) (v := ?_) rfl rfl (by kernel_rfl) (by kernel_rfl) (by kernel_rfl) (fun _ _ _ h => h) (by rfl) hHeld ?_ ?_
          rotate_left
          · rintro wh ⟨z0, z1, z2, z3, z4, z5, z6, z7, z8, z9, z10, z11, z12, z13, z14, z15, z16, z17, z18, z19, z20, z21, z22, z23, z24, z25⟩
            go_simp
            (try with_reducible rfl)
          simp only [Act.put, List.setIfInBounds_toArray, List.set_cons_zero, List.set_cons_succ]
          refine held_take (i := 14) (v := ?_) rfl rfl (by kernel_rfl) (by kernel_rfl) (by kernel_rfl) (fun _ _ _ h => h) (by rfl) hHeld ?_ ?_
          rotate_left
          · rintro wh ⟨z0, z1, z2, z3, z4, z5, z6, z7, z8, z9, z10, z11, z12, z13, z14, z15, z16, z17, z18, z19, z20, z21, z22, z23, z24, z25⟩
            go_simp
            (try with_reducible rfl)
          simp only [Act.put, List.setIfInBounds_toArray, List.set_cons_zero, List.set_cons_succ]
          refine held_call (i := 15) rfl (by kernel_rfl) (by rfl) (fun K hK => ?_)
          (go_simp; go_at_call 30; refine (KB.out _ hB1).mono ?_; rintro e v2 ⟨rfl, hb2⟩; have hB2 := hB1.trans (hb2.mono hB1.size))
          refine hK.out _ _ ⟨keep_cell m0 hB2 ltm, keep_cell m1 hB2 ltm, keep_cell m2 hB2 ltm, keep_cell m3 hB2 ltm, keep_cell m4 hB2 ltm, keep_cell m5 hB2 ltm, keep_cell p0 hB2 ltn, keep_cell p1 hB2 ltn, keep_cell p2 hB2 ltn, keep_cell p3 hB2 ltn, keep_cell p4 hB2 ltn, keep_cell p5 hB2 ltn, keep_cell o0 hB2 lto, keep_cell o1 hB2 lto, keep_cell o2 hB2 lto, keep_cell o3 hB2 lto, keep_cell o4 hB2 lto, keep_cell o5 hB2 lto, keep_cell x0 hB2 ltx, keep_cell x1 hB2 ltx, keep_cell x2 hB2 ltx, keep_cell x3 hB2 ltx, keep_cell x4 hB2 ltx, keep_cell x5 hB2 ltx, keep_cell y2 hB2 lty, keep_cell y3 hB2 lty⟩ (fun hHeld => ?_)
          clear hK K
          (try simp only [Act.put, List.setIfInBounds_toArray, List.set_cons_zero, List.set_cons_succ])
          refine held_take (i := 16) (v := ?_) rfl rfl (by kernel_rfl) (by kernel_rfl) (by kernel_rfl) (fun _ _ _ h => h) (by rfl) hHeld ?_ ?_
          rotate_left
          · rintro wh ⟨z0, z1, z2, z3, z4, z5, z6, z7, z8, z9, z10, z11, z12, z13, z14, z15, z16, z17, z18, z19, z20, z21, z22, z23, z24, z25⟩
            go_simp
            (try with_reducible rfl)
          simp only [Act.put, List.setIfInBounds_toArray, List.set_cons_zero, List.set_cons_succ]
          refine held_take (i := 17) (v := ?_) rfl rfl (by kernel_rfl) (by kernel_rfl) (by kernel_rfl) (fun _ _ _ h => h) (by rfl) hHeld ?_ ?_
          rotate_left
          · rintro wh ⟨z0, z1, z2, z3, z4, z5, z6, z7, z8, z9, z10, z11, z12, z13, z14, z15, z16, z17, z18, z19, z20, z21, z22, z23, z24, z25⟩
            go_simp
            (try with_reducible rfl)
          simp only [Act.put, List.setIfInBounds_toArray, List.set_cons_zero, List.set_cons_succ]
          refine held_take (i := 18) (v := ?_) rfl rfl (by kernel_rfl) (by kernel_rfl) (by kernel_rfl) (fun _ _ _ h => h) (by rfl) hHeld ?_ ?_
          rotate_left
          · rintro wh ⟨z0, z1, z2, z3, z4, z5, z6, z7, z8, z9, z10, z11, z12, z13, z14, z15, z16, z17, z18, z19, z20, z21, z22, z23, z24, z25⟩
            go_simp
            (try with_reducible rfl)
          simp only [Act.put, List.setIfInBounds_toArray, List.set_cons_zero, List.set_cons_succ]
          refine held_take (i := 19) (v := ?_) rfl rfl (by kernel_rfl) (by kernel_rfl) (by kernel_rfl) (fun _ _ _ h => h) (by rfl) hHeld ?_ ?_
          rotate_left
          · rintro wh ⟨z0, z1, z2, z3, z4, z5, z6, z7, z8, z9, z10, z11, z12, z13, z14, z15, z16, z17, z18, z19, z20, z21, z22, z23, z24, z25⟩
            go_simp
            (try with_reducible rfl)
          simp only [Act.put, List.setIfInBounds_toArray, List.set_cons_zero, List.set_cons_succ]
          refine held_take (i := 20) (v := ?_) rfl rfl (by kernel_rfl) (by kernel_rfl) (by kernel_rfl) (fun _ _ _ h => h) (by rfl) hHeld ?_ ?_
          rotate_left
          · rintro wh ⟨z0, z1, z2, z3, z4, z5, z6, z7, z8, z9, z10, z11, z12, z13, z14, z15, z16, z17, z18, z19, z20, z21, z22, z23, z24, z25⟩
            go_simp
            (try with_reducible rfl)
          simp only [Act.put, List.setIfInBounds_toArray, List.set_cons_zero, List.set_cons_succ]
          refine held_skip (i := 21) rfl rfl (by kernel_rfl) (by kernel_rfl) (by kernel_rfl) (fun _ _ _ h => h) (by rfl) hHeld ?_
          simp only [Act.put, List.setIfInBounds_toArray, List.set_cons_zero, List.set_cons_succ]
          refine held_skip (i := 22) rfl rfl (by kernel_rfl) (by kernel_rfl) (by kernel_rfl) (fun _ _ _ h => h) (by rfl) hHeld ?_
          simp only [Act.put, List.setIfInBounds_toArray, List.set_cons_zero, List.set_cons_succ]
          refine held_skip (i := 23) rfl rfl (by kernel_rfl) (by kernel_rfl) (by kernel_rfl) (fun _ _ _ h => h) (by rfl) hHeld ?_
          simp only [Act.put, List.setIfInBounds_toArray, List.set_cons_zero, List.set_cons_succ]
          refine held_take (i := 24) (v := ?_) rfl rfl (by kernel_rfl) (by kernel_rfl) (by kernel_rfl) (fun _ _ _ h => h) (by rfl) hHeld ?_ ?_
          rotate_left
          · rintro wh ⟨z0, z1, z2, z3, z4, z5, z6, z7, z8, z9, z10, z11, z12, z13, z14, z15, z16, z17, z18, z19, z20, z21, z22, z23, z24, z25⟩
            go_simp
            (try with_reducible rfl)
          simp only [Act.put, List.setIfInBounds_toArray, List.set_cons_zero, List.set_cons_succ]
          refine held_take (i := 25) (v := ?_) rfl rfl (by kernel_rfl) (by kernel_rfl) (by kernel_rfl) (fun _ _ _ h => h) (by rfl) hHeld ?_ ?_
          rotate_left
          · rintro wh ⟨z0, z1, z2, z3, z4, z5, z6, z7, z8, z9, z10, z11, z12, z13, z14, z15, z16, z17, z18, z19, z20, z21, z22, z23, z24, z25⟩
            go_simp
            (try with_reducible rfl)
          simp only [Act.put, List.setIfInBounds_toArray, List.set_cons_zero, List.set_cons_succ]
          refine held_take (i := 26) (v := ?_) rfl rfl (by kernel_rfl) (by kernel_rfl) (by kernel_rfl) (fun _ _ _ h => h) (by rfl) hHeld ?_ ?_
          rotate_left
          · rintro wh ⟨z0, z1, z2, z3, z4, z5, z6, z7, z8, z9, z10, z11, z12, z13, z14, z15, z16, z17, z18, z19, z20, z21, z22, z23, z24, z25⟩
            go_simp
            (try with_reducible rfl)
          simp only [Act.put, List.setIfInBounds_toArray, List.set_cons_zero, List.set_cons_succ]
          refine held_take (i := 27) (v := ?_) rfl rfl (by kernel_rfl) (by kernel_rfl) (by kernel_rfl) (fun _ _ _ h => h) (by rfl) hHeld ?_ ?_
          rotate_left
          · rintro wh ⟨z0, z1, z2, z3, z4, z5, z6, z7, z8, z9, z10, z11, z12, z13, z14, z15, z16, z17, z18, z19, z20, z21, z22, z23, z24, z25⟩
            go_simp
            (try with_reducible rfl)
          simp only [Act.put, List.setIfInBounds_toArray, List.set_cons_zero, List.set_cons_succ]
          refine held_take (i := 29) (v := ?_) rfl rfl (by kernel_rfl) (by kernel_rfl) (by kernel_rfl) (fun _ _ _ h => h) (by rfl) hHeld ?_ ?_
          rotate_left
          · rintro wh ⟨z0, z1, z2, z3, z4, z5, z6, z7, z8, z9, z10, z11, z12, z13, z14, z15, z16, z17, z18, z19, z20, z21, z22, z23, z24, z25⟩
            go_simp
            (try with_reducible rfl)
          simp only [Act.put, List.setIfInBounds_toArray, List.set_cons_zero, List.set_cons_succ]
          refine held_call (i := 28) rfl (by kernel_rfl) (by rfl) (fun K hK => ?_)
          (go_simp; go_at_call 31; refine (KI.out _ hB2).mono ?_; rintro e v3 ⟨rfl, hb3⟩; have hB3 := hB2.trans (hb3.mono hB2.size))
          refine hK.out _ _ ⟨keep_cell m0 hB3 ltm, keep_cell m1 hB3 ltm, keep_cell m2 hB3 ltm, keep_cell m3 hB3 ltm, keep_cell m4 hB3 ltm, keep_cell m5 hB3 ltm, keep_cell p0 hB3 ltn, keep_cell p1 hB3 ltn, keep_cell p2 hB3 ltn, keep_cell p3 hB3 ltn, keep_cell p4 hB3 ltn, keep_cell p5 hB3 ltn, keep_cell o0 hB3 lto, keep_cell o1 hB3 lto, keep_cell o2 hB3 lto, keep_cell o3 hB3 lto, keep_cell o4 hB3 lto, keep_cell o5 hB3 lto, keep_cell x0 hB3 ltx, keep_cell x1 hB3 ltx, keep_cell x2 hB3 ltx, keep_cell x3 hB3 ltx, keep_cell x4 hB3 ltx, keep_cell x5 hB3 ltx, keep_cell y2 hB3 lty, keep_cell y3 hB3 lty⟩ (fun hHeld => ?_)
          clear hK K
          (try simp only [Act.put, List.setIfInBounds_toArray, List.set_cons_zero, List.set_cons_succ])
          refine held_call (i := 30) rfl (by kernel_rfl) (by rfl) (fun K hK => ?_)
          (go_simp; go_at_call 31; refine (KJ.out _ hB3).mono ?_; rintro e v4 ⟨rfl, hb4⟩; have hB4 := hB3.trans (hb4.mono hB3.size))
          refine hK.out _ _ ⟨keep_cell m0 hB4 ltm, keep_cell m1 hB4 ltm, keep_cell m2 hB4 ltm, keep_cell m3 hB4 ltm, keep_cell m4 hB4 ltm, keep_cell m5 hB4 ltm, keep_cell p0 hB4 ltn, keep_cell p1 hB4 ltn, keep_cell p2 hB4 ltn, keep_cell p3 hB4 ltn, keep_cell p4 hB4 ltn, keep_cell p5 hB4 ltn, keep_cell o0 hB4 lto, keep_cell o1 hB4 lto, keep_cell o2 hB4 lto, keep_cell o3 hB4 lto, keep_cell o4 hB4 lto, keep_cell o5 hB4 lto, keep_cell x0 hB4 ltx, keep_cell x1 hB4 ltx, keep_cell x2 hB4 ltx, keep_cell x3 hB4 ltx, keep_cell x4 hB4 ltx, keep_cell x5 hB4 ltx, keep_cell y2 hB4 lty, keep_cell y3 hB4 lty⟩ (fun hHeld => ?_)
          clear hK K
          (try simp only [Act.put, List.setIfInBounds_toArray, List.set_cons_zero, List.set_cons_succ])
          refine held_take (i := 31) (v := ?_) rfl rfl (by kernel_rfl) (by kernel_rfl) (by kernel_rfl) (fun _ _ _ h => h) (by rfl) hHeld ?_ ?_
          rotate_left
          · rintro wh ⟨z0, z1, z2, z3, z4, z5, z6, z7, z8, z9, z10, z11, z12, z13, z14, z15, z16, z17, z18, z19, z20, z21, z22, z23, z24, z25⟩
            go_simp
            (try with_reducible rfl)
          simp only [Act.put, List.setIfInBounds_toArray, List.set_cons_zero, List.set_cons_succ]
          refine held_take (i := 32) (v := ?_) rfl rfl (by kernel_rfl) (by kernel_rfl) (by kernel_rfl) (fun _ _ _ h => h) (by rfl) hHeld ?_ ?_
          rotate_left
          · rintro wh ⟨z0, z1, z2, z3, z4, z5, z6, z7, z8, z9, z10, z11, z12, z13, z14, z15, z16, z17, z18, z19, z20, z21, z22, z23, z24, z25⟩
            go_simp
            (try with_reducible rfl)
          simp only [Act.put, List.setIfInBounds_toArray, List.set_cons_zero, List.set_cons_succ]
          refine held_take (i := 33) (v := ?_) rfl rfl (by kernel_rfl) (by kernel_rfl) (by kernel_rfl) (fun _ _ _ h => h) (by rfl) hHeld ?_ ?_
          rotate_left
          · rintro wh ⟨z0, z1, z2, z3, z4, z5, z6, z7, z8, z9, z10, z11, z12, z13, z14, z15, z16, z17, z18, z19, z20, z21, z22, z23, z24, z25⟩
            go_simp
            (try with_reducible rfl)
          simp only [Act.put, List.setIfInBounds_toArray, List.set_cons_zero, List.set_cons_succ]
          refine held_take (i := 34) (v := ?_) rfl rfl (by kernel_rfl) (by kernel_rfl) (by kernel_rfl) (fun _ _ _ h => h) (by rfl) hHeld ?_ ?_
          rotate_left
          · rintro wh ⟨z0, z1, z2, z3, z4, z5, z6, z7, z8, z9, z10, z11, z12, z13, z14, z15, z16, z17, z18, z19, z20, z21, z22, z23, z24, z25⟩
            go_simp
            (try with_reducible rfl)
          simp only [Act.put, List.setIfInBounds_toArray, List.set_cons_zero, List.set_cons_succ]
          refine held_take (i := 35) (v := ?_) rfl rfl (by kernel_rfl) (by kernel_rfl) (by kernel_rfl) (fun _ _ _ h => h) (by rfl) hHeld ?_ ?_
          rotate_left
          · rintro wh ⟨z0, z1, z2, z3, z4, z5, z6, z7, z8, z9, z10, z11, z12, z13, z14, z15, z16, z17, z18, z19, z20, z21, z22, z23, z24, z25⟩
            go_simp
            (try with_reducible rfl)
          simp only [Act.put, List.setIfInBounds_toArray, List.set_cons_zero, List.set_cons_succ]
          refine held_take (i := 36) (v := ?_) rfl rfl (by kernel_rfl) (by kernel_rfl) (by kernel_rfl) (fun _ _ _ h => h) (by rfl) hHeld ?_ ?_
          rotate_left
          · rintro wh ⟨z0, z1, z2, z3, z4, z5, z6, z7, z8, z9, z10, z11, z12, z13, z14, z15, z16, z17, z18, z19, z20, z21, z22, z23, z24, z25⟩
            go_simp
            (try with_reducible rfl)
          simp only [Act.put, List.setIfInBounds_toArray, List.set_cons_zero, List.set_cons_succ]
          refine held_take (i := 37) (v := ?_) rfl rfl (by kernel_rfl) (by kernel_rfl) (by kernel_rfl) (fun _ _ _ h => h) (by rfl) hHeld ?_ ?_
          rotate_left
          · rintro wh ⟨z0, z1, z2, z3, z4, z5, z6, z7, z8, z9, z10, z11, z12, z13, z14, z15, z16, z17, z18, z19, z20, z21, z22, z23, z24, z25⟩
            go_simp
            (try with_reducible rfl)
          simp only [Act.put, List.setIfInBounds_toArray, List.set_cons_zero, List.set_cons_succ]
          refine held_call (i := 38) rfl (by kernel_rfl) (by rfl) (fun K hK => ?_)
          (go_simp; go_at_call 28; refine (KL.out _ hB4).mono ?_; rintro e v5 ⟨rfl, hb5⟩; have hB5 := hB4.trans (hb5.mono hB4.size))
          refine hK.out _ _ ⟨keep_cell m0 hB5 ltm, keep_cell m1 hB5 ltm, keep_cell m2 hB5 ltm, keep_cell m3 hB5 ltm, keep_cell m4 hB5 ltm, keep_cell m5 hB5 ltm, keep_cell p0 hB5 ltn, keep_cell p1 hB5 ltn, keep_cell p2 hB5 ltn, keep_cell p3 hB5 ltn, keep_cell p4 hB5 ltn, keep_cell p5 hB5 ltn, keep_cell o0 hB5 lto, keep_cell o1 hB5 lto, keep_cell o2 hB5 lto, keep_cell o3 hB5 lto, keep_cell o4 hB5 lto, keep_cell o5 hB5 lto, keep_cell x0 hB5 ltx, keep_cell x1 hB5 ltx, keep_cell x2 hB5 ltx, keep_cell x3 hB5 ltx, keep_cell x4 hB5 ltx, keep_cell x5 hB5 ltx, keep_cell y2 hB5 lty, keep_cell y3 hB5 lty⟩ (fun hHeld => ?_)
          clear hK K
          (try simp only [Act.put, List.setIfInBounds_toArray, List.set_cons_zero, List.set_cons_succ])
          refine held_take (i := 39) (v := ?_) rfl rfl (by kernel_rfl) (by kernel_rfl) (by kernel_rfl) (fun _ _ _ h => h) (by rfl) hHeld ?_ ?_
          rotate_left
          · rintro wh ⟨z0, z1, z2, z3, z4, z5, z6, z7, z8, z9, z10, z11, z12, z13, z14, z15, z16, z17, z18, z19, z20, z21, z22, z23, z24, z25⟩
            go_simp
            (try with_reducible rfl)
          simp only [Act.put, List.setIfInBounds_toArray, List.set_cons_zero, List.set_cons_succ]
          refine held_take (i := 40) (v := ?_) rfl rfl (by kernel_rfl) (by kernel_rfl) (by kernel_rfl) (fun _ _ _ h => h) (by rfl) hHeld ?_ ?_
          rotate_left
          · rintro wh ⟨z0, z1, z2, z3, z4, z5, z6, z7, z8, z9, z10, z11, z12, z13, z14, z15, z16, z17, z18, z19, z20, z21, z22, z23, z24, z25⟩
            go_simp
            (try with_reducible rfl)
          simp only [Act.put, List.setIfInBounds_toArray, List.set_cons_zero, List.set_cons_succ]
          refine held_take (i := 41) (v := ?_) rfl rfl (by kernel_rfl) (by kernel_rfl) (by kernel_rfl) (fun _ _ _ h => h) (by rfl) hHeld ?_ ?_
          rotate_left
          · rintro wh ⟨z0, z1, z2, z3, z4, z5, z6, z7, z8, z9, z10, z11, z12, z13, z14, z15, z16, z17, z18, z19, z20, z21, z22, z23, z24, z25⟩
            go_simp
            (try with_reducible rfl)
          simp only [Act.put, List.setIfInBounds_toArray, List.set_cons_zero, List.set_cons_succ]
          refine held_take (i := 42) (v := ?_) rfl rfl (by kernel_rfl) (by kernel_rfl) (by kernel_rfl) (fun _ _ _ h => h) (by rfl) hHeld ?_ ?_
          rotate_left
          · rintro wh ⟨z0, z1, z2, z3, z4, z5, z6, z7, z8, z9, z10, z11, z12, z13, z14, z15, z16, z17, z18, z19, z20, z21, z22, z23, z24, z25⟩
            go_simp
            (try with_reducible rfl)
          simp only [Act.put, List.setIfInBounds_toArray, List.set_cons_zero, List.set_cons_succ]
          refine held_take (i := 43) (v := ?_) rfl rfl (by kernel_rfl) (by kernel_rfl) (by kernel_rfl) (fun _ _ _ h => h) (by rfl) hHeld ?_ ?_
          rotate_left
          · rintro wh ⟨z0, z1, z2, z3, z4, z5, z6, z7, z8, z9, z10, z11, z12, z13, z14, z15, z16, z17, z18, z19, z20, z21, z22, z23, z24, z25⟩
            go_simp
            (try with_reducible rfl)
          simp only [Act.put, List.setIfInBounds_toArray, List.set_cons_zero, List.set_cons_succ]
          refine held_take (i := 44) (v := ?_) rfl rfl (by kernel_rfl) (by kernel_rfl) (by kernel_rfl) (fun _ _ _ h => h) (by rfl) hHeld ?_ ?_
          rotate_left
          · rintro wh ⟨z0, z1, z2, z3, z4, z5, z6, z7, z8, z9, z10, z11, z12, z13, z14, z15, z16, z17, z18, z19, z20, z21, z22, z23, z24, z25⟩
            go_simp
            (try with_reducible rfl)
          simp only [Act.put, List.setIfInBounds_toArray, List.set_cons_zero, List.set_cons_succ]
          refine held_call (i := 45) rfl (by kernel_rfl) (by rfl) (fun K hK => ?_)
          (go_simp; go_at_call 28; refine (KM.out _ hB5).mono ?_; rintro e v6 ⟨rfl, hb6⟩; have hB6 := hB5.trans (hb6.mono hB5.size))
          refine hK.out _ _ ⟨keep_cell m0 hB6 ltm, keep_cell m1 hB6 ltm, keep_cell m2 hB6 ltm, keep_cell m3 hB6 ltm, keep_cell m4 hB6 ltm, keep_cell m5 hB6 ltm, keep_cell p0 hB6 ltn, keep_cell p1 hB6 ltn, keep_cell p2 hB6 ltn, keep_cell p3 hB6 ltn, keep_cell p4 hB6 ltn, keep_cell p5 hB6 ltn, keep_cell o0 hB6 lto, keep_cell o1 hB6 lto, keep_cell o2 hB6 lto, keep_cell o3 hB6 lto, keep_cell o4 hB6 lto, keep_cell o5 hB6 lto, keep_cell x0 hB6 ltx, keep_cell x1 hB6 ltx, keep_cell x2 hB6 ltx, keep_cell x3 hB6 ltx, keep_cell x4 hB6 ltx, keep_cell x5 hB6 ltx, keep_cell y2 hB6 lty, keep_cell y3 hB6 lty⟩ (fun hHeld => ?_)
          clear hK K
          (try simp only [Act.put, List.setIfInBounds_toArray, List.set_cons_zero, List.set_cons_succ])
          refine held_take (i := 46) (v := ?_) rfl rfl (by kernel_rfl) (by kernel_rfl) (by kernel_rfl) (fun _ _ _ h => h) (by rfl) hHeld ?_ ?_
          rotate_left
          · rintro wh ⟨z0, z1, z2, z3, z4, z5, z6, z7, z8, z9, z10, z11, z12, z13, z14, z15, z16, z17, z18, z19, z20, z21, z22, z23, z24, z25⟩
            go_simp
            (try with_reducible rfl)
          simp only [Act.put, List.setIfInBounds_toArray, List.set_cons_zero, List.set_cons_succ]
          refine held_take (i := 47) (v := ?_) rfl rfl (by kernel_rfl) (by kernel_rfl) (by kernel_rfl) (fun _ _ _ h => h) (by rfl) hHeld ?_ ?_
          rotate_left
          · rintro wh ⟨z0, z1, z2, z3, z4, z5, z6, z7, z8, z9, z10, z11, z12, z13, z14, z15, z16, z17, z18, z19, z20, z21, z22, z23, z24, z25⟩
            go_simp
            (try with_reducible rfl)
          simp only [Act.put, List.setIfInBounds_toArray, List.set_cons_zero, List.set_cons_succ]
          refine held_take (i := 48) (v := ?_) rfl rfl (by kernel_rfl) (by kernel_rfl) (by kernel_rfl) (fun _ _ _ h => h) (by rfl) hHeld ?_ ?_
          rotate_left
          · rintro wh ⟨z0, z1, z2, z3, z4, z5, z6, z7, z8, z9, z10, z11, z12, z13, z14, z15, z16, z17, z18, z19, z20, z21, z22, z23, z24, z25⟩
            go_simp
            (try with_reducible rfl)
          simp only [Act.put, List.setIfInBounds_toArray, List.set_cons_zero, List.set_cons_succ]
          refine held_call (i := 49) rfl (by kernel_rfl) (by rfl) (fun K hK => ?_)
          (go_simp; go_at_call 23; refine (KR.out _ hB6).mono ?_; rintro e v7 ⟨rfl, hb7⟩; have hB7 := hB6.trans (hb7.mono hB6.size))
          refine hK.out _ _ ⟨keep_cell m0 hB7 ltm, keep_cell m1 hB7 ltm, keep_cell m2 hB7 ltm, keep_cell m3 hB7 ltm, keep_cell m4 hB7 ltm, keep_cell m5 hB7 ltm, keep_cell p0 hB7 ltn, keep_cell p1 hB7 ltn, keep_cell p2 hB7 ltn, keep_cell p3 hB7 ltn, keep_cell p4 hB7 ltn, keep_cell p5 hB7 ltn, keep_cell o0 hB7 lto, keep_cell o1 hB7 lto, keep_cell o2 hB7 lto, keep_cell o3 hB7 lto, keep_cell o4 hB7 lto, keep_cell o5 hB7 lto, keep_cell x0 hB7 ltx, keep_cell x1 hB7 ltx, keep_cell x2 hB7 ltx, keep_cell x3 hB7 ltx, keep_cell x4 hB7 ltx, keep_cell x5 hB7 ltx, keep_cell y2 hB7 lty, keep_cell y3 hB7 lty⟩ (fun hHeld => ?_)
          clear hK K
          (try simp only [Act.put, List.setIfInBounds_toArray, List.set_cons_zero, List.set_cons_succ])
          refine held_take (i := 50) (v := ?_) rfl rfl (by kernel_rfl) (by kernel_rfl) (by kernel_rfl) (fun _ _ _ h => h) (by rfl) hHeld ?_ ?_
          rotate_left
          · rintro wh ⟨z0, z1, z2, z3, z4, z5, z6, z7, z8, z9, z10, z11, z12, z13, z14, z15, z16, z17, z18, z19, z20, z21, z22, z23, z24, z25⟩
            go_simp
            (try with_reducible rfl)
          simp only [Act.put, List.setIfInBounds_toArray, List.set_cons_zero, List.set_cons_succ]
          refine held_take (i := 51) (v := ?_) rfl rfl (by kernel_rfl) (by kernel_rfl) (by kernel_rfl) (fun _ _ _ h => h) (by rfl) hHeld ?_ ?_
          rotate_left
          · rintro wh ⟨z0, z1, z2, z3, z4, z5, z6, z7, z8, z9, z10, z11, z12, z13, z14, z15, z16, z17, z18, z19, z20, z21, z22, z23, z24, z25⟩
            go_simp
            (try with_reducible rfl)
          simp only [Act.put, List.setIfInBounds_toArray, List.set_cons_zero, List.set_cons_succ]
          refine held_take (i := 52) (v := ?_) rfl rfl (by kernel_rfl) (by kernel_rfl) (by kernel_rfl) (fun _ _ _ h => h) (by rfl) hHeld ?_ ?_
          rotate_left
          · rintro wh ⟨z0, z1, z2, z3, z4, z5, z6, z7, z8, z9, z10, z11, z12, z13, z14, z15, z16, z17, z18, z19, z20, z21, z22, z23, z24, z25⟩
            go_simp
            (try with_reducible rfl)
          simp only [Act.put, List.setIfInBounds_toArray, List.set_cons_zero, List.set_cons_succ]
          refine held_take (i := 53) (v := ?_) rfl rfl (by kernel_rfl) (by kernel_rfl) (by kernel_rfl) (fun _ _ _ h => h) (by rfl) hHeld ?_ ?_
          rotate_left
          · rintro wh ⟨z0, z1, z2, z3, z4, z5, z6, z7, z8, z9, z10, z11, z12, z13, z14, z15, z16, z17, z18, z19, z20, z21, z22, z23, z24, z25⟩
            go_simp
            (try with_reducible rfl)
          simp only [Act.put, List.setIfInBounds_toArray, List.set_cons_zero, List.set_cons_succ]
          refine held_take (i := 54) (v := ?_) rfl rfl (by kernel_rfl) (by kernel_rfl) (by kernel_rfl) (fun _ _ _ h => h) (by rfl) hHeld ?_ ?_
          rotate_left
          · rintro wh ⟨z0, z1, z2, z3, z4, z5, z6, z7, z8, z9, z10, z11, z12, z13, z14, z15, z16, z17, z18, z19, z20, z21, z22, z23, z24, z25⟩
            go_simp
            (try with_reducible rfl)
          simp only [Act.put, List.setIfInBounds_toArray, List.set_cons_zero, List.set_cons_succ]
          refine held_take (i := 55) (v := ?_) rfl rfl (by kernel_rfl) (by kernel_rfl) (by kernel_rfl) (fun _ _ _ h => h) (by rfl) hHeld ?_ ?_
          rotate_left
          · rintro wh ⟨z0, z1, z2, z3, z4, z5, z6, z7, z8, z9, z10, z11, z12, z13, z14, z15, z16, z17, z18, z19, z20, z21, z22, z23, z24, z25⟩
            go_simp
            (try with_reducible rfl)
          simp only [Act.put, List.setIfInBounds_toArray, List.set_cons_zero, List.set_cons_succ]
          refine held_call (i := 56) rfl (by kernel_rfl) (by rfl) (fun K hK => ?_)
          (go_simp; go_at_call 36; refine (KE.out _ hB7).mono ?_; rintro e v8 ⟨rfl, hb8⟩; have hB8 := hB7.trans (hb8.mono hB7.size))
          refine hK.out _ _ ⟨keep_cell m0 hB8 ltm, keep_cell m1 hB8 ltm, keep_cell m2 hB8 ltm, keep_cell m3 hB8 ltm, keep_cell m4 hB8 ltm, keep_cell m5 hB8 ltm, keep_cell p0 hB8 ltn, keep_cell p1 hB8 ltn, keep_cell p2 hB8 ltn, keep_cell p3 hB8 ltn, keep_cell p4 hB8 ltn, keep_cell p5 hB8 ltn, keep_cell o0 hB8 lto, keep_cell o1 hB8 lto, keep_cell o2 hB8 lto, keep_cell o3 hB8 lto, keep_cell o4 hB8 lto, keep_cell o5 hB8 lto, keep_cell x0 hB8 ltx, keep_cell x1 hB8 ltx, keep_cell x2 hB8 ltx, keep_cell x3 hB8 ltx, keep_cell x4 hB8 ltx, keep_cell x5 hB8 ltx, keep_cell y2 hB8 lty, keep_cell y3 hB8 lty⟩ (fun hHeld => ?_)
          clear hK K
          (try simp only [Act.put, List.setIfInBounds_toArray, List.set_cons_zero, List.set_cons_succ])
          refine held_take (i := 57) (v := ?_) rfl rfl (by kernel_rfl) (by kernel_rfl) (by kernel_rfl) (fun _ _ _ h => h) (by rfl) hHeld ?_ ?_
          rotate_left
          · rintro wh ⟨z0, z1, z2, z3, z4, z5, z6, z7, z8, z9, z10, z11, z12, z13, z14, z15, z16, z17, z18, z19, z20, z21, z22, z23, z24, z25⟩
            go_simp
            (try with_reducible rfl)
          simp only [Act.put, List.setIfInBounds_toArray, List.set_cons_zero, List.set_cons_succ]
          refine held_take (i := 58) (v := ?_) rfl rfl (by kernel_rfl) (by kernel_rfl) (by kernel_rfl) (fun _ _ _ h => h) (by rfl) hHeld ?_ ?_
          rotate_left
          · rintro wh ⟨z0, z1, z2, z3, z4, z5, z6, z7, z8, z9, z10, z11, z12, z13, z14, z15, z16, z17, z18, z19, z20, z21, z22, z23, z24, z25⟩
            go_simp
            (try with_reducible rfl)
          simp only [Act.put, List.setIfInBounds_toArray, List.set_cons_zero, List.set_cons_succ]
          refine wpAnyH_done (by kernel_rfl) ?_ _
          go_wp2
          go_ret
          exact ⟨rfl, HBM.out.trans (hB8.mono HBM.out.size)⟩
        · have KF := Lib.hid (HQ2.out rfl)
          go_upto_region 13 with fail
          refine wp_region_held_drew (S := (fun W => W.cell? ⟨gm, 0, none⟩ = some (.string src') ∧ W.cell? ⟨gm, 1, none⟩ = some (.slice ma L.length mc) ∧ W.cell? ⟨gm, 2, none⟩ = some (.int .i64 lm) ∧ W.cell? ⟨gm, 3, none⟩ = some (.int .u32 cm) ∧ W.cell? ⟨gm, 4, none⟩ = some (.int .i64 fm) ∧ W.cell? ⟨gm, 5, none⟩ = some (.int .i64 tm) ∧ W.cell? ⟨gn, 0, none⟩ = some (.string src') ∧ W.cell? ⟨gn, 1, none⟩ = some (.slice na L.length nc) ∧ W.cell? ⟨gn, 2, none⟩ = some (.int .i64 lm) ∧ W.cell? ⟨gn, 3, none⟩ = some (.int .u32 cm) ∧ W.cell? ⟨gn, 4, none⟩ = some (.int .i64 fm) ∧ W.cell? ⟨gn, 5, none⟩ = some (.int .i64 tm) ∧ W.cell? ⟨go, 0, none⟩ = some (.string src') ∧ W.cell? ⟨go, 1, none⟩ = some (.slice oa L.length oc) ∧ W.cell? ⟨go, 2, none⟩ = some (.int .i64 lv1) ∧ W.cell? ⟨go, 3, none⟩ = some (.int .u32 c) ∧ W.cell? ⟨go, 4, none⟩ = some (.int .i64 fr1) ∧ W.cell? ⟨go, 5, none⟩ = some (.int .i64 til1) ∧ W.cell? ⟨gx, 0, none⟩ = some (.string src') ∧ W.cell? ⟨gx, 1, none⟩ = some (.slice ga L.length gc) ∧ W.cell? ⟨gx, 2, none⟩ = some (.int .i64 lv1) ∧ W.cell? ⟨gx, 3, none⟩ = some (.int .u32 c) ∧ W.cell? ⟨gx, 4, none⟩ = some (.int .i64 fr1) ∧ W.cell? ⟨gx, 5, none⟩ = some (.int .i64 til1) ∧ W.cell? ⟨gy, 2, none⟩ = some (.int .i64 lv2) ∧ W.cell? ⟨gy, 3, none⟩ = some (.int .u32 lc))) (by kernel_rfl) ⟨m0, m1, m2, m3, m4, m5, p0, p1, p2, p3, p4, p5, o0, o1, o2, o3, o4, o5, x0, x1, x2, x3, x4, x5, y2, y3⟩ (fun hHeld => ?_)
          have hd : Below wc.heap.size wc wc.drew := (Below.refl _ _).drew
          refine held_take (i := 0) (v := ?_) rfl rfl (by kernel_rfl) (by kernel_rfl) (by kernel_rfl) (fun _ _ _ h => h) (by rfl) hHeld ?_ ?_
          rotate_left
          · rintro wh ⟨z0, z1, z2, z3, z4, z5, z6, z7, z8, z9, z10, z11, z12, z13, z14, z15, z16, z17, z18, z19, z20, z21, z22, z23, z24, z25⟩
            go_simp
            (try with_reducible rfl)
          simp only [Act.put, List.setIfInBounds_toArray, List.set_cons_zero, List.set_cons_succ]
          refine held_take (i := 1) (v := ?_) rfl rfl (by kernel_rfl) (by kernel_rfl) (by kernel_rfl) (fun _ _ _ h => h) (by rfl) hHeld ?_ ?_
          rotate_left
          · rintro wh ⟨z0, z1, z2, z3, z4, z5, z6, z7, z8, z9, z10, z11, z12, z13, z14, z15, z16, z17, z18, z19, z20, z21, z22, z23, z24, z25⟩
            go_simp
            (try with_reducible rfl)
          simp only [Act.put, List.setIfInBounds_toArray, List.set_cons_zero, List.set_cons_succ]
          refine held_take (i := 2) (v := ?_) rfl rfl (by kernel_rfl) (by kernel_rfl) (by kernel_rfl) (fun _ _ _ h => h) (by rfl) hHeld ?_ ?_
          rotate_left
          · rintro wh ⟨z0, z1, z2, z3, z4, z5, z6, z7, z8, z9, z10, z11, z12, z13, z14, z15, z16, z17, z18, z19, z20, z21, z22, z23, z24, z25⟩
            go_simp
            (try with_reducible rfl)
          simp only [Act.put, List.setIfInBounds_toArray, List.set_cons_zero, List.set_cons_succ]
          refine held_take (i := 3) (v := ?_) rfl rfl (by kernel_rfl) (by kernel_rfl) (by kernel_rfl) (fun _ _ _ h => h) (by rfl) hHeld ?_ ?_
          rotate_left
          · rintro wh ⟨z0, z1, z2, z3, z4, z5, z6, z7, z8, z9, z10, z11, z12, z13, z14, z15, z16, z17, z18, z19, z20, z21, z22, z23, z24, z25⟩
            go_simp
            (try with_reducible rfl)
          simp only [Act.put, List.setIfInBounds_toArray, List.set_cons_zero, List.set_cons_succ]
          refine held_take (i := 4) (v := ?_) rfl rfl (by kernel_rfl) (by kernel_rfl) (by kernel_rfl) (fun _ _ _ h => h) (by rfl) hHeld ?_ ?_
          rotate_left
          · rintro wh ⟨z0, z1, z2, z3, z4, z5, z6, z7, z8, z9, z10, z11, z12, z13, z14, z15, z16, z17, z18, z19, z20, z21, z22, z23, z24, z25⟩
            go_simp
            (try with_reducible rfl)
          simp only [Act.put, List.setIfInBounds_toArray, List.set_cons_zero, List.set_cons_succ]
          refine held_take (i := 5) (v := ?_) rfl rfl (by kernel_rfl) (by kernel_rfl) (by kernel_rfl) (fun _ _ _ h => h) (by rfl) hHeld ?_ ?_
          rotate_left
          · rintro wh ⟨z0, z1, z2, z3, z4, z5, z6, z7, z8, z9, z10, z11, z12, z13, z14, z15, z16, z17, z18, z19, z20, z21, z22, z23, z24, z25⟩
            go_simp
            (try with_reducible rfl)
          simp only [Act.put, List.setIfInBounds_toArray, List.set_cons_zero, List.set_cons_succ]
          refine held_take (i := 6) (v := ?_) rfl rfl (by kernel_rfl) (by kernel_rfl) (by kernel_rfl) (fun _ _ _ h => h) (by rfl) hHeld ?_ ?_
          rotate_left
          · rintro wh ⟨z0, z1, z2, z3, z4, z5, z6, z7, z8, z9, z10, z11, z12, z13, z14, z15, z16, z17, z18, z19, z20, z21, z22, z23, z24, z25⟩
            go_simp
            (try with_reducible rfl)
          simp only [Act.put, List.setIfInBounds_toArray, List.set_cons_zero, List.set_cons_succ]
          refine held_take (i := 7) (v := ?_) rfl rfl (by kernel_rfl) (by kernel_rfl) (by kernel_rfl) (fun _ _ _ h => h) (by rfl) hHeld ?_ ?_
          rotate_left
          · rintro wh ⟨z0, z1, z2, z3, z4, z5, z6, z7, z8, z9, z10, z11, z12, z13, z14, z15, z16, z17, z18, z19, z20, z21, z22, z23, z24, z25⟩
            go_simp
            (try with_reducible rfl)
          simp only [Act.put, List.setIfInBounds_toArray, List.set_cons_zero, List.set_cons_succ]
          refine held_take (i := 8) (v := ?_) rfl rfl (by kernel_rfl) (by kernel_rfl) (by kernel_rfl) (fun _ _ _ h => h) (by rfl) hHeld ?_ ?_
          rotate_left
          · rintro wh ⟨z0, z1, z2, z3, z4, z5, z6, z7, z8, z9, z10, z11, z12, z13, z14, z15, z16, z17, z18, z19, z20, z21, z22, z23, z24, z25⟩
            go_simp
            (try with_reducible rfl)
          simp only [Act.put, List.setIfInBounds_toArray, List.set_cons_zero, List.set_cons_succ]
          refine held_take (i := 9) (v := ?_) rfl rfl (by kernel_rfl) (by kernel_rfl) (by kernel_rfl) (fun _ _ _ h => h) (by rfl) hHeld ?_ ?_
          rotate_left
          · rintro wh ⟨z0, z1, z2, z3, z4, z5, z6, z7, z8, z9, z10, z11, z12, z13, z14, z15, z16, z17, z18, z19, z20, z21, z22, z23, z24, z25⟩
            go_simp
            (try with_reducible rfl)
          simp only [Act.put, List.setIfInBounds_toArray, List.set_cons_zero, List.set_cons_succ]
          refine held_call (i := 10) rfl (by kernel_rfl) (by rfl) (fun K hK => ?_)
          (go_simp; go_at_call 30; refine (KA.out _ hd).mono ?_; rintro e v1 ⟨rfl, hb1⟩; have hB1 := hd.trans (hb1.mono hd.size))
          refine hK.out _ _ ⟨keep_cell m0 hB1 ltm, keep_cell m1 hB1 ltm, keep_cell m2 hB1 ltm, keep_cell m3 hB1 ltm, keep_cell m4 hB1 ltm, keep_cell m5 hB1 ltm, keep_cell p0 hB1 ltn, keep_cell p1 hB1 ltn, keep_cell p2 hB1 ltn, keep_cell p3 hB1 ltn, keep_cell p4 hB1 ltn, keep_cell p5 hB1 ltn, keep_cell o0 hB1 lto, keep_cell o1 hB1 lto, keep_cell o2 hB1 lto, keep_cell o3 hB1 lto, keep_cell o4 hB1 lto, keep_cell o5 hB1 lto, keep_cell x0 hB1 ltx, keep_cell x1 hB1 ltx, keep_cell x2 hB1 ltx, keep_cell x3 hB1 ltx, keep_cell x4 hB1 ltx, keep_cell x5 hB1 ltx, keep_cell y2 hB1 lty, keep_cell y3 hB1 lty⟩ (fun hHeld => ?_)
          clear hK K
          (try simp only [Act.put, List.setIfInBounds_toArray, List.set_cons_zero, List.set_cons_succ])
          refine held_take (i := 11) (v := ?_) rfl rfl (by kernel_rfl) (by kernel_rfl) (by kernel_rfl) (fun _ _ _ h => h) (by rfl) hHeld ?_ ?_
          rotate_left
          · rintro wh ⟨z0, z1, z2, z3, z4, z5, z6, z7, z8, z9, z10, z11, z12, z13, z14, z15, z16, z17, z18, z19, z20, z21, z22, z23, z24, z25⟩
            go_simp
            (try with_reducible rfl)
          simp only [Act.put, List.setIfInBounds_toArray, List.set_cons_zero, List.set_cons_succ]
          refine held_take (i := 12) (v := ?_) rfl rfl (by kernel_rfl) (by kernel_rfl) (by kernel_rfl) (fun _ _ _ h => h) (by rfl) hHeld ?_ ?_
          rotate_left
          · rintro wh ⟨z0, z1, z2, z3, z4, z5, z6, z7, z8, z9, z10, z11, z12, z13, z14, z15, z16, z17, z18, z19, z20, z21, z22, z23, z24, z25⟩
            go_simp
            (try with_reducible rfl)
          simp only [Act.put, List.setIfInBounds_toArray, List.set_cons_zero, List.set_cons_succ]
          refine held_take (i := 13) (v := ?_) rfl rfl (by kernel_rfl) (by kernel_rfl) (by kernel_rfl) (fun _ _ _ h => h) (by rfl) hHeld ?_ ?_
          rotate_left
          · rintro wh ⟨z0, z1, z2, z3, z4, z5, z6, z7, z8, z9, z10, z11, z12, z13, z14, z15, z16, z17, z18, z19, z20, z21, z22, z23, z24, z25⟩
            go_simp
            (try with_reducible rfl)
          simp only [Act.put, List.setIfInBounds_toArray, List.set_cons_zero, List.set_cons_succ]
          refine held_take (i := 14) (v := ?_) rfl rfl (by kernel_rfl) (by kernel_rfl) (by kernel_rfl) (fun _ _ _ h => h) (by rfl) hHeld ?_ ?_
          rotate_left
          · rintro wh ⟨z0, z1, z2, z3, z4, z5, z6, z7, z8, z9, z10, z11, z12, z13, z14, z15, z16, z17, z18, z19, z20, z21, z22, z23, z24, z25⟩
            go_simp
            (try with_reducible rfl)
          simp only [Act.put, List.setIfInBounds_toArray, List.set_cons_zero, List.set_cons_succ]
          refine held_call (i := 15) rfl (by kernel_rfl) (by rfl) (fun K hK => ?_)
          (go_simp; go_at_call 30; refine (KB.out _ hB1).mono ?_; rintro e v2 ⟨rfl, hb2⟩; have hB2 := hB1.trans (hb2.mono hB1.size))
          refine hK.out _ _ ⟨keep_cell m0 hB2 ltm, keep_cell m1 hB2 ltm, keep_cell m2 hB2 ltm, keep_cell m3 hB2 ltm, keep_cell m4 hB2 ltm, keep_cell m5 hB2 ltm, keep_cell p0 hB2 ltn, keep_cell p1 hB2 ltn, keep_cell p2 hB2 ltn, keep_cell p3 hB2 ltn, keep_cell p4 hB2 ltn, keep_cell p5 hB2 ltn, keep_cell o0 hB2 lto, keep_cell o1 hB2 lto, keep_cell o2 hB2 lto, keep_cell o3 hB2 lto, keep_cell o4 hB2 lto, keep_cell o5 hB2 lto, keep_cell x0 hB2 ltx, keep_cell x1 hB2 ltx, keep_cell x2 hB2 ltx, keep_cell x3 hB2 ltx, keep_cell x4 hB2 ltx, keep_cell x5 hB2 ltx, keep_cell y2 hB2 lty, keep_cell y3 hB2 lty⟩ (fun hHeld => ?_)
          clear hK K
          (try simp only [Act.put, List.setIfInBounds_toArray, List.set_cons_zero, List.set_cons_succ])
          refine held_take (i := 16) (v := ?_) rfl rfl (by kernel_rfl) (by kernel_rfl) (by kernel_rfl) (fun _ _ _ h => h) (by rfl) hHeld ?_ ?_
          rotate_left
          · rintro wh ⟨z0, z1, z2, z3, z4, z5, z6, z7, z8, z9, z10, z11, z12, z13, z14, z15, z16, z17, z18, z19, z20, z21, z22, z23, z24, z25⟩
            go_simp
            (try with_reducible rfl)
          simp only [Act.put, List.setIfInBounds_toArray, List.set_cons_zero, List.set_cons_succ]
          refine held_take (i := 17) (v := ?_) rfl rfl (by kernel_rfl) (by kernel_rfl) (by kernel_rfl) (fun _ _ _ h => h) (by rfl) hHeld ?_ ?_
          rotate_left
          · rintro wh ⟨z0, z1, z2, z3, z4, z5, z6, z7, z8, z9, z10, z11, z12, z13, z14, z15, z16, z17, z18, z19, z20, z21, z22, z23, z24, z25⟩
            go_simp
            (try with_reducible rfl)
          simp only [Act.put, List.setIfInBounds_toArray, List.set_cons_zero, List.set_cons_succ]
          refine held_take (i := 18) (v := ?_) rfl rfl (by kernel_rfl) (by kernel_rfl) (by kernel_rfl) (fun _ _ _ h => h) (by rfl) hHeld ?_ ?_
          rotate_left
          · rintro wh ⟨z0, z1, z2, z3, z4, z5, z6, z7, z8, z9, z10, z11, z12, z13, z14, z15, z16, z17, z18, z19, z20, z21, z22, z23, z24, z25⟩
            go_simp
            (try with_reducible rfl)
          simp only [Act.put, List.setIfInBounds_toArray, List.set_cons_zero, List.set_cons_succ]
          refine held_take (i := 19) (v := ?_) rfl rfl (by kernel_rfl) (by kernel_rfl) (by kernel_rfl) (fun _ _ _ h => h) (by rfl) hHeld ?_ ?_
          rotate_left
          · rintro wh ⟨z0, z1, z2, z3, z4, z5, z6, z7, z8, z9, z10, z11, z12, z13, z14, z15, z16, z17, z18, z19, z20, z21, z22, z23, z24, z25⟩
            go_simp
            (try with_reducible rfl)
          simp only [Act.put, List.setIfInBounds_toArray, List.set_cons_zero, List.set_cons_succ]
          refine held_take (i := 20) (v := ?_) rfl rfl (by kernel_rfl) (by kernel_rfl) (by kernel_rfl) (fun _ _ _ h => h) (by rfl) hHeld ?_ ?_
          rotate_left
          · rintro wh ⟨z0, z1, z2, z3, z4, z5, z6, z7, z8, z9, z10, z11, z12, z13, z14, z15, z16, z17, z18, z19, z20, z21, z22, z23, z24, z25⟩
            go_simp
            (try with_reducible rfl)
          simp only [Act.put, List.setIfInBounds_toArray, List.set_cons_zero, List.set_cons_succ]
          refine held_take (i := 21) (v := ?_) rfl rfl (by kernel_rfl) (by kernel_rfl) (by kernel_rfl) (fun _ _ _ h => h) (by rfl) hHeld ?_ ?_
          rotate_left
          · rintro wh ⟨z0, z1, z2, z3, z4, z5, z6, z7, z8, z9, z10, z11, z12, z13, z14, z15, z16, z17, z18, z19, z20, z21, z22, z23, z24, z25⟩
            go_simp
            (try with_reducible rfl)
          simp only [Act.put, List.setIfInBounds_toArray, List.set_cons_zero, List.set_cons_succ]
          refine held_take (i := 22) (v := ?_) rfl rfl (by kernel_rfl) (by kernel_rfl) (by kernel_rfl) (fun _ _ _ h => h) (by rfl) hHeld ?_ ?_
          rotate_left
          · rintro wh ⟨z0, z1, z2, z3, z4, z5, z6, z7, z8, z9, z10, z11, z12, z13, z14, z15, z16, z17, z18, z19, z20, z21, z22, z23, z24, z25⟩
            go_simp
            (try with_reducible rfl)
          simp only [Act.put, List.setIfInBounds_toArray, List.set_cons_zero, List.set_cons_succ]
          refine held_call (i := 23) rfl (by kernel_rfl) (by rfl) (fun K hK => ?_)
          (go_simp; go_at_call 24; refine (KF.out _).mono ?_; rintro e v3 ⟨rfl, hb3⟩; have hB3 := hB2.trans (hb3.mono hB2.size))
          refine hK.out _ _ ⟨keep_cell m0 hB3 ltm, keep_cell m1 hB3 ltm, keep_cell m2 hB3 ltm, keep_cell m3 hB3 ltm, keep_cell m4 hB3 ltm, keep_cell m5 hB3 ltm, keep_cell p0 hB3 ltn, keep_cell p1 hB3 ltn, keep_cell p2 hB3 ltn, keep_cell p3 hB3 ltn, keep_cell p4 hB3 ltn, keep_cell p5 hB3 ltn, keep_cell o0 hB3 lto, keep_cell o1 hB3 lto, keep_cell o2 hB3 lto, keep_cell o3 hB3 lto, keep_cell o4 hB3 lto, keep_cell o5 hB3 lto, keep_cell x0 hB3 ltx, keep_cell x1 hB3 ltx, keep_cell x2 hB3 ltx, keep_cell x3 hB3 ltx, keep_cell x4 hB3 ltx, keep_cell x5 hB3 ltx, keep_cell y2 hB3 lty, keep_cell y3 hB3 lty⟩ (fun hHeld => ?_)
          clear hK K
          (try simp only [Act.put, List.setIfInBounds_toArray, List.set_cons_zero, List.set_cons_succ])
          refine held_take (i := 24) (v := ?_) rfl rfl (by kernel_rfl) (by kernel_rfl) (by kernel_rfl) (fun _ _ _ h => h) (by rfl) hHeld ?_ ?_
          rotate_left
          · rintro wh ⟨z0, z1, z2, z3, z4, z5, z6, z7, z8, z9, z10, z11, z12, z13, z14, z15, z16, z17, z18, z19, z20, z21, z22, z23, z24, z25⟩
            go_simp
            (try with_reducible rfl)
          simp only [Act.put, List.setIfInBounds_toArray, List.set_cons_zero, List.set_cons_succ]
          refine held_take (i := 25) (v := ?_) rfl rfl (by kernel_rfl) (by kernel_rfl) (by kernel_rfl) (fun _ _ _ h => h) (by rfl) hHeld ?_ ?_
          rotate_left
          · rintro wh ⟨z0, z1, z2, z3, z4, z5, z6, z7, z8, z9, z10, z11, z12, z13, z14, z15, z16, z17, z18, z19, z20, z21, z22, z23, z24, z25⟩
            go_simp
            (try with_reducible rfl)
          simp only [Act.put, List.setIfInBounds_toArray, List.set_cons_zero, List.set_cons_succ]
          refine held_take (i := 26) (v := ?_) rfl rfl (by kernel_rfl) (by kernel_rfl) (by kernel_rfl) (fun _ _ _ h => h) (by rfl) hHeld ?_ ?_
          rotate_left
          · rintro wh ⟨z0, z1, z2, z3, z4, z5, z6, z7, z8, z9, z10, z11, z12, z13, z14, z15, z16, z17, z18, z19, z20, z21, z22, z23, z24, z25⟩
            go_simp
            (try with_reducible rfl)
          simp only [Act.put, List.setIfInBounds_toArray, List.set_cons_zero, List.set_cons_succ]
          refine held_take (i := 27) (v := ?_) rfl rfl (by kernel_rfl) (by kernel_rfl) (by kernel_rfl) (fun _ _ _ h => h) (by rfl) hHeld ?_ ?_
          rotate_left
          · rintro wh ⟨z0, z1, z2, z3, z4, z5, z6, z7, z8, z9, z10, z11, z12, z13, z14, z15, z16, z17, z18, z19, z20, z21, z22, z23, z24, z25⟩
            go_simp
            (try with_reducible rfl)
          simp only [Act.put, List.setIfInBounds_toArray, List.set_cons_zero, List.set_cons_succ]
          refine held_take (i := 29) (v := ?_) rfl rfl (by kernel_rfl) (by kernel_rfl) (by kernel_rfl) (fun _ _ _ h => h) (by rfl) hHeld ?_ ?_
          rotate_left
          · rintro wh ⟨z0, z1, z2, z3, z4, z5, z6, z7, z8, z9, z10, z11, z12, z13, z14, z15, z16, z17, z18, z19, z20, z21, z22, z23, z24, z25⟩
            go_simp
            (try with_reducible rfl)
          simp only [Act.put, List.setIfInBounds_toArray, List.set_cons_zero, List.set_cons_succ]
          refine held_call (i := 28) rfl (by kernel_rfl) (by rfl) (fun K hK => ?_)
          (go_simp; go_at_call 31; refine (KI.out _ hB3).mono ?_; rintro e v4 ⟨rfl, hb4⟩; have hB4 := hB3.trans (hb4.mono hB3.size))
          refine hK.out _ _ ⟨keep_cell m0 hB4 ltm, keep_cell m1 hB4 ltm, keep_cell m2 hB4 ltm, keep_cell m3 hB4 ltm, keep_cell m4 hB4 ltm, keep_cell m5 hB4 ltm, keep_cell p0 hB4 ltn, keep_cell p1 hB4 ltn, keep_cell p2 hB4 ltn, keep_cell p3 hB4 ltn, keep_cell p4 hB4 ltn, keep_cell p5 hB4 ltn, keep_cell o0 hB4 lto, keep_cell o1 hB4 lto, keep_cell o2 hB4 lto, keep_cell o3 hB4 lto, keep_cell o4 hB4 lto, keep_cell o5 hB4 lto, keep_cell x0 hB4 ltx, keep_cell x1 hB4 ltx, keep_cell x2 hB4 ltx, keep_cell x3 hB4 ltx, keep_cell x4 hB4 ltx, keep_cell x5 hB4 ltx, keep_cell y2 hB4 lty, keep_cell y3 hB4 lty⟩ (fun hHeld => ?_)
          clear hK K
          (try simp only [Act.put, List.setIfInBounds_toArray, List.set_cons_zero, List.set_cons_succ])
          refine held_call (i := 30) rfl (by kernel_rfl) (by rfl) (fun K hK => ?_)
          (go_simp; go_at_call 31; refine (KJ.out _ hB4).mono ?_; rintro e v5 ⟨rfl, hb5⟩; have hB5 := hB4.trans (hb5.mono hB4.size))
          refine hK.out _ _ ⟨keep_cell m0 hB5 ltm, keep_cell m1 hB5 ltm, keep_cell m2 hB5 ltm, keep_cell m3 hB5 ltm, keep_cell m4 hB5 ltm, keep_cell m5 hB5 ltm, keep_cell p0 hB5 ltn, keep_cell p1 hB5 ltn, keep_cell p2 hB5 ltn, keep_cell p3 hB5 ltn, keep_cell p4 hB5 ltn, keep_cell p5 hB5 ltn, keep_cell o0 hB5 lto, keep_cell o1 hB5 lto, keep_cell o2 hB5 lto, keep_cell o3 hB5 lto, keep_cell o4 hB5 lto, keep_cell o5 hB5 lto, keep_cell x0 hB5 ltx, keep_cell x1 hB5 ltx, keep_cell x2 hB5 ltx, keep_cell x3 hB5 ltx, keep_cell x4 hB5 ltx, keep_cell x5 hB5 ltx, keep_cell y2 hB5 lty, keep_cell y3 hB5 lty⟩ (fun hHeld => ?_)
          clear hK K
          (try simp only [Act.put, List.setIfInBounds_toArray, List.set_cons_zero, List.set_cons_succ])
          refine held_take (i := 31) (v := ?_) rfl rfl (by kernel_rfl) (by kernel_rfl) (by kernel_rfl) (fun _ _ _ h => h) (by rfl) hHeld ?_ ?_
          rotate_left
          · rintro wh ⟨z0, z1, z2, z3, z4, z5, z6, z7, z8, z9, z10, z11, z12, z13, z14, z15, z16, z17, z18, z19, z20, z21, z22, z23, z24, z25⟩
            go_simp
            (try with_reducible rfl)
          simp only [Act.put, List.setIfInBounds_toArray, List.set_cons_zero, List.set_cons_succ]
          refine held_take (i := 32) (v := ?_) rfl rfl (by kernel_rfl) (by kernel_rfl) (by kernel_rfl) (fun _ _ _ h => h) (by rfl) hHeld ?_ ?_
          rotate_left
          · rintro wh ⟨z0, z1, z2, z3, z4, z5, z6, z7, z8, z9, z10, z11, z12, z13, z14, z15, z16, z17, z18, z19, z20, z21, z22, z23, z24, z25⟩
            go_simp
            (try with_reducible rfl)
          simp only [Act.put, List.setIfInBounds_toArray, List.set_cons_zero, List.set_cons_succ]
          refine held_take (i := 33) (v := ?_) rfl rfl (by kernel_rfl) (by kernel_rfl) (by kernel_rfl) (fun _ _ _ h => h) (by rfl) hHeld ?_ ?_
          rotate_left
          · rintro wh ⟨z0, z1, z2, z3, z4, z5, z6, z7, z8, z9, z10, z11, z12, z13, z14, z15, z16, z17, z18, z19, z20, z21, z22, z23, z24, z25⟩
            go_simp
            (try with_reducible rfl)
          simp only [Act.put, List.setIfInBounds_toArray, List.set_cons_zero, List.set_cons_succ]
          refine held_take (i := 34) (v := ?_) rfl rfl (by kernel_rfl) (by kernel_rfl) (by kernel_rfl) (fun _ _ _ h => h) (by rfl) hHeld ?_ ?_
          rotate_left
          · rintro wh ⟨z0, z1, z2, z3, z4, z5, z6, z7, z8, z9, z10, z11, z12, z13, z14, z15, z16, z17, z18, z19, z20, z21, z22, z23, z24, z25⟩
            go_simp
            (try with_reducible rfl)
          simp only [Act.put, List.setIfInBounds_toArray, List.set_cons_zero, List.set_cons_succ]
          refine held_take (i := 35) (v := ?_) rfl rfl (by kernel_rfl) (by kernel_rfl) (by kernel_rfl) (fun _ _ _ h => h) (by rfl) hHeld ?_ ?_
          rotate_left
          · rintro wh ⟨z0, z1, z2, z3, z4, z5, z6, z7, z8, z9, z10, z11, z12, z13, z14, z15, z16, z17, z18, z19, z20, z21, z22, z23, z24, z25⟩
            go_simp
            (try with_reducible rfl)
          simp only [Act.put, List.setIfInBounds_toArray, List.set_cons_zero, List.set_cons_succ]
          refine held_take (i := 36) (v := ?_) rfl rfl (by kernel_rfl) (by kernel_rfl) (by kernel_rfl) (fun _ _ _ h => h) (by rfl) hHeld ?_ ?_
          rotate_left
          · rintro wh ⟨z0, z1, z2, z3, z4, z5, z6, z7, z8, z9, z10, z11, z12, z13, z14, z15, z16, z17, z18, z19, z20, z21, z22, z23, z24, z25⟩
            go_simp
            (try with_reducible rfl)
          simp only [Act.put, List.setIfInBounds_toArray, List.set_cons_zero, List.set_cons_succ]
          refine held_take (i := 37) (v := ?_) rfl rfl (by kernel_rfl) (by kernel_rfl) (by kernel_rfl) (fun _ _ _ h => h) (by rfl) hHeld ?_ ?_
          rotate_left
          · rintro wh ⟨z0, z1, z2, z3, z4, z5, z6, z7, z8, z9, z10, z11, z12, z13, z14, z15, z16, z17, z18, z19, z20, z21, z22, z23, z24, z25⟩
            go_simp
            (try with_reducible rfl)
          simp only [Act.put, List.setIfInBounds_toArray, List.set_cons_zero, List.set_cons_succ]
          refine held_call (i := 38) rfl (by kernel_rfl) (by rfl) (fun K hK => ?_)
          (go_simp; go_at_call 28; refine (KL.out _ hB5).mono ?_; rintro e v6 ⟨rfl, hb6⟩; have hB6 := hB5.trans (hb6.mono hB5.size))
          refine hK.out _ _ ⟨keep_cell m0 hB6 ltm, keep_cell m1 hB6 ltm, keep_cell m2 hB6 ltm, keep_cell m3 hB6 ltm, keep_cell m4 hB6 ltm, keep_cell m5 hB6 ltm, keep_cell p0 hB6 ltn, keep_cell p1 hB6 ltn, keep_cell p2 hB6 ltn, keep_cell p3 hB6 ltn, keep_cell p4 hB6 ltn, keep_cell p5 hB6 ltn, keep_cell o0 hB6 lto, keep_cell o1 hB6 lto, keep_cell o2 hB6 lto, keep_cell o3 hB6 lto, keep_cell o4 hB6 lto, keep_cell o5 hB6 lto, keep_cell x0 hB6 ltx, keep_cell x1 hB6 ltx, keep_cell x2 hB6 ltx, keep_cell x3 hB6 ltx, keep_cell x4 hB6 ltx, keep_cell x5 hB6 ltx, keep_cell y2 hB6 lty, keep_cell y3 hB6 lty⟩ (fun hHeld => ?_)
          clear hK K
          (try simp only [Act.put, List.setIfInBounds_toArray, List.set_cons_zero, List.set_cons_succ])
          refine held_take (i := 39) (v := ?_) rfl rfl (by kernel_rfl) (by kernel_rfl) (by kernel_rfl) (fun _ _ _ h => h) (by rfl) hHeld ?_ ?_
          rotate_left
          · rintro wh ⟨z0, z1, z2, z3, z4, z5, z6, z7, z8, z9, z10, z11, z12, z13, z14, z15, z16, z17, z18, z19, z20, z21, z22, z23, z24, z25⟩
            go_simp
            (try with_reducible rfl)
          simp only [Act.put, List.setIfInBounds_toArray, List.set_cons_zero, List.set_cons_succ]
          refine held_take (i := 40) (v := ?_) rfl rfl (by kernel_rfl) (by kernel_rfl) (by kernel_rfl) (fun _ _ _ h => h) (by rfl) hHeld ?_ ?_
          rotate_left
          · rintro wh ⟨z0, z1, z2, z3, z4, z5, z6, z7, z8, z9, z10, z11, z12, z13, z14, z15, z16, z17, z18, z19, z20, z21, z22, z23, z24, z25⟩
            go_simp
            (try with_reducible rfl)
          simp only [Act.put, List.setIfInBounds_toArray, List.set_cons_zero, List.set_cons_succ]
          refine held_take (i := 41) (v := ?_) rfl rfl (by kernel_rfl) (by kernel_rfl) (by kernel_rfl) (fun _ _ _ h => h) (by rfl) hHeld ?_ ?_
          rotate_left
          · rintro wh ⟨z0, z1, z2, z3, z4, z5, z6, z7, z8, z9, z10, z11, z12, z13, z14, z15, z16, z17, z18, z19, z20, z21, z22, z23, z24, z25⟩
            go_simp
            (try with_reducible rfl)
          simp only [Act.put, List.setIfInBounds_toArray, List.set_cons_zero, List.set_cons_succ]
          refine held_take (i := 42) (v := ?_) rfl rfl (by kernel_rfl) (by kernel_rfl) (by kernel_rfl) (fun _ _ _ h => h) (by rfl) hHeld ?_ ?_
          rotate_left
          · rintro wh ⟨z0, z1, z2, z3, z4, z5, z6, z7, z8, z9, z10, z11, z12, z13, z14, z15, z16, z17, z18, z19, z20, z21, z22, z23, z24, z25⟩
            go_simp
            (try with_reducible rfl)
          simp only [Act.put, List.setIfInBounds_toArray, List.set_cons_zero, List.set_cons_succ]
          refine held_take (i := 43) (v := ?_) rfl rfl (by kernel_rfl) (by kernel_rfl) (by kernel_rfl) (fun _ _ _ h => h) (by rfl) hHeld ?_ ?_
          rotate_left
          · rintro wh ⟨z0, z1, z2, z3, z4, z5, z6, z7, z8, z9, z10, z11, z12, z13, z14, z15, z16, z17, z18, z19, z20, z21, z22, z23, z24, z25⟩
            go_simp
            (try with_reducible rfl)
          simp only [Act.put, List.setIfInBounds_toArray, List.set_cons_zero, List.set_cons_succ]
          refine held_take (i := 44) (v := ?_) rfl rfl (by kernel_rfl) (by kernel_rfl) (by kernel_rfl) (fun _ _ _ h => h) (by rfl) hHeld ?_ ?_
          rotate_left
          · rintro wh ⟨z0, z1, z2, z3, z4, z5, z6, z7, z8, z9, z10, z11, z12, z13, z14, z15, z16, z17, z18, z19, z20, z21, z22, z23, z24, z25⟩
            go_simp
            (try with_reducible rfl)
          simp only [Act.put, List.setIfInBounds_toArray, List.set_cons_zero, List.set_cons_succ]
          refine held_call (i := 45) rfl (by kernel_rfl) (by rfl) (fun K hK => ?_)
          (go_simp; go_at_call 28; refine (KM.out _ hB6).mono ?_; rintro e v7 ⟨rfl, hb7⟩; have hB7 := hB6.trans (hb7.mono hB6.size))
          refine hK.out _ _ ⟨keep_cell m0 hB7 ltm, keep_cell m1 hB7 ltm, keep_cell m2 hB7 ltm, keep_cell m3 hB7 ltm, keep_cell m4 hB7 ltm, keep_cell m5 hB7 ltm, keep_cell p0 hB7 ltn, keep_cell p1 hB7 ltn, keep_cell p2 hB7 ltn, keep_cell p3 hB7 ltn, keep_cell p4 hB7 ltn, keep_cell p5 hB7 ltn, keep_cell o0 hB7 lto, keep_cell o1 hB7 lto, keep_cell o2 hB7 lto, keep_cell o3 hB7 lto, keep_cell o4 hB7 lto, keep_cell o5 hB7 lto, keep_cell x0 hB7 ltx, keep_cell x1 hB7 ltx, keep_cell x2 hB7 ltx, keep_cell x3 hB7 ltx, keep_cell x4 hB7 ltx, keep_cell x5 hB7 ltx, keep_cell y2 hB7 lty, keep_cell y3 hB7 lty⟩ (fun hHeld => ?_)
          clear hK K
          (try simp only [Act.put, List.setIfInBounds_toArray, List.set_cons_zero, List.set_cons_succ])
          refine held_take (i := 46) (v := ?_) rfl rfl (by kernel_rfl) (by kernel_rfl) (by kernel_rfl) (fun _ _ _ h => h) (by rfl) hHeld ?_ ?_
          rotate_left
          · rintro wh ⟨z0, z1, z2, z3, z4, z5, z6, z7, z8, z9, z10, z11, z12, z13, z14, z15, z16, z17, z18, z19, z20, z21, z22, z23, z24, z25⟩
            go_simp
            (try with_reducible rfl)
          simp only [Act.put, List.setIfInBounds_toArray, List.set_cons_zero, List.set_cons_succ]
          refine held_take (i := 47) (v := ?_) rfl rfl (by kernel_rfl) (by kernel_rfl) (by kernel_rfl) (fun _ _ _ h => h) (by rfl) hHeld ?_ ?_
          rotate_left
          · rintro wh ⟨z0, z1, z2, z3, z4, z5, z6, z7, z8, z9, z10, z11, z12, z13, z14, z15, z16, z17, z18, z19, z20, z21, z22, z23, z24, z25⟩
            go_simp
            (try with_reducible rfl)
          simp only [Act.put, List.setIfInBounds_toArray, List.set_cons_zero, List.set_cons_succ]
          refine held_take (i := 48) (v := ?_) rfl rfl (by kernel_rfl) (by kernel_rfl) (by kernel_rfl) (fun _ _ _ h => h) (by rfl) hHeld ?_ ?_
          rotate_left
          · rintro wh ⟨z0, z1, z2, z3, z4, z5, z6, z7, z8, z9, z10, z11, z12, z13, z14, z15, z16, z17, z18, z19, z20, z21, z22, z23, z24, z25⟩
            go_simp
            (try with_reducible rfl)
          simp only [Act.put, List.setIfInBounds_toArray, List.set_cons_zero, List.set_cons_succ]
          refine held_call (i := 49) rfl (by kernel_rfl) (by rfl) (fun K hK => ?_)
          (go_simp; go_at_call 23; refine (KR.out _ hB7).mono ?_; rintro e v8 ⟨rfl, hb8⟩; have hB8 := hB7.trans (hb8.mono hB7.size))
          refine hK.out _ _ ⟨keep_cell m0 hB8 ltm, keep_cell m1 hB8 ltm, keep_cell m2 hB8 ltm, keep_cell m3 hB8 ltm, keep_cell m4 hB8 ltm, keep_cell m5 hB8 ltm, keep_cell p0 hB8 ltn, keep_cell p1 hB8 ltn, keep_cell p2 hB8 ltn, keep_cell p3 hB8 ltn, keep_cell p4 hB8 ltn, keep_cell p5 hB8 ltn, keep_cell o0 hB8 lto, keep_cell o1 hB8 lto, keep_cell o2 hB8 lto, keep_cell o3 hB8 lto, keep_cell o4 hB8 lto, keep_cell o5 hB8 lto, keep_cell x0 hB8 ltx, keep_cell x1 hB8 ltx, keep_cell x2 hB8 ltx, keep_cell x3 hB8 ltx, keep_cell x4 hB8 ltx, keep_cell x5 hB8 ltx, keep_cell y2 hB8 lty, keep_cell y3 hB8 lty⟩ (fun hHeld => ?_)
          clear hK K
          (try simp only [Act.put, List.setIfInBounds_toArray, List.set_cons_zero, List.set_cons_succ])
          refine held_take (i := 50) (v := ?_) rfl rfl (by kernel_rfl) (by kernel_rfl) (by kernel_rfl) (fun _ _ _ h => h) (by rfl) hHeld ?_ ?_
          rotate_left
          · rintro wh ⟨z0, z1, z2, z3, z4, z5, z6, z7, z8, z9, z10, z11, z12, z13, z14, z15, z16, z17, z18, z19, z20, z21, z22, z23, z24, z25⟩
            go_simp
            (try with_reducible rfl)
          simp only [Act.put, List.setIfInBounds_toArray, List.set_cons_zero, List.set_cons_succ]
          refine held_take (i := 51) (v := ?_) rfl rfl (by kernel_rfl) (by kernel_rfl) (by kernel_rfl) (fun _ _ _ h => h) (by rfl) hHeld ?_ ?_
          rotate_left
          · rintro wh ⟨z0, z1, z2, z3, z4, z5, z6, z7, z8, z9, z10, z11, z12, z13, z14, z15, z16, z17, z18, z19, z20, z21, z22, z23, z24, z25⟩
            go_simp
            (try with_reducible rfl)
          simp only [Act.put, List.setIfInBounds_toArray, List.set_cons_zero, List.set_cons_succ]
          refine held_take (i := 52) (v := ?_) rfl rfl (by kernel_rfl) (by kernel_rfl) (by kernel_rfl) (fun _ _ _ h => h) (by rfl) hHeld ?_ ?_
          rotate_left
          · rintro wh ⟨z0, z1, z2, z3, z4, z5, z6, z7, z8, z9, z10, z11, z12, z13, z14, z15, z16, z17, z18, z19, z20, z21, z22, z23, z24, z25⟩
            go_simp
            (try with_reducible rfl)
          simp only [Act.put, List.setIfInBounds_toArray, List.set_cons_zero, List.set_cons_succ]
          refine held_take (i := 53) (v := ?_) rfl rfl (by kernel_rfl) (by kernel_rfl) (by kernel_rfl) (fun _ _ _ h => h) (by rfl) hHeld ?_ ?_
          rotate_left
          · rintro wh ⟨z0, z1, z2, z3, z4, z5, z6, z7, z8, z9, z10, z11, z12, z13, z14, z15, z16, z17, z18, z19, z20, z21, z22, z23, z24, z25⟩
            go_simp
            (try with_reducible rfl)
          simp only [Act.put, List.setIfInBounds_toArray, List.set_cons_zero, List.set_cons_succ]
          refine held_take (i := 54) (v := ?_) rfl rfl (by kernel_rfl) (by kernel_rfl) (by kernel_rfl) (fun _ _ _ h => h) (by rfl) hHeld ?_ ?_
          rotate_left
          · rintro wh ⟨z0, z1, z2, z3, z4, z5, z6, z7, z8, z9, z10, z11, z12, z13, z14, z15, z16, z17, z18, z19, z20, z21, z22, z23, z24, z25⟩
            go_simp
            (try with_reducible rfl)
          simp only [Act.put, List.setIfInBounds_toArray, List.set_cons_zero, List.set_cons_succ]
          refine held_take (i := 55) (v := ?_) rfl rfl (by kernel_rfl) (by kernel_rfl) (by kernel_rfl) (fun _ _ _ h => h) (by rfl) hHeld ?_ ?_
          rotate_left
          · rintro wh ⟨z0, z1, z2, z3, z4, z5, z6, z7, z8, z9, z10, z11, z12, z13, z14, z15, z16, z17, z18, z19, z20, z21, z22, z23, z24, z25⟩
            go_simp
            (try with_reducible rfl)
          simp only [Act.put, List.setIfInBounds_toArray, List.set_cons_zero, List.set_cons_succ]
          refine held_call (i := 56) rfl (by kernel_rfl) (by rfl) (fun K hK => ?_)
          (go_simp; go_at_call 36; refine (KE.out _ hB8).mono ?_; rintro e v9 ⟨rfl, hb9⟩; have hB9 := hB8.trans (hb9.mono hB8.size))
          refine hK.out _ _ ⟨keep_cell m0 hB9 ltm, keep_cell m1 hB9 ltm, keep_cell m2 hB9 ltm, keep_cell m3 hB9 ltm, keep_cell m4 hB9 ltm, keep_cell m5 hB9 ltm, keep_cell p0 hB9 ltn, keep_cell p1 hB9 ltn, keep_cell p2 hB9 ltn, keep_cell p3 hB9 ltn, keep_cell p4 hB9 ltn, keep_cell p5 hB9 ltn, keep_cell o0 hB9 lto, keep_cell o1 hB9 lto, keep_cell o2 hB9 lto, keep_cell o3 hB9 lto, keep_cell o4 hB9 lto, keep_cell o5 hB9 lto, keep_cell x0 hB9 ltx, keep_cell x1 hB9 ltx, keep_cell x2 hB9 ltx, keep_cell x3 hB9 ltx, keep_cell x4 hB9 ltx, keep_cell x5 hB9 ltx, keep_cell y2 hB9 lty, keep_cell y3 hB9 lty⟩ (fun hHeld => ?_)
          clear hK K
          (try simp only [Act.put, List.setIfInBounds_toArray, List.set_cons_zero, List.set_cons_succ])
          refine held_take (i := 57) (v := ?_) rfl rfl (by kernel_rfl) (by kernel_rfl) (by kernel_rfl) (fun _ _ _ h => h) (by rfl) hHeld ?_ ?_
          rotate_left
          · rintro wh ⟨z0, z1, z2, z3, z4, z5, z6, z7, z8, z9, z10, z11, z12, z13, z14, z15, z16, z17, z18, z19, z20, z21, z22, z23, z24, z25⟩
            go_simp
            (try with_reducible rfl)
          simp only [Act.put, List.setIfInBounds_toArray, List.set_cons_zero, List.set_cons_succ]
          refine held_take (i := 58) (v := ?_) rfl rfl (by kernel_rfl) (by kernel_rfl) (by kernel_rfl) (fun _ _ _ h => h) (by rfl) hHeld ?_ ?_
          rotate_left
          · rintro wh ⟨z0, z1, z2, z3, z4, z5, z6, z7, z8, z9, z10, z11, z12, z13, z14, z15, z16, z17, z18, z19, z20, z21, z22, z23, z24, z25⟩
            go_simp
            (try with_reducible rfl)
          simp only [Act.put, List.setIfInBounds_toArray, List.set_cons_zero, List.set_cons_succ]
          refine wpAnyH_done (by kernel_rfl) ?_ _
          go_wp2
          go_ret
          exact ⟨rfl, HBM.out.trans (hB9.mono HBM.out.size)⟩
theorem walk (v : Value) (x : Al) (fv : Value) (n0 n1 n2 : Int) (u : Value) (l : Int × Nat) (w : World) (h1 : ArgAl w v x fv) (h3 : ArgLab u l) : Calls Try.prog 10 #[v, .agg #[.int .i64 n0, .int .i64 n1, .int .i64 n2], u] w fun e w' => e = .returned (.bool true) ∧ Below w.heap.size w w' := by
  obtain ⟨rfl, r2, r3⟩ := h1
  obtain ⟨rfl, s2⟩ := h3
  exact walk0 x.src x.fl fv x.lv x.c x.fr x.til n0 n1 n2 l.1 l.2 w r3.src r2 r3.fl r3.len r3.c s2
end lawMerges
end Go.Proofs.Ytnmgfmmjdiephaa
