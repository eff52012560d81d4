/- Several parts in one: bucket.Right, counts, Tell: contracts, of any hatch and alerts. bucket.Tell: a contract, of any hatch and alerts. -/
import Derived.Test.YtcfococinllcmaaGreatBkOf
import Derived.Test.YtcfococinllcmaaGreatLabelB
import Derived.Test.YtcfococinllcmaaGreatAls
import Derived.Test.YtcfococinllcmaaGreatMtAll
namespace Go.Proofs.YtcfococinllcmaaGreat
open Go.RowKit

/-- what is counted, said plainly -/
structure Ha where
  nm : ByteArray
  f : Int
  fc : Nat
  t : Int
  tc : Nat
  ms : List Mt
  bl : List Int
structure HaAt (w : World) (h : Ha) (wv bv : Value) : Prop where
  ms : MtsAt w wv h.ms
  bl : IntsAt w bv h.bl
structure HaFit (h : Ha) : Prop where
  nm : h.nm.size ≤ maxLen
  ms : MtsFit h.ms
  mn : h.ms.length ≤ 1000
  bn : h.bl.length ≤ 1000
theorem HaAt.later {w w' : World} {h : Ha} {wv bv : Value} (ha : HaAt w h wv bv) (hb : Below w.heap.size w w') : HaAt w' h wv bv := ⟨ha.ms.later hb, ha.bl.later hb⟩
abbrev HaV (h : Ha) (wv bv : Value) : Value := .agg #[.string h.nm, .int .i64 h.f, .int .u32 h.fc, .int .i64 h.t, .int .u32 h.tc, wv, bv]
/-- a hatch may be -/
def rightH (h : Ha) : Bool := nameL (B h.nm) && rightL h.f && rightL h.t && (decide (h.ms.length ≤ 12) && !(h.ms.any fun m => !fineM m) && fineL h.bl)
/-- an alert is counted -/
noncomputable def countsH (h : Ha) (x : Al) (now : Int) : Bool := rightA x && firesA x now && flowsL x.lv x.c h.f h.fc && allM x.fl h.ms
set_option maxHeartbeats 800000 in
theorem rclos (m : Mt) (w : World) (hf : MtFit m) : Calls Tryz.prog 48 #[.agg #[.string m.nm, .int .i64 m.op, .string m.val]] w fun e w' => e = .returned (.bool (!(fineM m))) ∧ Below w.heap.size w w' := by
  have hb := alloc_below w (.cells #[.string m.nm, .int .i64 m.op, .string m.val] 108)
  have k := mfine_any m (w.alloc (.cells #[.string m.nm, .int .i64 m.op, .string m.val] 108)) hf
  have HB := Lib.hid hb
  generalize fineM m = R at *
  obtain ⟨nm, op, val⟩ := m
  dsimp only at *
  clear hf hb
  go_enter Tryz.func48, Tryz.ntmps48
  go_wp2_with fail
  refine k.mono ?_
  rintro e w1 ⟨rfl, hb1⟩
  clear k
  go_wp2
  go_ret
  exact ⟨rfl, HB.out.trans (hb1.mono HB.out.size)⟩
set_option maxHeartbeats 3200000 in
set_option maxRecDepth 100000 in
theorem hright_any (h : Ha) (wv bv : Value) (w : World) (ha : HaAt w h wv bv) (hf : HaFit h) :
    Calls Tryz.prog 16 #[.agg #[.string h.nm, .int .i64 h.f, .int .u32 h.fc, .int .i64 h.t, .int .u32 h.tc, wv, bv]] w fun e w' => e = .returned (.bool (rightH h)) ∧ Below w.heap.size w w' := by
  have k1 := fun W => name_any h.nm W hf.nm
  have k2 := fun W => right_any h.f h.fc W
  have k3 := fun W => right_any h.t h.tc W
  have k4 := fun W (hW : Below w.heap.size w W) => hasm_gen h.ms hf.ms (fun m => !(fineM m)) 48 #[] (enters_of Tryz.func48 (by kernel_rfl) rfl) wv W (ha.ms.later hW) (by have := hf.mn; omega) (fun W m hm _ => rclos m W hm)
  have k5 := fun W (hW : Below w.heap.size w W) => fine_any h.bl W bv (ha.bl.later hW) hf.bn
  have HR : Hid (rightH h = (nameL (B h.nm) && rightL h.f && rightL h.t && (decide (h.ms.length ≤ 12) && !(h.ms.any fun m => !fineM m) && fineL h.bl))) := Lib.hid rfl
  obtain ⟨ma, mc, rfl, _, _⟩ := RdAt.shape ha.ms
  obtain ⟨ba, bc, rfl, _, _⟩ := RdAt.shape ha.bl
  have hmn := hf.mn
  generalize rightH h = R at *
  generalize (h.ms.any fun m => !fineM m) = AN at *
  generalize h.ms.length = mn at *
  generalize fineL h.bl = FI at *
  generalize h.bl.length = bn at *
  obtain ⟨nm, f, fc, t, tc, ms, bl⟩ := h
  dsimp only at *
  generalize nameL (B nm) = N at *
  generalize rightL f = RF at *
  generalize rightL t = RT at *
  have K2 := Lib.hid k2
  have K3 := Lib.hid k3
  have K4 := Lib.hid k4
  have K5 := Lib.hid k5
  have k1 := k1 (w.alloc (.cells #[.string nm, .int .i64 f, .int .u32 fc, .int .i64 t, .int .u32 tc, .slice ma mn mc, .slice ba bn bc] 35))
  clear ha hf k2 k3 k4 k5
  go_enter Tryz.func16, Tryz.ntmps16
  go_wp2_with fail
  refine k1.mono ?_
  rintro e w1 ⟨rfl, hb1⟩
  obtain ⟨x, hlt, hB1⟩ := box7 hb1
  have X1 : Hid (C7 w.heap.size _ _ _ _ _ _ _ w1) := Lib.hid x
  have HB1 := Lib.hid hB1
  obtain ⟨x0, x1, x2, x3, x4, x5, x6⟩ := x
  clear k1 hb1 hB1
  cases N with
  | false =>
    go_wp2
    go_ret
    exact ⟨by rw [HR.out]; rfl, HB1.out⟩
  | true =>
  have k2 := K2.out w1
  go_wp2_with fail
  refine k2.mono ?_
  rintro e w2 ⟨rfl, hb2⟩
  have X2 := Lib.hid (X1.out.later hb2 hlt)
  have HB2 := Lib.hid (HB1.out.trans (hb2.mono HB1.out.size))
  have hlt2 := Nat.lt_of_lt_of_le hlt hb2.size
  clear k2 hb2 HB1 hlt X1 x0 x1 x2 x3 x4 x5 x6
  obtain ⟨x0, x1, x2, x3, x4, x5, x6⟩ := X2.out
  cases RF with
  | false =>
    go_wp2
    go_ret
    exact ⟨by rw [HR.out]; rfl, HB2.out⟩
  | true =>
  have k3 := K3.out w2
  go_wp2_with fail
  refine k3.mono ?_
  rintro e w3 ⟨rfl, hb3⟩
  have X3 := Lib.hid (X2.out.later hb3 hlt2)
  have HB3 := Lib.hid (HB2.out.trans (hb3.mono HB2.out.size))
  have hlt3 := Nat.lt_of_lt_of_le hlt2 hb3.size
  clear k3 hb3 HB2 hlt2 X2 x0 x1 x2 x3 x4 x5 x6
  obtain ⟨x0, x1, x2, x3, x4, x5, x6⟩ := X3.out
  cases RT with
  | false =>
    go_wp2
    go_ret
    exact ⟨by rw [HR.out]; rfl, HB3.out⟩
  | true =>
  by_cases hm : mn ≤ 12
  case neg =>
    rw [decide_eq_false hm] at HR
    go_wp2
    go_ret
    exact ⟨by rw [HR.out]; rfl, HB3.out⟩
  case pos =>
  rw [decide_eq_true hm] at HR
  have k4 := K4.out w3 HB3.out
  go_wp2_with fail
  refine k4.mono ?_
  rintro e w4 ⟨rfl, hb4⟩
  have X4 := Lib.hid (X3.out.later hb4 hlt3)
  have HB4 := Lib.hid (HB3.out.trans (hb4.mono HB3.out.size))
  clear k4 hb4 HB3 hlt3 X3 x0 x1 x2 x3 x4 x5 x6
  obtain ⟨x0, x1, x2, x3, x4, x5, x6⟩ := X4.out
  cases AN with
  | true =>
    go_wp2
    go_ret
    exact ⟨by rw [HR.out]; rfl, HB4.out⟩
  | false =>
  have k5 := K5.out w4 HB4.out
  go_wp2_with fail
  refine k5.mono ?_
  rintro e w5 ⟨rfl, hb5⟩
  have HB5 := Lib.hid (HB4.out.trans (hb5.mono HB4.out.size))
  clear k5 hb5 x0 x1 x2 x3 x4 x5 x6
  go_wp2
  go_ret
  exact ⟨by rw [HR.out]; rfl, HB5.out⟩
theorem box76h {w W : World} {a b c d e f g a' b' c' d' e' f' : Value} {t u : TypeId} (hb : Below ((w.alloc (.cells #[a, b, c, d, e, f, g] t)).alloc (.cells #[a', b', c', d', e', f'] u)).heap.size ((w.alloc (.cells #[a, b, c, d, e, f, g] t)).alloc (.cells #[a', b', c', d', e', f'] u)) W) :
    C7 w.heap.size a b c d e f g W ∧ C6 (w.heap.size + 1) a' b' c' d' e' f' W ∧ w.heap.size + 1 < W.heap.size ∧ Below w.heap.size w W := by
  obtain ⟨h, h', h3, h4⟩ := box_two hb
  exact ⟨⟨h 0 _ rfl, h 1 _ rfl, h 2 _ rfl, h 3 _ rfl, h 4 _ rfl, h 5 _ rfl, h 6 _ rfl⟩, ⟨h' 0 _ rfl, h' 1 _ rfl, h' 2 _ rfl, h' 3 _ rfl, h' 4 _ rfl, h' 5 _ rfl⟩, h3, h4⟩
set_option maxHeartbeats 3200000 in
set_option maxRecDepth 100000 in
theorem counts_any (h : Ha) (wv bv : Value) (x : Al) (v : Value) (now : Int) (w : World) (ha : HaAt w h wv bv) (hf : HaFit h) (hv : FldsAt w v x.fl) (hx : AlFit x) :
    Calls Tryz.prog 47 #[.agg #[.string h.nm, .int .i64 h.f, .int .u32 h.fc, .int .i64 h.t, .int .u32 h.tc, wv, bv], .agg #[.string x.src, v, .int .i64 x.lv, .int .u32 x.c, .int .i64 x.fr, .int .i64 x.til], .int .i64 now] w fun e w' => e = .returned (.bool (countsH h x now)) ∧ Below w.heap.size w w' := by
  have k1 := fun W (hW : Below w.heap.size w W) => aright_any x.src x.fl x.lv x.c x.fr x.til v W hx.src (hv.later hW) hx.fl hx.len
  obtain ⟨fa, fcap, rfl, hfc, _⟩ := RdAt.shape hv
  have k2 := fun W => fires_any x.src fa x.fl.length fcap x.lv x.c x.fr x.til now W
  have k3 := fun W => flows_any x.lv x.c h.f h.fc W
  have k4 := fun W (hW : Below w.heap.size w W) (hr : rightA x = true) => all_any x.fl h.ms (.slice fa x.fl.length fcap) wv W (hv.later hW) (by
    have h8 : x.fl.length ≤ 8 := by
      unfold rightA whoA rightF at hr
      simp only [Bool.and_eq_true, decide_eq_true_eq] at hr
      exact hr.1.1.1.2.1
    omega) hx.fl (ha.ms.later hW) (by have := hf.mn; omega) hf.ms
  obtain ⟨ma, mc, rfl, _, _⟩ := RdAt.shape ha.ms
  obtain ⟨ba, bc, rfl, _, _⟩ := RdAt.shape ha.bl
  have HC : Hid (countsH h x now = (rightA x && firesA x now && flowsL x.lv x.c h.f h.fc && allM x.fl h.ms)) := Lib.hid rfl
  have HRA : Hid ((whoA x.src x.fl x.lv && beginsA x.fr && endsA x.fr x.til) = rightA x) := Lib.hid rfl
  have HFA : Hid ((decide (x.fr ≤ now) && (decide (x.til = 0) || decide (now < x.til))) = firesA x now) := Lib.hid rfl
  rw [HRA.out] at k1
  rw [HFA.out] at k2
  generalize countsH h x now = R at *
  generalize rightA x = RA at *
  generalize firesA x now = FA at *
  generalize flowsL x.lv x.c h.f h.fc = FL at *
  generalize allM x.fl h.ms = AM at *
  generalize x.fl.length = fl at *
  generalize h.ms.length = mn at *
  generalize h.bl.length = bn at *
  obtain ⟨nm, f, fc, t, tc, ms, bl⟩ := h
  obtain ⟨src, fls, lv, c, fr, til⟩ := x
  dsimp only at *
  have K2 := Lib.hid k2
  have K3 := Lib.hid k3
  have K4 := Lib.hid k4
  have k1 := k1 _ (((Below.refl w.heap.size w).alloc (Nat.le_refl _) (.cells #[.string nm, .int .i64 f, .int .u32 fc, .int .i64 t, .int .u32 tc, .slice ma mn mc, .slice ba bn bc] 35)).alloc (by simp) (.cells #[.string src, .slice fa fl fcap, .int .i64 lv, .int .u32 c, .int .i64 fr, .int .i64 til] 53))
  clear ha hf hv hx k2 k3 k4 HRA HFA hfc
  go_enter Tryz.func47, Tryz.ntmps47
  go_wp2_with fail
  refine k1.mono ?_
  rintro e w1 ⟨rfl, hb1⟩
  obtain ⟨X, Y, hlt1, hB1⟩ := box76h hb1
  have X1 := Lib.hid X
  have Y1 := Lib.hid Y
  have HB1 := Lib.hid hB1
  obtain ⟨x0, x1, x2, x3, x4, x5, x6⟩ := X
  obtain ⟨y0, y1, y2, y3, y4, y5⟩ := Y
  clear hb1 k1 hB1
  cases RA with
  | false =>
    go_wp2
    go_ret
    exact ⟨by rw [HC.out]; rfl, HB1.out⟩
  | true =>
  have k2 := K2.out w1
  go_wp2_with fail
  refine k2.mono ?_
  rintro e w2 ⟨rfl, hb2⟩
  have X2 := Lib.hid (X1.out.later hb2 (by omega))
  have Y2 := Lib.hid (Y1.out.later hb2 hlt1)
  have HB2 := Lib.hid (HB1.out.trans (hb2.mono HB1.out.size))
  have hlt2 := Nat.lt_of_lt_of_le hlt1 hb2.size
  clear x0 x1 x2 x3 x4 x5 x6 y0 y1 y2 y3 y4 y5 X1 Y1 k2 hb2 HB1 hlt1
  obtain ⟨x0, x1, x2, x3, x4, x5, x6⟩ := X2.out
  obtain ⟨y0, y1, y2, y3, y4, y5⟩ := Y2.out
  cases FA with
  | false =>
    go_wp2
    go_ret
    exact ⟨by rw [HC.out]; rfl, HB2.out⟩
  | true =>
  have k3 := K3.out w2
  go_wp2_with fail
  refine k3.mono ?_
  rintro e w3 ⟨rfl, hb3⟩
  have X3 := Lib.hid (X2.out.later hb3 (by omega))
  have Y3 := Lib.hid (Y2.out.later hb3 hlt2)
  have HB3 := Lib.hid (HB2.out.trans (hb3.mono HB2.out.size))
  clear x0 x1 x2 x3 x4 x5 x6 y0 y1 y2 y3 y4 y5 X2 Y2 k3 hb3 HB2 hlt2
  obtain ⟨x0, x1, x2, x3, x4, x5, x6⟩ := X3.out
  obtain ⟨y0, y1, y2, y3, y4, y5⟩ := Y3.out
  cases FL with
  | false =>
    go_wp2
    go_ret
    exact ⟨by rw [HC.out]; rfl, HB3.out⟩
  | true =>
  have k4 := K4.out w3 HB3.out (by first | rfl | trivial)
  go_wp2_with fail
  refine k4.mono ?_
  rintro e w4 ⟨rfl, hb4⟩
  have HB4 := Lib.hid (HB3.out.trans (hb4.mono HB3.out.size))
  clear k4 hb4 x0 x1 x2 x3 x4 x5 x6 y0 y1 y2 y3 y4 y5
  go_wp2
  go_ret
  exact ⟨by rw [HC.out]; rfl, HB4.out⟩
end Go.Proofs.YtcfococinllcmaaGreat
namespace Go.Proofs.YtcfococinllcmaaGreat
open Go.RowKit

noncomputable def countN (h : Ha) (l : List (Al × Value)) (now : Int) : Nat := l.countP fun p => countsH h p.1 now
theorem countN_succ (h : Ha) (l : List (Al × Value)) (now : Int) (k : Nat) (hk : k < l.length) : countN h (l.take (k + 1)) now = countN h (l.take k) now + (if countsH h l[k].1 now = true then 1 else 0) := by
  unfold countN
  rw [List.take_succ_eq_append_getElem hk, List.countP_append, List.countP_singleton]
/-- what a hatch tells -/
noncomputable def tellV (h : Ha) (l : List (Al × Value)) (tl : Int) (tc : Nat) (now : Int) : Value :=
  if (rightH h && flowsL h.t h.tc tl tc) = true then .tuple #[.int .i64 (ofL h.bl (countN h l now) : Nat), .bool true] else .tuple #[.int .i64 0, .bool false]
theorem box72h {w W : World} {a b c d e f g a' b' : Value} {t u : TypeId} (hb : Below ((w.alloc (.cells #[a, b, c, d, e, f, g] t)).alloc (.cells #[a', b'] u)).heap.size ((w.alloc (.cells #[a, b, c, d, e, f, g] t)).alloc (.cells #[a', b'] u)) W) :
    C7 w.heap.size a b c d e f g W ∧ (W.cell? ⟨w.heap.size + 1, 0, none⟩ = some a' ∧ W.cell? ⟨w.heap.size + 1, 1, none⟩ = some b') ∧ w.heap.size + 1 < W.heap.size ∧ Below w.heap.size w W := by
  obtain ⟨h, h', h3, h4⟩ := box_two hb
  exact ⟨⟨h 0 _ rfl, h 1 _ rfl, h 2 _ rfl, h 3 _ rfl, h 4 _ rfl, h 5 _ rfl, h 6 _ rfl⟩, ⟨h' 0 _ rfl, h' 1 _ rfl⟩, h3, h4⟩
set_option maxHeartbeats 3200000 in
set_option maxRecDepth 100000 in
theorem tell_any (h : Ha) (wv bv : Value) (l : List (Al × Value)) (lv : Value) (tl : Int) (tlc : Nat) (now : Int) (w : World) (ha : HaAt w h wv bv) (hf : HaFit h) (hl : AlsAt w lv l) (hn : l.length ≤ 100) :
    Calls Tryz.prog 15 #[.agg #[.string h.nm, .int .i64 h.f, .int .u32 h.fc, .int .i64 h.t, .int .u32 h.tc, wv, bv], lv, .agg #[.int .i64 tl, .int .u32 tlc], .int .i64 now] w fun e w' => e = .returned (tellV h l tl tlc now) ∧ Below w.heap.size w w' := by
  have k1 := fun W (hW : Below w.heap.size w W) => hright_any h wv bv W (ha.later hW) hf
  have k2 := fun W => flows_any h.t h.tc tl tlc W
  have k3 := fun W (hW : Below w.heap.size w W) (k : Nat) (hk : k < l.length) => counts_any h wv bv l[k].1 l[k].2 now W (ha.later hW) hf ((hl.fld _ (List.getElem_mem hk)).1.later hW) (hl.fld _ (List.getElem_mem hk)).2
  have k4 := fun W (hW : Below w.heap.size w W) (n : Nat) => of_any h.bl (n : Int) W bv (ha.bl.later hW) hf.bn
  have HC := Lib.hid (fun k hk => countN_succ h l now k hk)
  have HV : Hid (tellV h l tl tlc now = if (rightH h && flowsL h.t h.tc tl tlc) = true then .tuple #[.int .i64 (ofL h.bl (countN h l now) : Nat), .bool true] else .tuple #[.int .i64 0, .bool false]) := Lib.hid rfl
  have HSH : Hid (∀ (k : Nat) (hk : k < l.length), ∃ a n c, l[k].2 = Value.slice a n c) := Lib.hid (fun k hk => by
    obtain ⟨a, c, h, _⟩ := RdAt.shape (hl.fld _ (List.getElem_mem hk)).1
    exact ⟨a, _, c, h⟩)
  obtain ⟨la, lc, rfl, hlc, hlr⟩ := RdAt.shape hl.row
  have HLR := Lib.hid hlr
  obtain ⟨ma, mc, rfl, _, _⟩ := RdAt.shape ha.ms
  obtain ⟨ba, bc, rfl, _, _⟩ := RdAt.shape ha.bl
  have hcle : countN h l now ≤ l.length := List.countP_le_length
  have hcle2 : ∀ k, countN h (l.take k) now ≤ 100 := fun k => Nat.le_trans List.countP_le_length (by rw [List.length_take]; omega)
  have HLE := Lib.hid hcle2
  generalize tellV h l tl tlc now = R at *
  generalize rightH h = RH at *
  generalize flowsL h.t h.tc tl tlc = FL at *
  generalize h.ms.length = mn at *
  generalize h.bl.length = bn at *
  obtain ⟨nm, f, fc, t, tc, ms, bl⟩ := h
  dsimp only at *
  have K2 := Lib.hid k2
  have K3 := Lib.hid k3
  have K4 := Lib.hid k4
  have kk1 := k1 _ (((Below.refl w.heap.size w).alloc (Nat.le_refl _) (.cells #[.string nm, .int .i64 f, .int .u32 fc, .int .i64 t, .int .u32 tc, .slice ma mn mc, .slice ba bn bc] 35)).alloc (by simp) (.cells #[.int .i64 tl, .int .u32 tlc] 26))
  clear ha hf hl k1 k2 k3 k4 hcle2 hcle hlr
  go_enter Tryz.func15, Tryz.ntmps15
  go_wp2_with fail
  refine kk1.mono ?_
  rintro e w1 ⟨rfl, hb1⟩
  obtain ⟨X, ⟨y0, y1⟩, hlt1, hB1⟩ := box72h hb1
  have X1 := Lib.hid X
  have HB1 := Lib.hid hB1
  obtain ⟨x0, x1, x2, x3, x4, x5, x6⟩ := X
  clear hb1 kk1 hB1
  cases RH with
  | false =>
    go_wp2
    go_ret2
    exact ⟨by rw [HV.out]; rfl, HB1.out⟩
  | true =>
  have k2 := K2.out w1
  go_wp2_with fail
  refine k2.mono ?_
  rintro e w2 ⟨rfl, hb2⟩
  have X2 := Lib.hid (X1.out.later hb2 (by omega))
  have HB2 := Lib.hid (HB1.out.trans (hb2.mono HB1.out.size))
  have hlt2 := Nat.lt_of_lt_of_le hlt1 hb2.size
  clear x0 x1 x2 x3 x4 x5 x6 y0 y1 X1 k2 hb2 HB1 hlt1
  cases FL with
  | false =>
    go_wp2
    go_ret2
    exact ⟨by rw [HV.out]; rfl, HB2.out⟩
  | true =>
  go_upto_region 5 with fail
  go_loopw [10, 12, 25] (fun n _ i wr => ∃ k : Nat, k ≤ l.length ∧ n = .int .i64 (countN ⟨nm, f, fc, t, tc, ms, bl⟩ (l.take k) now : Nat) ∧ i = .int .i64 k ∧ Hid (C7 w.heap.size (.string nm) (.int .i64 f) (.int .u32 fc) (.int .i64 t) (.int .u32 tc) (.slice ma mn mc) (.slice ba bn bc) wr) ∧ w.heap.size + 1 < wr.heap.size ∧ Hid (Below w.heap.size w wr)) (fun _ _ i _ => l.length - (intOf i).toNat)
  case atStart => exact ⟨0, Nat.zero_le _, rfl, rfl, X2, hlt2, HB2⟩
  case round =>
    obtain ⟨k, hk, rfl, rfl, XR, hltr, HBR⟩ := hrel
    clear X2 HB2 hlt2
    by_cases hkl : k < l.length
    · obtain ⟨b, o, rfl, hbl, hcell⟩ := HLR.out (by omega)
      have hat := alCells_at l k hkl
      have q0 := keep_cell (hcell _ _ (hat 0 _ rfl)) HBR.out hbl
      have q1 := keep_cell (hcell _ _ (hat 1 _ rfl)) HBR.out hbl
      have q2 := keep_cell (hcell _ _ (hat 2 _ rfl)) HBR.out hbl
      have q3 := keep_cell (hcell _ _ (hat 3 _ rfl)) HBR.out hbl
      have q4 := keep_cell (hcell _ _ (hat 4 _ rfl)) HBR.out hbl
      have q5 := keep_cell (hcell _ _ (hat 5 _ rfl)) HBR.out hbl
      rw [Nat.add_zero] at q0
      rw [← Nat.add_assoc] at q1 q2 q3 q4 q5
      have K3k := Lib.hid (fun W hW => K3.out W hW k hkl)
      have HCk := Lib.hid (HC.out k hkl)
      have hle := HLE.out k
      generalize countN ⟨nm, f, fc, t, tc, ms, bl⟩ (l.take k) now = N at *
      obtain ⟨va, vn, vc, hsh⟩ := HSH.out k hkl
      rw [hsh] at q1 K3k
      clear hsh
      generalize countsH ⟨nm, f, fc, t, tc, ms, bl⟩ l[k].1 now = cb at *
      generalize l[k].1 = A at *
      obtain ⟨src, fls, alv, ac, afr, atil⟩ := A
      dsimp only at *
      have hk0 : (0 : Int) ≤ (k : Int) := by omega
      have hk1 : (k : Int) < (l.length : Int) := by omega
      clear hcell hat
      clear HC HLE
      go_upto_region 7 with fail
      have hba : Below wr.heap.size wr (wr.alloc (.cells #[.string src, .slice va vn vc, .int .i64 alv, .int .u32 ac, .int .i64 afr, .int .i64 atil] 53)) := alloc_below _ _
      have X' := XR.out.later hba (by omega)
      have hc : ∀ (i : Nat), (wr.alloc (.cells #[.string src, .slice va vn vc, .int .i64 alv, .int .u32 ac, .int .i64 afr, .int .i64 atil] 53)).cell? ⟨wr.heap.size, i, none⟩ = _ := fun i => World.cell?_alloc_at _ _ _ _ rfl
      have a0 := hc 0
      have a1 := hc 1
      have a2 := hc 2
      have a3 := hc 3
      have a4 := hc 4
      have a5 := hc 5
      have hbn := HBR.out.trans (hba.mono HBR.out.size)
      have hsz := hba.size
      clear q0 q1 q2 q3 q4 q5 hc HBR
      generalize wr.alloc (.cells #[.string src, .slice va vn vc, .int .i64 alv, .int .u32 ac, .int .i64 afr, .int .i64 atil] 53) = wa at *
      change wa.cell? _ = some (.string src) at a0
      change wa.cell? _ = some (.slice va vn vc) at a1
      change wa.cell? _ = some (.int .i64 alv) at a2
      change wa.cell? _ = some (.int .u32 ac) at a3
      change wa.cell? _ = some (.int .i64 afr) at a4
      change wa.cell? _ = some (.int .i64 atil) at a5
      have XA := Lib.hid X'
      obtain ⟨x0, x1, x2, x3, x4, x5, x6⟩ := X'
      have k3 := K3k.out wa hbn
      have HBN := Lib.hid hbn
      clear hbn
      go_wp2_with fail
      refine k3.mono ?_
      rintro e w3 ⟨rfl, hb3⟩
      have XN := Lib.hid (XA.out.later hb3 (by omega))
      have HBM := Lib.hid (HBN.out.trans (hb3.mono HBN.out.size))
      have hlt3 : w.heap.size + 1 < w3.heap.size := by have := hb3.size; omega
      clear x0 x1 x2 x3 x4 x5 x6 a0 a1 a2 a3 a4 a5 k3 XA hb3 hba
      cases cb with
      | true =>
        rw [if_pos rfl] at HCk
        go_wp2
        go_roundw
        case rel => exact ⟨k + 1, by omega, by rw [HCk.out]; go_num, by go_num, XN, hlt3, HBM⟩
        case measure => (simp [intOf]; try omega)
      | false =>
        rw [if_neg (by decide), Nat.add_zero] at HCk
        go_wp2
        go_roundw
        case rel => exact ⟨k + 1, by omega, by rw [HCk.out]; rfl, by go_num, XN, hlt3, HBM⟩
        case measure => (simp [intOf]; try omega)
    · obtain rfl : k = l.length := by omega
      rw [List.take_length]
      have k4 := K4.out wr HBR.out (countN ⟨nm, f, fc, t, tc, ms, bl⟩ l now)
      generalize countN ⟨nm, f, fc, t, tc, ms, bl⟩ l now = N at *
      obtain ⟨x0, x1, x2, x3, x4, x5, x6⟩ := XR.out
      generalize ofL bl (N : Int) = ON at *
      clear HC HLE
      go_wp2_with fail
      refine k4.mono ?_
      rintro e w3 ⟨rfl, hb3⟩
      have HB3 := Lib.hid (HBR.out.trans (hb3.mono HBR.out.size))
      clear k4 hb3 x0 x1 x2 x3 x4 x5 x6
      go_wp2
      go_ret2
      exact ⟨by rw [HV.out]; rfl, HB3.out⟩
end Go.Proofs.YtcfococinllcmaaGreat
