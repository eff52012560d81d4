/- Several parts in one: bucket.Tell at the one alert of lives; lychgatelaw22.lives is true. lychgatelaw22.lives is true. -/
import Derived.Test.YtcfococinllcmaaBkTell
namespace Go.Proofs.Ytcfococinllcmaa
open Go.RowKit

set_option maxHeartbeats 1600000 in
set_option maxRecDepth 100000 in
theorem hatch_good (nm : ByteArray) (f : Int) (fc : Nat) (t : Int) (tc : Nat) (bv : Value) (bl : List Int) (w : World) (hs : nm.size ≤ maxLen) (hn : nameL (B nm) = true) (hf : rightL f = true) (ht : rightL t = true) (hv : IntsAt w bv bl) (hl : bl.length ≤ 1000) (hb : fineL bl = true) :
    Calls Try.prog 12 #[.agg #[.string nm, .int .i64 f, .int .u32 fc, .int .i64 t, .int .u32 tc, .slice none 0 0, bv]] w fun e w' => e = .returned (.bool true) ∧ Below w.heap.size w w' := by
  have k1 := fun W => name_any nm W hs
  have k2 := right_any f fc
  have k3 := right_any t tc
  have k4 := fun W (h : Below w.heap.size w W) => fine_any bl W bv (hv.later h) hl
  rw [hn] at k1
  rw [hf] at k2
  rw [ht] at k3
  rw [hb] at k4
  obtain ⟨ba, bc, rfl, _, _⟩ := RdAt.shape hv
  have K4 := Lib.hid k4
  clear hn hf ht hb hv k4
  go_enter Try.func12, Try.ntmps12
  go_wp2_with fail
  refine (k1 _).mono ?_
  rintro e w1 ⟨rfl, hb1⟩
  obtain ⟨x, hlt1, hB1⟩ := box7 hb1
  have X1 : Hid (C7 w.heap.size _ _ _ _ _ _ _ w1) := Lib.hid x
  obtain ⟨x0, x1, x2, x3, x4, x5, x6⟩ := x
  clear hb1 k1
  go_wp2_with fail
  refine (k2 _).mono ?_
  rintro e w2 ⟨rfl, hb2⟩
  have X := X1.out.later hb2 hlt1
  have X2 := Lib.hid X
  have hB2 := hB1.trans (hb2.mono hB1.size)
  have hlt2 := Nat.lt_of_lt_of_le hlt1 hb2.size
  clear x0 x1 x2 x3 x4 x5 x6 X1 k2 hb2 hB1 hlt1
  obtain ⟨x0, x1, x2, x3, x4, x5, x6⟩ := X
  go_wp2_with fail
  refine (k3 _).mono ?_
  rintro e w3 ⟨rfl, hb3⟩
  have X := X2.out.later hb3 hlt2
  have X3 := Lib.hid X
  have hB3 := hB2.trans (hb3.mono hB2.size)
  have hlt3 := Nat.lt_of_lt_of_le hlt2 hb3.size
  clear x0 x1 x2 x3 x4 x5 x6 X2 k3 hb3 hB2 hlt2
  obtain ⟨x0, x1, x2, x3, x4, x5, x6⟩ := X
  go_wp2_with fail
  refine (hasm_nil _ _).mono ?_
  rintro e w4 ⟨rfl, hb4⟩
  have X := X3.out.later hb4 hlt3
  have hB4 := hB3.trans (hb4.mono hB3.size)
  have k4 := K4.out w4 hB4
  clear x0 x1 x2 x3 x4 x5 x6 X3 hb4 hB3 hlt3 K4
  obtain ⟨x0, x1, x2, x3, x4, x5, x6⟩ := X
  go_wp2_with fail
  refine k4.mono ?_
  rintro e w5 ⟨rfl, hb5⟩
  have hB5 := hB4.trans (hb5.mono hB4.size)
  clear x0 x1 x2 x3 x4 x5 x6 hb5 hB4 k4
  go_wp2
  go_ret
  exact ⟨rfl, hB5⟩

theorem box76 {w W : World} {a b c d e f g a' b' c' d' e' f' : Value} {t u : TypeId} (hb : Below ((w.alloc (.cells #[a, b, c, d, e, f, g] t)).alloc (.cells #[a', b', c', d', e', f'] u)).heap.size ((w.alloc (.cells #[a, b, c, d, e, f, g] t)).alloc (.cells #[a', b', c', d', e', f'] u)) W) :
    C7 w.heap.size a b c d e f g W ∧ C6 (w.heap.size + 1) a' b' c' d' e' f' W ∧ w.heap.size + 1 < W.heap.size ∧ Below w.heap.size w W := by
  obtain ⟨h, h', h3, h4⟩ := box_two hb
  exact ⟨⟨h 0 _ rfl, h 1 _ rfl, h 2 _ rfl, h 3 _ rfl, h 4 _ rfl, h 5 _ rfl, h 6 _ rfl⟩, ⟨h' 0 _ rfl, h' 1 _ rfl, h' 2 _ rfl, h' 3 _ rfl, h' 4 _ rfl, h' 5 _ rfl⟩, h3, h4⟩
set_option maxHeartbeats 1600000 in
set_option maxRecDepth 100000 in
theorem counts_good (nm : ByteArray) (f : Int) (fc : Nat) (t : Int) (tc : Nat) (ba : Option Addr) (bn bc : Nat) (src : ByteArray) (l : List Fld) (v : Value) (lv : Int) (c : Nat) (w : World) (hs : src.size ≤ maxLen) (hn : nameL (B src) = true) (hv : FldsAt w v l) (hfit : FldsFit l) (h0 : 0 < l.length) (hl : l.length ≤ 8) (hr : rightF l = true) (hL : rightL lv = true) (hfl : flowsL lv c f fc = true) :
    Calls Try.prog 40 #[.agg #[.string nm, .int .i64 f, .int .u32 fc, .int .i64 t, .int .u32 tc, .slice none 0 0, .slice ba bn bc], .agg #[.string src, v, .int .i64 lv, .int .u32 c, .int .i64 0, .int .i64 0], .int .i64 0] w fun e w' => e = .returned (.bool true) ∧ Below w.heap.size w w' := by
  have k1 := fun W (h : Below w.heap.size w W) => aright_good src l v lv c W hs hn (hv.later h) hfit h0 hl hr hL
  obtain ⟨fa, fcap, rfl, hfc, _⟩ := RdAt.shape hv
  have k2 := fires_good src fa l.length fcap lv c
  have k3 := flows_any lv c f fc
  have k4 := fun W => allm_nil (.slice fa l.length fcap) W fa l.length fcap rfl
  rw [hfl] at k3
  have k1 := k1 _ (((Below.refl w.heap.size w).alloc (Nat.le_refl _) (.cells #[.string nm, .int .i64 f, .int .u32 fc, .int .i64 t, .int .u32 tc, .slice none 0 0, .slice ba bn bc] 34)).alloc (by simp) (.cells #[.string src, .slice fa l.length fcap, .int .i64 lv, .int .u32 c, .int .i64 0, .int .i64 0] 41))
  generalize l.length = n at *
  clear hn hv hfit h0 hl hr hL hfl hfc
  go_enter Try.func40, Try.ntmps40
  go_wp2_with fail
  refine k1.mono ?_
  rintro e w1 ⟨rfl, hb1⟩
  obtain ⟨X, Y, hlt1, hB1⟩ := box76 hb1
  have X1 := Lib.hid X
  have Y1 := Lib.hid Y
  obtain ⟨x0, x1, x2, x3, x4, x5, x6⟩ := X
  obtain ⟨y0, y1, y2, y3, y4, y5⟩ := Y
  clear hb1 k1
  go_wp2_with fail
  refine (k2 _).mono ?_
  rintro e w2 ⟨rfl, hb2⟩
  have X := X1.out.later hb2 (by omega)
  have Y := Y1.out.later hb2 hlt1
  have X2 := Lib.hid X
  have Y2 := Lib.hid Y
  have hB2 := hB1.trans (hb2.mono hB1.size)
  have hlt2 := Nat.lt_of_lt_of_le hlt1 hb2.size
  clear x0 x1 x2 x3 x4 x5 x6 y0 y1 y2 y3 y4 y5 X1 Y1 k2 hb2 hB1 hlt1
  obtain ⟨x0, x1, x2, x3, x4, x5, x6⟩ := X
  obtain ⟨y0, y1, y2, y3, y4, y5⟩ := Y
  go_wp2_with fail
  refine (k3 _).mono ?_
  rintro e w3 ⟨rfl, hb3⟩
  have X := X2.out.later hb3 (by omega)
  have Y := Y2.out.later hb3 hlt2
  have hB3 := hB2.trans (hb3.mono hB2.size)
  clear x0 x1 x2 x3 x4 x5 x6 y0 y1 y2 y3 y4 y5 X2 Y2 k3 hb3 hB2 hlt2
  obtain ⟨x0, x1, x2, x3, x4, x5, x6⟩ := X
  obtain ⟨y0, y1, y2, y3, y4, y5⟩ := Y
  go_wp2_with fail
  refine (k4 _).mono ?_
  rintro e w4 ⟨rfl, hb4⟩
  have hB4 := hB3.trans (hb4.mono hB3.size)
  clear x0 x1 x2 x3 x4 x5 x6 y0 y1 y2 y3 y4 y5 k4 hb4 hB3
  go_wp2
  go_ret
  exact ⟨rfl, hB4⟩

theorem box72 {w W : World} {a b c d e f g a' b' : Value} {t u : TypeId} (hb : Below ((w.alloc (.cells #[a, b, c, d, e, f, g] t)).alloc (.cells #[a', b'] u)).heap.size ((w.alloc (.cells #[a, b, c, d, e, f, g] t)).alloc (.cells #[a', b'] u)) W) :
    C7 w.heap.size a b c d e f g W ∧ (W.cell? ⟨w.heap.size + 1, 0, none⟩ = some a' ∧ W.cell? ⟨w.heap.size + 1, 1, none⟩ = some b') ∧ w.heap.size + 1 < W.heap.size ∧ Below w.heap.size w W := by
  obtain ⟨h, h', h3, h4⟩ := box_two hb
  exact ⟨⟨h 0 _ rfl, h 1 _ rfl, h 2 _ rfl, h 3 _ rfl, h 4 _ rfl, h 5 _ rfl, h 6 _ rfl⟩, ⟨h' 0 _ rfl, h' 1 _ rfl⟩, h3, h4⟩
set_option maxHeartbeats 1600000 in
set_option maxRecDepth 100000 in
theorem tell_one (nm : ByteArray) (f : Int) (fc : Nat) (t : Int) (tc : Nat) (bv : Value) (bl : List Int) (q : Nat) (src : ByteArray) (l : List Fld) (v : Value) (lv : Int) (c : Nat) (w : World)
    (hsn : nm.size ≤ maxLen) (hnn : nameL (B nm) = true) (hf : rightL f = true) (ht : rightL t = true) (hbv : IntsAt w bv bl) (hbl : bl.length ≤ 1000) (hbf : fineL bl = true) (hto : flowsL t tc 0 0 = true)
    (hs : src.size ≤ maxLen) (hn : nameL (B src) = true) (hv : FldsAt w v l) (hfit : FldsFit l) (h0 : 0 < l.length) (hl : l.length ≤ 8) (hr : rightF l = true) (hL : rightL lv = true) (hfl : flowsL lv c f fc = true)
    (hq : C6 q (.string src) v (.int .i64 lv) (.int .u32 c) (.int .i64 0) (.int .i64 0) w) (hqlt : q < w.heap.size) :
    Calls Try.prog 11 #[.agg #[.string nm, .int .i64 f, .int .u32 fc, .int .i64 t, .int .u32 tc, .slice none 0 0, bv], .slice (some ⟨q, 0, none⟩) 1 1, .agg #[.int .i64 0, .int .u32 0], .int .i64 0] w
      fun e w' => e = .returned (.tuple #[.int .i64 (ofL bl 1 : Nat), .bool true]) ∧ Below w.heap.size w w' := by
  have k1 := fun W (h : Below w.heap.size w W) => hatch_good nm f fc t tc bv bl W hsn hnn hf ht (hbv.later h) hbl hbf
  have k2 := flows_any t tc 0 0
  rw [hto] at k2
  obtain ⟨ba, bc, rfl, _, _⟩ := RdAt.shape hbv
  have k3 := fun W (h : Below w.heap.size w W) => counts_good nm f fc t tc ba bl.length bc src l v lv c W hs hn (hv.later h) hfit h0 hl hr hL hfl
  have k4 := fun W (h : Below w.heap.size w W) => of_any bl 1 W _ (hbv.later h) hbl
  obtain ⟨fa, fcap, rfl, hfc, _⟩ := RdAt.shape hv
  have k1 := k1 _ (((Below.refl w.heap.size w).alloc (Nat.le_refl _) (.cells #[.string nm, .int .i64 f, .int .u32 fc, .int .i64 t, .int .u32 tc, .slice none 0 0, .slice ba bl.length bc] 34)).alloc (by simp) (.cells #[.int .i64 0, .int .u32 0] 24))
  generalize l.length = nl at *
  generalize ofL bl 1 = R at *
  generalize bl.length = nb at *
  have K3 := Lib.hid k3
  have K4 := Lib.hid k4
  clear hsn hnn hf ht hbv hbl hbf hto hs hn hv hfit h0 hl hr hL hfl hfc k3 k4
  go_enter Try.func11, Try.ntmps11
  go_wp2_with fail
  refine k1.mono ?_
  rintro e w1 ⟨rfl, hb1⟩
  obtain ⟨X, ⟨y0, y1⟩, hlt1, hB1⟩ := box72 hb1
  have X1 := Lib.hid X
  obtain ⟨x0, x1, x2, x3, x4, x5, x6⟩ := X
  clear hb1 k1
  go_wp2_with fail
  refine (k2 _).mono ?_
  rintro e w2 ⟨rfl, hb2⟩
  have X := X1.out.later hb2 (by omega)
  have X2 := Lib.hid X
  have hB2 := hB1.trans (hb2.mono hB1.size)
  have hlt2 := Nat.lt_of_lt_of_le hlt1 hb2.size
  clear x0 x1 x2 x3 x4 x5 x6 y0 y1 X1 k2 hb2 hB1 hlt1 X
  have HQ := Lib.hid hq
  clear hq
  go_wp2
  go_loopw [10, 25] (fun n i wr => ∃ k : Nat, k ≤ 1 ∧ n = .int .i64 k ∧ i = .int .i64 k ∧ Hid (C7 w.heap.size (.string nm) (.int .i64 f) (.int .u32 fc) (.int .i64 t) (.int .u32 tc) (.slice none 0 0) (.slice ba nb bc) wr) ∧ w.heap.size + 1 < wr.heap.size ∧ Below w.heap.size w wr) (fun _ i _ => 1 - (intOf i).toNat)
  case atStart => exact ⟨0, Nat.zero_le _, rfl, rfl, X2, hlt2, hB2⟩
  case round =>
    obtain ⟨k, hk, rfl, rfl, XR, hltr, hbr⟩ := hrel
    rcases Nat.lt_or_ge k 1 with hk1 | hk1
    · obtain rfl : k = 0 := by omega
      have Q := HQ.out.later hbr hqlt
      have X := XR.out
      obtain ⟨q0, q1, q2, q3, q4, q5⟩ := Q
      go_upto_region 7 with fail
      have hba : Below wr.heap.size wr (wr.alloc (.cells #[.string src, .slice fa nl fcap, .int .i64 lv, .int .u32 c, .int .i64 0, .int .i64 0] 41)) := alloc_below _ _
      have X' := X.later hba (by omega)
      have hc : ∀ (i : Nat), (wr.alloc (.cells #[.string src, .slice fa nl fcap, .int .i64 lv, .int .u32 c, .int .i64 0, .int .i64 0] 41)).cell? ⟨wr.heap.size, i, none⟩ = _ := fun i => World.cell?_alloc_at _ _ _ _ rfl
      have a0 := hc 0
      have a1 := hc 1
      have a2 := hc 2
      have a3 := hc 3
      have a4 := hc 4
      have a5 := hc 5
      have hbn := hbr.trans (hba.mono hbr.size)
      have hsz := hba.size
      clear q0 q1 q2 q3 q4 q5 hc hbr
      generalize wr.alloc (.cells #[.string src, .slice fa nl fcap, .int .i64 lv, .int .u32 c, .int .i64 0, .int .i64 0] 41) = wa at *
      change wa.cell? _ = some (.string src) at a0
      change wa.cell? _ = some (.slice fa nl fcap) at a1
      change wa.cell? _ = some (.int .i64 lv) at a2
      change wa.cell? _ = some (.int .u32 c) at a3
      change wa.cell? _ = some (.int .i64 0) at a4
      change wa.cell? _ = some (.int .i64 0) at a5
      have XA := Lib.hid X'
      obtain ⟨x0, x1, x2, x3, x4, x5, x6⟩ := X'
      have k3 := K3.out wa hbn
      go_wp2_with fail
      refine k3.mono ?_
      rintro e w3 ⟨rfl, hb3⟩
      have XN := Lib.hid (XA.out.later hb3 (by omega))
      have hbm := hbn.trans (hb3.mono hbn.size)
      have hlt3 : w.heap.size + 1 < w3.heap.size := by have := hb3.size; omega
      clear x0 x1 x2 x3 x4 x5 x6 a0 a1 a2 a3 a4 a5 k3 XA
      go_wp2
      go_roundw
      case rel => exact ⟨0 + 1, by omega, by go_num, by go_num, XN, hlt3, hbm⟩
      case measure => (simp [intOf]; try omega)
    · obtain rfl : k = 1 := by omega
      have X := XR.out
      have k4 := K4.out wr hbr
      obtain ⟨x0, x1, x2, x3, x4, x5, x6⟩ := X
      go_wp2_with fail
      refine k4.mono ?_
      rintro e w3 ⟨rfl, hb3⟩
      go_wp2
      go_ret2
      exact ⟨rfl, hbr.trans (hb3.mono hbr.size)⟩
end Go.Proofs.Ytcfococinllcmaa
namespace Go.Proofs.Ytcfococinllcmaa
open Go.RowKit

theorem ints_two (w : World) (x y : Int) (t : TypeId) : IntsAt (w.alloc (.cells #[I x, I y] t)) (.slice (some ⟨w.heap.size, 0, none⟩) 2 2) [x, y] := by
  have hc : ∀ (i : Nat), (w.alloc (.cells #[I x, I y] t)).cell? ⟨w.heap.size, i, none⟩ = _ := fun i => World.cell?_alloc_at _ _ _ _ rfl
  refine RdAt.mk rfl (Nat.le_refl _) (by rw [World.size_alloc]; omega) (fun j z hj => ?_)
  rw [Nat.zero_add]
  match j, hj with
  | 0, hj => exact (hc 0).trans hj
  | 1, hj => exact (hc 1).trans hj
  | j + 2, hj => simp at hj
theorem flds_one (w : World) (x y : ByteArray) (t : TypeId) : FldsAt (w.alloc (.cells #[.string x, .string y] t)) (.slice (some ⟨w.heap.size, 0, none⟩) 1 1) [(x, y)] := by
  have hc : ∀ (i : Nat), (w.alloc (.cells #[.string x, .string y] t)).cell? ⟨w.heap.size, i, none⟩ = _ := fun i => World.cell?_alloc_at _ _ _ _ rfl
  refine RdAt.mk rfl (Nat.le_refl _) (by rw [World.size_alloc]; omega) (fun j z hj => ?_)
  rw [Nat.zero_add]
  match j, hj with
  | 0, hj => exact (hc 0).trans hj
  | 1, hj => exact (hc 1).trans hj
  | j + 2, hj => simp [fldCells] at hj
abbrev exB : List Int := [1, 10]
theorem exRange : rangeV exB 1 = .tuple #[.int .i64 1, .int .i64 9, .bool true] := by
  rw [show (1 : Int) = ((1 : Nat) : Int) from rfl, rangeV_good (by decide) (by decide)]; rfl
theorem exOf0 : ofL exB 0 = 0 := by decide
theorem exOf1 : ofL exB 1 = 1 := by decide
theorem exOf9 : ofL exB 9 = 1 := by decide
theorem exOf10 : ofL exB 10 = 2 := by decide
theorem exFine : fineL exB = true := by decide

set_option maxHeartbeats 1600000 in
set_option maxRecDepth 100000 in
theorem lives_any (w : World) : Calls Try.prog 8 #[] w fun e w' => e = .returned (.bool true) ∧ Below w.heap.size w w' := by
  have k1 := range_any exB 1 _ _ (ints_two w 1 10 3) (by decide)
  rw [exRange] at k1
  have hb0 := alloc_below w (.cells #[I 1, I 10] 3)
  have hi0 := ints_two w 1 10 3
  go_enter Try.func8, Try.ntmps8
  go_wp2_with fail
  refine k1.mono ?_
  rintro e w1 ⟨rfl, hb1⟩
  have hi1 := hi0.later hb1
  have hB1 : Below w.heap.size w w1 := hb0.trans (hb1.mono hb0.size)
  clear k1 hb0 hi0 hb1
  have HI1 := Lib.hid hi1
  clear hi1
  have k2 : ∀ W2 W3 W4, W2 = w1.alloc (.cells #[.string ⟨#[109, 97, 110, 121]⟩, .int .i64 5, .int .u32 0, .int .i64 0, .int .u32 0, .slice none 0 0, .slice (some ⟨w.heap.size, 0, none⟩) 2 2] 34) →
      W3 = W2.alloc (.cells #[.string ⟨#[97]⟩, .string ⟨#[]⟩] 63) →
      W4 = W3.alloc (.cells #[.string ⟨#[112, 114, 111, 109]⟩, .slice (some ⟨w1.heap.size + 1, 0, none⟩) 1 1, .int .i64 4, .int .u32 0, .int .i64 0, .int .i64 0] 41) →
      Calls Try.prog 11 #[.agg #[.string ⟨#[109, 97, 110, 121]⟩, .int .i64 5, .int .u32 0, .int .i64 0, .int .u32 0, .slice none 0 0, .slice (some ⟨w.heap.size, 0, none⟩) 2 2], .slice (some ⟨w1.heap.size + 1 + 1, 0, none⟩) 1 1, .agg #[.int .i64 0, .int .u32 0], .int .i64 0] W4
        fun e w' => e = .returned (.tuple #[.int .i64 1, .bool true]) ∧ Below w.heap.size w w' ∧ IntsAt w' (.slice (some ⟨w.heap.size, 0, none⟩) 2 2) exB := by
    intro W2 W3 W4 h2 h3 h4
    have b2 : Below w1.heap.size w1 W2 := by rw [h2]; exact alloc_below _ _
    have b3 : Below W2.heap.size W2 W3 := by rw [h3]; exact alloc_below _ _
    have b4 : Below W3.heap.size W3 W4 := by rw [h4]; exact alloc_below _ _
    have s2 : W2.heap.size = w1.heap.size + 1 := by rw [h2, World.size_alloc]
    have s3 : W3.heap.size = w1.heap.size + 1 + 1 := by rw [h3, World.size_alloc, s2]
    have hfl : FldsAt W3 (.slice (some ⟨w1.heap.size + 1, 0, none⟩) 1 1) [(⟨#[97]⟩, ⟨#[]⟩)] := by
      have := flds_one W2 ⟨#[97]⟩ ⟨#[]⟩ 63
      rw [s2, ← h3] at this
      exact this
    have hi4 := ((HI1.out.later b2).later b3).later b4
    have bw4 : Below w.heap.size w W4 := ((hB1.trans (b2.mono hB1.size)).trans (b3.mono (by have := hB1.size; omega))).trans (b4.mono (by have := hB1.size; omega))
    have hc : ∀ (i : Nat), W4.cell? ⟨w1.heap.size + 1 + 1, i, none⟩ = (#[.string ⟨#[112, 114, 111, 109]⟩, .slice (some ⟨w1.heap.size + 1, 0, none⟩) 1 1, .int .i64 4, .int .u32 0, .int .i64 0, .int .i64 0] : Array Value)[i]? := fun i => by rw [h4]; exact World.cell?_alloc_at _ _ _ _ s3.symm
    have h := tell_one ⟨#[109, 97, 110, 121]⟩ 5 0 0 0 (.slice (some ⟨w.heap.size, 0, none⟩) 2 2) exB (w1.heap.size + 1 + 1) ⟨#[112, 114, 111, 109]⟩ [(⟨#[97]⟩, ⟨#[]⟩)] (.slice (some ⟨w1.heap.size + 1, 0, none⟩) 1 1) 4 0 W4
      (by decide) (by decide +kernel) (by decide) (by decide) hi4 (by decide) exFine (by decide +kernel) (by decide) (by decide +kernel) (hfl.later b4) (fun f hf => by rw [List.mem_singleton] at hf; subst hf; decide) (by decide) (by decide) (by decide +kernel) (by decide) (by decide +kernel)
      ⟨hc 0, hc 1, hc 2, hc 3, hc 4, hc 5⟩ (by rw [h4, World.size_alloc]; omega)
    rw [exOf1] at h
    refine h.mono ?_
    rintro e w' ⟨rfl, hb⟩
    exact ⟨rfl, bw4.trans (hb.mono bw4.size), hi4.later hb⟩
  have k2 := k2 _ _ _ rfl rfl rfl
  clear hB1 HI1
  go_wp2_with fail
  refine k2.mono ?_
  rintro e w2 ⟨rfl, hb2, hi2⟩
  clear k2
  have k3 := of_any exB 0 w2 _ hi2 (by decide)
  rw [exOf0] at k3
  have HI2 := Lib.hid hi2
  clear hi2
  go_wp2_with fail
  refine k3.mono ?_
  rintro e w3 ⟨rfl, hb3⟩
  have hb3' := hb2.trans (hb3.mono hb2.size)
  have HI3 := Lib.hid (HI2.out.later hb3)
  have k4 := of_any exB 9 w3 _ HI3.out (by decide)
  rw [exOf9] at k4
  clear k3 hb3 hb2 HI2
  go_wp2_with fail
  refine k4.mono ?_
  rintro e w4 ⟨rfl, hb4⟩
  have hb4' := hb3'.trans (hb4.mono hb3'.size)
  have HI4 := Lib.hid (HI3.out.later hb4)
  have k5 := of_any exB 10 w4 _ HI4.out (by decide)
  rw [exOf10] at k5
  clear k4 hb4 hb3' HI3
  go_wp2_with fail
  refine k5.mono ?_
  rintro e w5 ⟨rfl, hb5⟩
  have hb5' := hb4'.trans (hb5.mono hb4'.size)
  clear k5 hb5 hb4' HI4
  go_wp2
  go_ret
  exact ⟨rfl, hb5'⟩
end Go.Proofs.Ytcfococinllcmaa
