/- bucket.Tell at the one alert of lives. -/
import Derived.Test.YtebgcicpokpelaaBkOf
import Derived.Test.YtebgcicpokpelaaBkRange
import Derived.Test.YtebgcicpokpelaaLabel
import Derived.Test.YtebgcicpokpelaaFields
namespace Go.Proofs.Ytebgcicpokpelaa
open Go.RowKit

theorem box6 {w W : World} {a b c d e f : Value} {t : TypeId} (hb : Below (w.alloc (.cells #[a, b, c, d, e, f] t)).heap.size (w.alloc (.cells #[a, b, c, d, e, f] t)) W) :
    (W.cell? ⟨w.heap.size, 0, none⟩ = some a ∧ W.cell? ⟨w.heap.size, 1, none⟩ = some b ∧ W.cell? ⟨w.heap.size, 2, none⟩ = some c ∧ W.cell? ⟨w.heap.size, 3, none⟩ = some d ∧ W.cell? ⟨w.heap.size, 4, none⟩ = some e ∧ W.cell? ⟨w.heap.size, 5, none⟩ = some f) ∧ w.heap.size < W.heap.size ∧ Below w.heap.size w W := by
  obtain ⟨h, h2, h3⟩ := box_cells hb
  exact ⟨⟨h 0 _ rfl, h 1 _ rfl, h 2 _ rfl, h 3 _ rfl, h 4 _ rfl, h 5 _ rfl⟩, h2, h3⟩
theorem box7 {w W : World} {a b c d e f g : Value} {t : TypeId} (hb : Below (w.alloc (.cells #[a, b, c, d, e, f, g] t)).heap.size (w.alloc (.cells #[a, b, c, d, e, f, g] t)) W) :
    (W.cell? ⟨w.heap.size, 0, none⟩ = some a ∧ W.cell? ⟨w.heap.size, 1, none⟩ = some b ∧ W.cell? ⟨w.heap.size, 2, none⟩ = some c ∧ W.cell? ⟨w.heap.size, 3, none⟩ = some d ∧ W.cell? ⟨w.heap.size, 4, none⟩ = some e ∧ W.cell? ⟨w.heap.size, 5, none⟩ = some f ∧ W.cell? ⟨w.heap.size, 6, none⟩ = some g) ∧ w.heap.size < W.heap.size ∧ Below w.heap.size w W := by
  obtain ⟨h, h2, h3⟩ := box_cells hb
  exact ⟨⟨h 0 _ rfl, h 1 _ rfl, h 2 _ rfl, h 3 _ rfl, h 4 _ rfl, h 5 _ rfl, h 6 _ rfl⟩, h2, h3⟩
/-- six cells, seven cells at a place -/
def C6 (p : Nat) (a b c d e f : Value) (W : World) : Prop := W.cell? ⟨p, 0, none⟩ = some a ∧ W.cell? ⟨p, 1, none⟩ = some b ∧ W.cell? ⟨p, 2, none⟩ = some c ∧ W.cell? ⟨p, 3, none⟩ = some d ∧ W.cell? ⟨p, 4, none⟩ = some e ∧ W.cell? ⟨p, 5, none⟩ = some f
theorem C6.later {p : Nat} {a b c d e f : Value} {W W' : World} (h : C6 p a b c d e f W) (hb : Below W.heap.size W W') (hp : p < W.heap.size) : C6 p a b c d e f W' := by
  obtain ⟨h0, h1, h2, h3, h4, h5⟩ := h
  exact ⟨keep_cell h0 hb hp, keep_cell h1 hb hp, keep_cell h2 hb hp, keep_cell h3 hb hp, keep_cell h4 hb hp, keep_cell h5 hb hp⟩
def C7 (p : Nat) (a b c d e f g : Value) (W : World) : Prop := W.cell? ⟨p, 0, none⟩ = some a ∧ W.cell? ⟨p, 1, none⟩ = some b ∧ W.cell? ⟨p, 2, none⟩ = some c ∧ W.cell? ⟨p, 3, none⟩ = some d ∧ W.cell? ⟨p, 4, none⟩ = some e ∧ W.cell? ⟨p, 5, none⟩ = some f ∧ W.cell? ⟨p, 6, none⟩ = some g
theorem C7.later {p : Nat} {a b c d e f g : Value} {W W' : World} (h : C7 p a b c d e f g W) (hb : Below W.heap.size W W') (hp : p < W.heap.size) : C7 p a b c d e f g W' := by
  obtain ⟨h0, h1, h2, h3, h4, h5, h6⟩ := h
  exact ⟨keep_cell h0 hb hp, keep_cell h1 hb hp, keep_cell h2 hb hp, keep_cell h3 hb hp, keep_cell h4 hb hp, keep_cell h5 hb hp, keep_cell h6 hb hp⟩

set_option maxHeartbeats 800000 in
theorem idxm_nil (f : Value) (w : World) : Calls Try.prog 45 #[.slice none 0 0, f] w fun e w' => e = .returned (.int .i64 (-1)) ∧ Below w.heap.size w w' := by
  go_enter Try.func45, Try.ntmps45
  go_wp2
  go_loopw [8] (fun i wr => i = .int .i64 0 ∧ Below w.heap.size w wr) (fun _ _ => 0)
  case atStart => exact ⟨rfl, Below.refl _ _⟩
  case round =>
    obtain ⟨rfl, hbr⟩ := hrel
    go_wp2
    go_ret
    exact ⟨rfl, hbr⟩
set_option maxHeartbeats 800000 in
theorem hasm_nil (f : Value) (w : World) : Calls Try.prog 28 #[.slice none 0 0, f] w fun e w' => e = .returned (.bool false) ∧ Below w.heap.size w w' := by
  go_enter Try.func28, Try.ntmps28
  go_wp2_with fail
  refine (idxm_nil _ _).mono ?_
  rintro e w1 ⟨rfl, hb1⟩
  go_wp2
  go_ret
  exact ⟨rfl, hb1⟩
set_option maxHeartbeats 800000 in
theorem allm_nil (v : Value) (w : World) (a : Option Addr) (n c : Nat) (hv : v = .slice a n c) : Calls Try.prog 41 #[v, .slice none 0 0] w fun e w' => e = .returned (.bool true) ∧ Below w.heap.size w w' := by
  subst hv
  go_enter Try.func41, Try.ntmps41
  go_wp2_with fail
  refine (hasm_nil _ _).mono ?_
  rintro e w1 ⟨rfl, hb1⟩
  obtain ⟨_, _, hB1⟩ := box1 hb1
  go_wp2
  go_ret
  exact ⟨rfl, hB1⟩
set_option maxHeartbeats 1600000 in
/-- an alert that may be, and fires from 0 on -/
theorem aright_good (src : ByteArray) (l : List Fld) (v : Value) (lv : Int) (c : Nat) (w : World) (hs : src.size ≤ maxLen) (hn : nameL (B src) = true) (hv : FldsAt w v l) (hfit : FldsFit l) (h0 : 0 < l.length) (hl : l.length ≤ 8) (hr : rightF l = true) (hL : rightL lv = true) :
    Calls Try.prog 39 #[.agg #[.string src, v, .int .i64 lv, .int .u32 c, .int .i64 0, .int .i64 0]] w fun e w' => e = .returned (.bool true) ∧ Below w.heap.size w w' := by
  have k1 := fun W => name_any src W hs
  have k2 := fun W (hb : Below w.heap.size w W) => rightf_any l W v (hv.later hb) hfit (by unfold maxLen; omega)
  have k3 := right_any lv c
  rw [hn] at k1
  rw [hr] at k2
  rw [hL] at k3
  obtain ⟨fa, fc, rfl, hfc, _⟩ := RdAt.shape hv
  have hl0 : (0 : Int) < (l.length : Int) := by omega
  have K2 := Lib.hid k2
  clear hn hr hL hv hfit k2
  go_enter Try.func39, Try.ntmps39
  go_wp2_with fail
  refine (k1 _).mono ?_
  rintro e w1 ⟨rfl, hb1⟩
  obtain ⟨x, hlt, hB1⟩ := box6 hb1
  have X1 : C6 w.heap.size _ _ _ _ _ _ w1 := x
  obtain ⟨x0, x1, x2, x3, x4, x5⟩ := x
  clear hb1 k1
  have k2 := K2.out w1 hB1
  clear K2
  go_wp2_with fail
  refine k2.mono ?_
  rintro e w2 ⟨rfl, hb2⟩
  have X2 := X1.later hb2 hlt
  have hB2 := hB1.trans (hb2.mono hB1.size)
  have hlt2 := Nat.lt_of_lt_of_le hlt hb2.size
  clear x0 x1 x2 x3 x4 x5 X1 k2 hb2 hB1 hlt
  have X2' := Lib.hid X2
  obtain ⟨x0, x1, x2, x3, x4, x5⟩ := X2
  go_wp2_with fail
  refine (k3 _).mono ?_
  rintro e w3 ⟨rfl, hb3⟩
  have X3 := X2'.out.later hb3 hlt2
  have hB3 := hB2.trans (hb3.mono hB2.size)
  clear x0 x1 x2 x3 x4 x5 X2' k3 hb3 hB2 hlt2
  obtain ⟨x0, x1, x2, x3, x4, x5⟩ := X3
  go_wp2
  go_ret
  exact ⟨rfl, hB3⟩
set_option maxHeartbeats 800000 in
theorem fires_good (src : ByteArray) (a : Option Addr) (n m : Nat) (lv : Int) (c : Nat) (w : World) :
    Calls Try.prog 40 #[.agg #[.string src, .slice a n m, .int .i64 lv, .int .u32 c, .int .i64 0, .int .i64 0], .int .i64 0] w fun e w' => e = .returned (.bool true) ∧ Below w.heap.size w w' := by
  go_enter Try.func40, Try.ntmps40
  go_wp2
  go_ret
  exact ⟨rfl, (Below.refl _ _).alloc (Nat.le_refl _) _⟩
end Go.Proofs.Ytebgcicpokpelaa
