/- bucket.Tell at the one alert of lives. -/
import Derived.Test.YtcfococinllcmaaBkOf
import Derived.Test.YtcfococinllcmaaBox2
import Derived.Test.YtcfococinllcmaaBkRangeB
import Derived.Test.YtcfococinllcmaaLabelB
import Derived.Test.YtcfococinllcmaaFields
namespace Go.Proofs.Ytcfococinllcmaa
open Go.RowKit

set_option maxHeartbeats 800000 in
theorem idxm_nil (f : Value) (w : World) : Calls Try.prog 79 #[.slice none 0 0, f] w fun e w' => e = .returned (.int .i64 (-1)) ∧ Below w.heap.size w w' := by
  go_enter Try.func79, Try.ntmps79
  go_wp2
  go_loopw [8] (fun i wr => i = .int .i64 0 ∧ Below w.heap.size w wr) (fun _ _ => 0)
  case atStart => exact ⟨rfl, Below.refl _ _⟩
  case round =>
    obtain ⟨rfl, hbr⟩ := hrel
    go_wp2
    go_ret
    exact ⟨rfl, hbr⟩
set_option maxHeartbeats 800000 in
theorem hasm_nil (f : Value) (w : World) : Calls Try.prog 45 #[.slice none 0 0, f] w fun e w' => e = .returned (.bool false) ∧ Below w.heap.size w w' := by
  go_enter Try.func45, Try.ntmps45
  go_wp2_with fail
  refine (idxm_nil _ _).mono ?_
  rintro e w1 ⟨rfl, hb1⟩
  go_wp2
  go_ret
  exact ⟨rfl, hb1⟩
set_option maxHeartbeats 800000 in
theorem allm_nil (v : Value) (w : World) (a : Option Addr) (n c : Nat) (hv : v = .slice a n c) : Calls Try.prog 75 #[v, .slice none 0 0] w fun e w' => e = .returned (.bool true) ∧ Below w.heap.size w w' := by
  subst hv
  go_enter Try.func75, Try.ntmps75
  go_wp2_with fail
  refine (hasm_nil _ _).mono ?_
  rintro e w1 ⟨rfl, hb1⟩
  obtain ⟨_, _, hB1⟩ := box1 hb1
  go_wp2
  go_ret
  exact ⟨rfl, hB1⟩
set_option maxHeartbeats 1600000 in
/-- an alert that may be, and fires from 0 on -/
theorem aright_good (src : ByteArray) (l : List Fld) (v : Value) (lv : Int) (c : Nat) (w : World) (hs : src.size ≤ maxLen) (hn : nameL (B src) = true) (hv : FldsAt w v l) (hfit : FldsFit l) (h0 : 0 < l.length) (hl : l.length ≤ 8) (hr : rightF l = true) (hL : rightL lv = true) :
    Calls Try.prog 32 #[.agg #[.string src, v, .int .i64 lv, .int .u32 c, .int .i64 0, .int .i64 0]] w fun e w' => e = .returned (.bool true) ∧ Below w.heap.size w w' := by
  have k1 := fun W => name_any src W hs
  have k2 := fun W (hb : Below w.heap.size w W) => rightf_any l W v (hv.later hb) hfit (by unfold maxLen; omega)
  have k3 := right_any lv c
  rw [hn] at k1
  rw [hr] at k2
  rw [hL] at k3
  obtain ⟨fa, fc, rfl, hfc, _⟩ := RdAt.shape hv
  have hl0 : (0 : Int) < (l.length : Int) := by omega
  have K2 := Lib.hid k2
  clear hn hr hL hv hfit k2
  go_enter Try.func32, Try.ntmps32
  go_wp2_with fail
  refine (k1 _).mono ?_
  rintro e w1 ⟨rfl, hb1⟩
  obtain ⟨x, hlt, hB1⟩ := box6 hb1
  have X1 : C6 w.heap.size _ _ _ _ _ _ w1 := x
  obtain ⟨x0, x1, x2, x3, x4, x5⟩ := x
  clear hb1 k1
  have k2 := K2.out w1 hB1
  clear K2
  go_wp2_with fail
  refine k2.mono ?_
  rintro e w2 ⟨rfl, hb2⟩
  have X2 := X1.later hb2 hlt
  have hB2 := hB1.trans (hb2.mono hB1.size)
  have hlt2 := Nat.lt_of_lt_of_le hlt hb2.size
  clear x0 x1 x2 x3 x4 x5 X1 k2 hb2 hB1 hlt
  have X2' := Lib.hid X2
  obtain ⟨x0, x1, x2, x3, x4, x5⟩ := X2
  go_wp2_with fail
  refine (k3 _).mono ?_
  rintro e w3 ⟨rfl, hb3⟩
  have X3 := X2'.out.later hb3 hlt2
  have hB3 := hB2.trans (hb3.mono hB2.size)
  clear x0 x1 x2 x3 x4 x5 X2' k3 hb3 hB2 hlt2
  obtain ⟨x0, x1, x2, x3, x4, x5⟩ := X3
  go_wp2
  go_ret
  exact ⟨rfl, hB3⟩
set_option maxHeartbeats 800000 in
theorem fires_good (src : ByteArray) (a : Option Addr) (n m : Nat) (lv : Int) (c : Nat) (w : World) :
    Calls Try.prog 29 #[.agg #[.string src, .slice a n m, .int .i64 lv, .int .u32 c, .int .i64 0, .int .i64 0], .int .i64 0] w fun e w' => e = .returned (.bool true) ∧ Below w.heap.size w w' := by
  go_enter Try.func29, Try.ntmps29
  go_wp2
  go_ret
  exact ⟨rfl, (Below.refl _ _).alloc (Nat.le_refl _) _⟩
end Go.Proofs.Ytcfococinllcmaa
