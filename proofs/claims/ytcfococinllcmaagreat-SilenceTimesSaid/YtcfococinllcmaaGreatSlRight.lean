/- silences: Right. -/
import Derived.Test.YtcfococinllcmaaGreatSlT
namespace Go.Proofs.YtcfococinllcmaaGreat
open Go.RowKit

/-- five cells at a place -/
def C5 (p : Nat) (a b c d e : Value) (W : World) : Prop := W.cell? ⟨p, 0, none⟩ = some a ∧ W.cell? ⟨p, 1, none⟩ = some b ∧ W.cell? ⟨p, 2, none⟩ = some c ∧ W.cell? ⟨p, 3, none⟩ = some d ∧ W.cell? ⟨p, 4, none⟩ = some e
theorem C5.later {p : Nat} {a b c d e : Value} {W W' : World} (h : C5 p a b c d e W) (hb : Below W.heap.size W W') : C5 p a b c d e W' := by
  obtain ⟨h0, h1, h2, h3, h4⟩ := h
  exact ⟨keep_cell h0 hb (cell_lt h0), keep_cell h1 hb (cell_lt h1), keep_cell h2 hb (cell_lt h2), keep_cell h3 hb (cell_lt h3), keep_cell h4 hb (cell_lt h4)⟩
theorem alc5 (W : World) (a b c d e : Value) (t : TypeId) : C5 W.heap.size a b c d e (W.alloc (.cells #[a, b, c, d, e] t)) := by
  have hc : ∀ (i : Nat), (W.alloc (.cells #[a, b, c, d, e] t)).cell? ⟨W.heap.size, i, none⟩ = _ := fun i => World.cell?_alloc_at _ _ _ _ rfl
  exact ⟨hc 0, hc 1, hc 2, hc 3, hc 4⟩
/-- a silence may be -/
def rightS (s : Sil) : Bool := decide (0 < s.ms.length) && decide (s.ms.length ≤ 12) && !(s.ms.any fun m => !fineM m) && decide (0 ≤ s.fr) && decide (s.fr < s.til) && decide (s.til ≤ 1099511627776) && rightL s.lv
set_option maxHeartbeats 800000 in
theorem sclos (m : Mt) (w : World) (hf : MtFit m) : Calls Tryz.prog 73 #[.agg #[.string m.nm, .int .i64 m.op, .string m.val]] w fun e w' => e = .returned (.bool (!(fineM m))) ∧ Below w.heap.size w w' := by
  have hb := alloc_below w (.cells #[.string m.nm, .int .i64 m.op, .string m.val] 108)
  have k := mfine_any m (w.alloc (.cells #[.string m.nm, .int .i64 m.op, .string m.val] 108)) hf
  have HB := Lib.hid hb
  generalize fineM m = R at *
  obtain ⟨nm, op, val⟩ := m
  dsimp only at *
  clear hf hb
  go_enter Tryz.func73, Tryz.ntmps73
  go_wp2_with fail
  refine k.mono ?_
  rintro e w1 ⟨rfl, hb1⟩
  clear k
  go_wp2
  go_ret
  exact ⟨rfl, HB.out.trans (hb1.mono HB.out.size)⟩
set_option maxHeartbeats 3200000 in
set_option maxRecDepth 100000 in
theorem sright_any (s : Sil) (w : World) (hm : MtsAt w (SV s.mv) s.ms) (hf : MtsFit s.ms) (hl : s.ms.length ≤ 1000000000000) :
    Calls Tryz.prog 36 #[s.v] w fun e w' => e = .returned (.bool (rightS s)) ∧ Below w.heap.size w w' := by
  have k4 := fun W (hW : Below w.heap.size w W) => hasm_gen s.ms hf (fun m => !(fineM m)) 73 #[] (enters_of Tryz.func73 (by kernel_rfl) rfl) (SV s.mv) W (hm.later hW) hl (fun W m hm _ => sclos m W hm)
  have HR : Hid (rightS s = (decide (0 < s.ms.length) && decide (s.ms.length ≤ 12) && !(s.ms.any fun m => !fineM m) && decide (0 ≤ s.fr) && decide (s.fr < s.til) && decide (s.til ≤ 1099511627776) && rightL s.lv)) := Lib.hid rfl
  obtain ⟨ma, mc, e, _, _⟩ := RdAt.shape hm
  have hb0 := alloc_below w (.cells #[.slice s.mv.1 s.mv.2.1 s.mv.2.2, .int .i64 s.fr, .int .i64 s.til, .int .i64 s.lv, .int .u32 s.c] 67)
  have x := alc5 w (.slice s.mv.1 s.mv.2.1 s.mv.2.2) (.int .i64 s.fr) (.int .i64 s.til) (.int .i64 s.lv) (.int .u32 s.c) 67
  unfold Sil.v
  simp only [SV] at e k4
  rw [e] at x hb0 k4 ⊢
  generalize rightS s = R at *
  generalize (s.ms.any fun m => !fineM m) = AN at *
  generalize s.ms.length = mn at *
  obtain ⟨id, mv, ms, fr, til, lv, c⟩ := s
  dsimp only at *
  have K4 := Lib.hid k4
  have X0 := Lib.hid x
  have HB0 := Lib.hid hb0
  have k5 := fun W => right_any lv c W
  have K5 := Lib.hid k5
  generalize rightL lv = RL at *
  clear hm hf k4 k5 x hb0 e
  go_enter Tryz.func36, Tryz.ntmps36
  go_upto_region 2 with fail
  change Code.wp _ _ _ _ (w.alloc (.cells #[.slice ma mn mc, .int .i64 fr, .int .i64 til, .int .i64 lv, .int .u32 c] 67))
  generalize w.alloc (.cells #[.slice ma mn mc, .int .i64 fr, .int .i64 til, .int .i64 lv, .int .u32 c] 67) = w1 at *
  have k4 := K4.out w1 HB0.out
  obtain ⟨x0, x1, x2, x3, x4⟩ := X0.out
  clear K4
  by_cases h0 : 0 < mn
  case neg =>
    rw [decide_eq_false h0] at HR
    obtain rfl : mn = 0 := by omega
    go_wp2
    go_ret
    exact ⟨by rw [HR.out]; rfl, HB0.out⟩
  rw [decide_eq_true h0] at HR
  by_cases h1 : mn ≤ 12
  case neg =>
    rw [decide_eq_false h1] at HR
    go_wp2
    go_ret
    exact ⟨by rw [HR.out]; rfl, HB0.out⟩
  rw [decide_eq_true h1] at HR
  go_wp2_with fail
  refine k4.mono ?_
  rintro e w4 ⟨rfl, hb4⟩
  have HB4 := Lib.hid (HB0.out.trans (hb4.mono HB0.out.size))
  have X4 := Lib.hid (X0.out.later hb4)
  clear k4 hb4 X0 x0 x1 x2 x3 x4 HB0
  obtain ⟨x0, x1, x2, x3, x4⟩ := X4.out
  cases AN with
  | true =>
    go_wp2
    go_ret
    exact ⟨by rw [HR.out]; rfl, HB4.out⟩
  | false =>
  by_cases h2 : 0 ≤ fr
  case neg =>
    rw [decide_eq_false h2] at HR
    go_wp2
    go_ret
    exact ⟨by rw [HR.out]; rfl, HB4.out⟩
  rw [decide_eq_true h2] at HR
  by_cases h3 : fr < til
  case neg =>
    rw [decide_eq_false h3] at HR
    go_wp2
    go_ret
    exact ⟨by rw [HR.out]; rfl, HB4.out⟩
  rw [decide_eq_true h3] at HR
  by_cases h4 : til ≤ 1099511627776
  case neg =>
    rw [decide_eq_false h4] at HR
    go_wp2
    go_ret
    exact ⟨by rw [HR.out]; rfl, HB4.out⟩
  rw [decide_eq_true h4] at HR
  have k5 := K5.out w4
  go_wp2_with fail
  refine k5.mono ?_
  rintro e w5 ⟨rfl, hb5⟩
  have HB5 := Lib.hid (HB4.out.trans (hb5.mono HB4.out.size))
  clear k5 hb5 x0 x1 x2 x3 x4
  go_wp2
  go_ret
  exact ⟨by rw [HR.out]; rfl, HB5.out⟩
end Go.Proofs.YtcfococinllcmaaGreat
