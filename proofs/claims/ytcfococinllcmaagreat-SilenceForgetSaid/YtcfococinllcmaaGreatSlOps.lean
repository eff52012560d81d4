/- the law's steps: kind, back. -/
import Derived.Test.YtcfococinllcmaaGreatSlGet
namespace Go.Proofs.YtcfococinllcmaaGreat
open Go.RowKit

/-- a step: kind, number, time; its silence's own number; the silence -/
structure SOp where
  kd : Int
  id : Int
  now : Int
  sid : Int
  s : Sil
abbrev SOp.v (o : SOp) : Value := .agg #[.int .i64 o.kd, .int .i64 o.id, .int .i64 o.now, .int .i64 o.sid, .slice o.s.mv.1 o.s.mv.2.1 o.s.mv.2.2, .int .i64 o.s.fr, .int .i64 o.s.til, .int .i64 o.s.lv, .int .u32 o.s.c]
/-- the reference's silence -/
abbrev rsV (sid : Int) (s : Sil) : Value := .agg #[.int .i64 sid, .slice s.mv.1 s.mv.2.1 s.mv.2.2, .int .i64 s.fr, .int .i64 s.til, .int .i64 s.lv, .int .u32 s.c]
def kindO (k : Int) : Nat := ((k % 18446744073709551616) % 3).toNat
theorem kindO_lt (k : Int) : kindO k < 3 := by
  unfold kindO
  have := Int.emod_lt_of_pos (k % 18446744073709551616) (by decide : (0 : Int) < 3)
  have := Int.emod_nonneg (k % 18446744073709551616) (by decide : (3 : Int) ≠ 0)
  omega
theorem kindO_eq (k : Int) : wrap64 ((IntKind.u64.wrap k).tmod 3) = (kindO k : Int) := by
  have h1 : 0 ≤ k % 18446744073709551616 := Int.emod_nonneg _ (by omega)
  rw [IntKind.wrap_u64, Int.tmod_eq_emod_of_nonneg h1]
  have h2 := Int.emod_nonneg (k % 18446744073709551616) (by decide : (3 : Int) ≠ 0)
  have h3 := Int.emod_lt_of_pos (k % 18446744073709551616) (by decide : (0 : Int) < 3)
  rw [IntWalk.wrap64_in _ ⟨by omega, by omega⟩]
  unfold kindO
  omega
set_option maxHeartbeats 1600000 in
theorem kind_any (o : SOp) (w : World) : Calls Tryz.prog 24 #[o.v] w fun e w' => e = .returned (.int .i64 ((kindO o.kd : Nat) : Int)) ∧ Below w.heap.size w w' := by
  have hb := alloc_below w (.cells #[.int .i64 o.kd, .int .i64 o.id, .int .i64 o.now, .int .i64 o.sid, .slice o.s.mv.1 o.s.mv.2.1 o.s.mv.2.2, .int .i64 o.s.fr, .int .i64 o.s.til, .int .i64 o.s.lv, .int .u32 o.s.c] 60)
  have hx := box_later (Below.refl (w.alloc (.cells #[.int .i64 o.kd, .int .i64 o.id, .int .i64 o.now, .int .i64 o.sid, .slice o.s.mv.1 o.s.mv.2.1 o.s.mv.2.2, .int .i64 o.s.fr, .int .i64 o.s.til, .int .i64 o.s.lv, .int .u32 o.s.c] 60)).heap.size (w.alloc (.cells #[.int .i64 o.kd, .int .i64 o.id, .int .i64 o.now, .int .i64 o.sid, .slice o.s.mv.1 o.s.mv.2.1 o.s.mv.2.2, .int .i64 o.s.fr, .int .i64 o.s.til, .int .i64 o.s.lv, .int .u32 o.s.c] 60))) (i := 0) (x := .int .i64 o.kd) rfl
  have HB := Lib.hid hb
  have HK := Lib.hid (kindO_eq o.kd)
  unfold SOp.v
  clear hb
  go_enter Tryz.func24, Tryz.ntmps24
  go_wp2
  go_ret
  exact ⟨by rw [← HK.out]; rfl, HB.out⟩
set_option maxHeartbeats 1600000 in
set_option maxRecDepth 100000 in
theorem sback_any (sid : Int) (s : Sil) (w : World) : Calls Tryz.prog 26 #[rsV sid s] w fun e w' => e = .returned s.v ∧ Below w.heap.size w w' := by
  obtain ⟨id, ⟨ma, mn, mc⟩, ms, fr, til, lv, c⟩ := s
  unfold rsV Sil.v
  dsimp only
  obtain ⟨W1, h1⟩ : ∃ z, w.alloc (.cells #[.int .i64 sid, .slice ma mn mc, .int .i64 fr, .int .i64 til, .int .i64 lv, .int .u32 c] 58) = z := ⟨_, rfl⟩
  obtain ⟨W2, h2⟩ : ∃ z, W1.alloc (.cells #[.slice none 0 0, .int .i64 0, .int .i64 0, .int .i64 0, .int .u32 0] 67) = z := ⟨_, rfl⟩
  have s1 : W1.heap.size = w.heap.size + 1 := by rw [← h1, World.size_alloc]
  have b1 : Below w.heap.size w W1 := by rw [← h1]; exact alloc_below _ _
  have b2 : Below W1.heap.size W1 W2 := by rw [← h2]; exact alloc_below _ _
  have hr := Below.refl W2.heap.size W2
  have g1 : Below (w.alloc (.cells #[.int .i64 sid, .slice ma mn mc, .int .i64 fr, .int .i64 til, .int .i64 lv, .int .u32 c] 58)).heap.size (w.alloc (.cells #[.int .i64 sid, .slice ma mn mc, .int .i64 fr, .int .i64 til, .int .i64 lv, .int .u32 c] 58)) W2 := by rw [h1]; exact b2
  have y1 := box_later g1 (i := 1) rfl
  have y2 := box_later g1 (i := 2) rfl
  have y3 := box_later g1 (i := 3) rfl
  have y4 := box_later g1 (i := 4) rfl
  have y5 := box_later g1 (i := 5) rfl
  have z1 := alc5 W1 (.slice none 0 0) (.int .i64 0) (.int .i64 0) (.int .i64 0) (.int .u32 0) 67
  have t1 := box_there (Below.refl _ (W1.alloc (.cells #[.slice none 0 0, .int .i64 0, .int .i64 0, .int .i64 0, .int .u32 0] 67)))
  rw [h2] at z1 t1
  change W2.there W1.heap.size 0 5 at t1
  rw [s1] at z1 t1
  have f0 := there_free t1 0 (by omega)
  have f1 := there_free t1 1 (by omega)
  have f2 := there_free t1 2 (by omega)
  have f3 := there_free t1 3 (by omega)
  have f4 := there_free t1 4 (by omega)
  have HB := Lib.hid (b1.trans (b2.mono (by omega)))
  have HT := Lib.hid t1
  obtain ⟨z0, z1, z2, z3, z4⟩ := z1
  clear hr g1 b1 b2 t1
  go_enter Tryz.func26, Tryz.ntmps26
  go_upto_region 1 with fail
  try rw [h1]
  try rw [h2]
  try rw [s1]
  clear h1 h2
  go_wp2
  refine bodyPost_ret (results_agg1 rfl _ _ (w.heap.size + 1) [.slice ma mn mc, .int .i64 fr, .int .i64 til, .int .i64 lv, .int .u32 c] (.struct _) rfl (World.rangeAt_setCells_same _ (w.heap.size + 1) 0 [.slice ma mn mc, .int .i64 fr, .int .i64 til, .int .i64 lv, .int .u32 c] HT.out) Tryz.underlying67 rfl (by kernel_rfl)) rfl ?_
  exact ⟨rfl, below_puts (g := w.heap.size + 1) (o := 0) HB.out (by omega) [.slice ma mn mc, .int .i64 fr, .int .i64 til, .int .i64 lv, .int .u32 c]⟩
theorem mtCells_takeS (l : List Mt) (i : Nat) : mtCells (l.take i) = (mtCells l).take (i * 3) := by
  induction l generalizing i with
  | nil => simp [mtCells]
  | cons f l ih =>
    cases i with
    | zero => simp [mtCells]
    | succ i => rw [List.take_succ_cons, mtCells, ih, mtCells, show (i + 1) * 3 = i * 3 + 1 + 1 + 1 by omega]; rfl
theorem rd_takeS {w : World} {a : Option Addr} {n c size : Nat} {xs : List Value} (h : RdAt w (.slice a n c) n size xs) (k : Nat) (hk : k ≤ n) (hn : a = none → n = 0) : RdAt w (.slice a k c) k size (xs.take (k * size)) := by
  refine ⟨by rw [List.length_take, h.1, Nat.min_eq_left (Nat.mul_le_mul_right _ hk)], ?_⟩
  rcases h.2 with ⟨h1, h0⟩ | ⟨ad, c', h1, hc, hr⟩
  · simp only [Value.slice.injEq] at h1
    obtain ⟨rfl, h2, rfl⟩ := h1
    exact .inl ⟨by rw [show k = 0 by omega], by omega⟩
  · simp only [Value.slice.injEq] at h1
    obtain ⟨rfl, _, rfl⟩ := h1
    refine .inr ⟨ad, c, rfl, by omega, fun h0 => ?_⟩
    obtain ⟨b, o, rfl, hlt, hcell⟩ := hr (by omega)
    refine ⟨b, o, rfl, hlt, fun j x hj => hcell j x ?_⟩
    have hjl := (List.getElem?_eq_some_iff.1 hj).1
    rw [List.length_take] at hjl
    rwa [List.getElem?_take_of_lt (by omega)] at hj
theorem mts_takeS {w : World} {a : Option Addr} {c : Nat} {l : List Mt} (h : MtsAt w (.slice a l.length c) l) (k : Nat) (hk : k ≤ l.length) (hn : a = none → l.length = 0) : MtsAt w (.slice a k c) (l.take k) := by
  have hl : (l.take k).length = k := by rw [List.length_take]; omega
  unfold MtsAt at h ⊢
  rw [hl, mtCells_takeS]
  exact rd_takeS h k hk hn
theorem none_ofS {w : World} {size n c : Nat} {a : Option Addr} {xs : List Value} (h : RdAt w (.slice a n c) n size xs) : a = none → n = 0 := by
  rintro rfl
  rcases h.2 with ⟨h1, h0⟩ | ⟨ad, c', h1, _⟩
  · exact h0
  · cases h1
theorem min_cutS {α : Type} (l : List α) (m : Nat) : ∃ k : Nat, k ≤ l.length ∧ l.take m = l.take k ∧ min (l.length : Int) m = (k : Int) ∧ k ≤ m := by
  rcases Nat.le_total l.length m with h | h
  · exact ⟨l.length, Nat.le_refl _, by rw [List.take_length, List.take_of_length_le h], by omega, h⟩
  · exact ⟨m, h, rfl, by omega, Nat.le_refl _⟩
/-- the first 14 matchers -/
def cutS (s : Sil) : Sil := { s with ms := s.ms.take 14 }
set_option maxHeartbeats 3200000 in
set_option maxRecDepth 100000 in
theorem short_any (o : SOp) (w : World) (hm : MtsAt w (SV o.s.mv) o.s.ms) (hl : o.s.ms.length ≤ maxLen) :
    Calls Tryz.prog 27 #[o.v] w fun e w' => ∃ mv : Option Addr × Nat × Nat, e = .returned (rsV o.sid { cutS o.s with mv := mv }) ∧ MtsAt w (SV mv) (cutS o.s).ms ∧ Below w.heap.size w w' := by
  obtain ⟨kd, id, now, sid, ⟨xid, ⟨xa, xn, xc⟩, ms, fr, til, lv, c⟩⟩ := o
  dsimp only [SV] at hm hl
  obtain ⟨ma, mc, e, hmc, _⟩ := RdAt.shape hm
  rw [e] at hm
  simp only [Value.slice.injEq] at e
  obtain ⟨rfl, rfl, rfl⟩ := e
  obtain ⟨k, hk, hkl, hmin, _⟩ := min_cutS ms 14
  change min (ms.length : Int) 14 = _ at hmin
  have HMT := Lib.hid (mts_takeS hm k hk (none_ofS hm))
  have HKL := Lib.hid hkl
  have hkc : k ≤ xc := Nat.le_trans hk hmc
  have hkm : k < 9223372036854775807 := by unfold maxLen at hl; omega
  have hmn63 : ms.length ≤ 9223372036854775807 := by unfold maxLen at hl; omega
  unfold SOp.v rsV cutS
  dsimp only
  obtain ⟨W1, h1⟩ : ∃ z, w.alloc (.cells #[.int .i64 kd, .int .i64 id, .int .i64 now, .int .i64 sid, .slice xa ms.length xc, .int .i64 fr, .int .i64 til, .int .i64 lv, .int .u32 c] 60) = z := ⟨_, rfl⟩
  obtain ⟨W2, h2⟩ : ∃ z, W1.alloc (.cells #[.int .i64 0, .slice none 0 0, .int .i64 0, .int .i64 0, .int .i64 0, .int .u32 0] 58) = z := ⟨_, rfl⟩
  obtain ⟨W3, h3⟩ : ∃ z, W2.alloc (.cells #[.int .i64 sid, .slice xa ms.length xc, .int .i64 fr, .int .i64 til, .int .i64 lv, .int .u32 c] 58) = z := ⟨_, rfl⟩
  have s1 : W1.heap.size = w.heap.size + 1 := by rw [← h1, World.size_alloc]
  have s2 : W2.heap.size = w.heap.size + 1 + 1 := by rw [← h2, World.size_alloc, s1]
  have b1 : Below w.heap.size w W1 := by rw [← h1]; exact alloc_below _ _
  have b2 : Below W1.heap.size W1 W2 := by rw [← h2]; exact alloc_below _ _
  have b3 : Below W2.heap.size W2 W3 := by rw [← h3]; exact alloc_below _ _
  have g1 : Below (w.alloc (.cells #[.int .i64 kd, .int .i64 id, .int .i64 now, .int .i64 sid, .slice xa ms.length xc, .int .i64 fr, .int .i64 til, .int .i64 lv, .int .u32 c] 60)).heap.size (w.alloc (.cells #[.int .i64 kd, .int .i64 id, .int .i64 now, .int .i64 sid, .slice xa ms.length xc, .int .i64 fr, .int .i64 til, .int .i64 lv, .int .u32 c] 60)) W2 := by rw [h1]; exact b2
  have y3 := box_later g1 (i := 3) rfl
  have y4 := box_later g1 (i := 4) rfl
  have y5 := box_later g1 (i := 5) rfl
  have y6 := box_later g1 (i := 6) rfl
  have y7 := box_later g1 (i := 7) rfl
  have y8 := box_later g1 (i := 8) rfl
  have g2 : Below (W1.alloc (.cells #[.int .i64 0, .slice none 0 0, .int .i64 0, .int .i64 0, .int .i64 0, .int .u32 0] 58)).heap.size (W1.alloc (.cells #[.int .i64 0, .slice none 0 0, .int .i64 0, .int .i64 0, .int .i64 0, .int .u32 0] 58)) W3 := by rw [h2]; exact b3
  have z0 := box_later g2 (i := 0) rfl
  have z1 := box_later g2 (i := 1) rfl
  have z2 := box_later g2 (i := 2) rfl
  have z3 := box_later g2 (i := 3) rfl
  have z4 := box_later g2 (i := 4) rfl
  have z5 := box_later g2 (i := 5) rfl
  have t1 := box_there g2
  have hr3 := Below.refl (W2.alloc (.cells #[.int .i64 sid, .slice xa ms.length xc, .int .i64 fr, .int .i64 til, .int .i64 lv, .int .u32 c] 58)).heap.size (W2.alloc (.cells #[.int .i64 sid, .slice xa ms.length xc, .int .i64 fr, .int .i64 til, .int .i64 lv, .int .u32 c] 58))
  have u0 := box_later hr3 (i := 0) rfl
  have u1 := box_later hr3 (i := 1) rfl
  have u2 := box_later hr3 (i := 2) rfl
  have u3 := box_later hr3 (i := 3) rfl
  have u4 := box_later hr3 (i := 4) rfl
  have u5 := box_later hr3 (i := 5) rfl
  have t3 := box_there hr3
  rw [h3] at u0 u1 u2 u3 u4 u5 t3
  change W3.there W1.heap.size 0 6 at t1
  change W3.there W2.heap.size 0 6 at t3
  rw [s1] at t1 z0 z1 z2 z3 z4 z5
  rw [s2] at t3 u0 u1 u2 u3 u4 u5
  have f0 := there_free t1 0 (by omega)
  have f1 := there_free t1 1 (by omega)
  have f2 := there_free t1 2 (by omega)
  have f3 := there_free t1 3 (by omega)
  have f4 := there_free t1 4 (by omega)
  have f5 := there_free t1 5 (by omega)
  have e1 := there_free t3 1 (by omega)
  have HB := Lib.hid ((b1.trans (b2.mono (by omega))).trans (b3.mono (by omega)))
  have HT := Lib.hid t1
  clear hr3 g1 g2 b1 b2 b3 t1 t3 hm hkl hk hmc hl
  go_enter Tryz.func27, Tryz.ntmps27
  go_upto_region 1 with fail
  try rw [h1]
  try rw [h2]
  clear h1 h2
  go_upto_region 2 with fail
  try rw [h3]
  try rw [s1]
  try rw [s2]
  clear h3 y3 y4 y5 y6 y7 y8
  go_wp2
  have hT := World.there_setCells HT.out (w.heap.size + 1 + 1) 1 [.slice xa k xc]
  refine bodyPost_ret (results_agg1 rfl _ _ (w.heap.size + 1) [.int .i64 sid, .slice xa k xc, .int .i64 fr, .int .i64 til, .int .i64 lv, .int .u32 c] (.struct _) rfl (World.rangeAt_setCells_same _ (w.heap.size + 1) 0 [.int .i64 sid, .slice xa k xc, .int .i64 fr, .int .i64 til, .int .i64 lv, .int .u32 c] hT) Tryz.underlying58 rfl (by kernel_rfl)) rfl ?_
  have hba := below_puts (g := w.heap.size + 1 + 1) (o := 1) HB.out (by omega) [.slice xa k xc]
  have hbb := below_puts (g := w.heap.size + 1) (o := 0) hba (by omega) [.int .i64 sid, .slice xa k xc, .int .i64 fr, .int .i64 til, .int .i64 lv, .int .u32 c]
  exact ⟨(xa, k, xc), rfl, by rw [HKL.out]; exact HMT.out, hbb⟩
end Go.Proofs.YtcfococinllcmaaGreat
