/- label.Join, policy.Raised: contracts. -/
import Derived.Test.YtipnhpfpppblhaaGreatAlPol
import Derived.Deep.DeepCutAuto
namespace Go.Proofs.YtipnhpfpppblhaaGreat
open Go.RowKit

theorem bits_or (c d : Nat) : bits BinOp.or IntKind.u32 (c : Int) (d : Int) = (orN c d : Int) := by
  show IntKind.u32.wrap ((BitVec.ofInt 32 (c : Int) ||| BitVec.ofInt 32 (d : Int)).toNat : Int) = _
  rw [BitVec.ofInt_natCast, BitVec.ofInt_natCast, IntKind.wrap_u32']
  unfold orN
  have := (BitVec.ofNat 32 c ||| BitVec.ofNat 32 d).isLt
  omega
/-- three boxes of two cells, one behind the other -/
theorem box222 {w W : World} {x y x' y' x2 y2 : Value} {t u s : TypeId} (hb : Below (((w.alloc (.cells #[x, y] t)).alloc (.cells #[x', y'] u)).alloc (.cells #[x2, y2] s)).heap.size (((w.alloc (.cells #[x, y] t)).alloc (.cells #[x', y'] u)).alloc (.cells #[x2, y2] s)) W) :
    (W.cell? ⟨w.heap.size, 0, none⟩ = some x ∧ W.cell? ⟨w.heap.size, 1, none⟩ = some y ∧ W.cell? ⟨w.heap.size + 1, 0, none⟩ = some x' ∧ W.cell? ⟨w.heap.size + 1, 1, none⟩ = some y') ∧
    (W.cell? ⟨w.heap.size + 1 + 1, 0, none⟩ = some x2 ∧ W.cell? ⟨w.heap.size + 1 + 1, 1, none⟩ = some y2 ∧ W.there (w.heap.size + 1 + 1) 0 2) ∧ w.heap.size + 1 + 1 < W.heap.size ∧ Below w.heap.size w W := by
  obtain ⟨h1, h2, h3⟩ := box_cells hb
  have hT := box_there hb
  obtain ⟨a, b, c, d, e, f⟩ := box22 h3
  simp only [World.size_alloc] at h1 h2 hT
  exact ⟨⟨a, b, c, d⟩, ⟨h1 0 _ rfl, h1 1 _ rfl, hT⟩, h2, f⟩
set_option maxHeartbeats 800000 in
theorem join_any (l : Int) (c : Nat) (m : Int) (d : Nat) (w : World) :
    Calls Tryz.prog 100 #[Lab l c, Lab m d] w fun e w' => e = .returned (LabP (joinL (l, c) (m, d))) ∧ Below w.heap.size w w' := by
  have k1 := right_any l c
  have k2 := right_any m d
  cases h1 : rightL l
  · rw [h1] at k1
    have HF : Hid (joinL (l, c) (m, d) = (7, 4294967295)) := by show _ = _; unfold joinL; simp [h1]
    clear h1
    go_enter Tryz.func100, Tryz.ntmps100
    go_wp2_with fail
    refine (k1 _).mono ?_
    rintro e w1 ⟨rfl, hb1⟩
    obtain ⟨⟨x0, x1, y0, y1⟩, ⟨z0, z1, hT⟩, hlt, hB1⟩ := box222 hb1
    have f0 := there_free hT 0 (by decide)
    have f1 := there_free hT 1 (by decide)
    have HT := Lib.hid hT
    clear hb1 hT k1 k2
    go_wp2
    refine bodyPost_ret (results_agg1 rfl _ _ (w.heap.size + 1 + 1) [.int .i64 7, .int .u32 4294967295] (.struct _) rfl (World.rangeAt_setCells_same w1 (w.heap.size + 1 + 1) 0 [.int .i64 7, .int .u32 4294967295] HT.out) Tryz.underlying36 rfl (by kernel_rfl)) rfl ?_
    exact ⟨by rw [HF.out]; rfl, below_put (below_put hB1 (by omega)) (by omega)⟩
  · rw [h1] at k1
    cases h2 : rightL m
    · rw [h2] at k2
      have HF : Hid (joinL (l, c) (m, d) = (7, 4294967295)) := by show _ = _; unfold joinL; simp [h2]
      clear h1 h2
      go_enter Tryz.func100, Tryz.ntmps100
      go_wp2_with fail
      refine (k1 _).mono ?_
      rintro e w1 ⟨rfl, hb1⟩
      obtain ⟨⟨x0, x1, y0, y1⟩, ⟨z0, z1, hT⟩, hlt, hB1⟩ := box222 hb1
      clear hb1 k1
      go_wp2_with fail
      refine (k2 _).mono ?_
      rintro e w2 ⟨rfl, hb2⟩
      have z0' := keep_cell z0 hb2 (by omega)
      have z1' := keep_cell z1 hb2 (by omega)
      have hT2 := there_later hT hb2 (by omega)
      have f0 := there_free hT2 0 (by decide)
      have f1 := there_free hT2 1 (by decide)
      have HT := Lib.hid hT2
      have hB2 := hB1.trans (hb2.mono hB1.size)
      clear hT hT2 x0 x1 y0 y1 z0 z1 hb2 hB1 k2
      go_wp2
      refine bodyPost_ret (results_agg1 rfl _ _ (w.heap.size + 1 + 1) [.int .i64 7, .int .u32 4294967295] (.struct _) rfl (World.rangeAt_setCells_same w2 (w.heap.size + 1 + 1) 0 [.int .i64 7, .int .u32 4294967295] HT.out) Tryz.underlying36 rfl (by kernel_rfl)) rfl ?_
      exact ⟨by rw [HF.out]; rfl, below_put (below_put hB2 (by omega)) (by omega)⟩
    · rw [h2] at k2
      have HF : Hid (joinL (l, c) (m, d) = (max l m, orN c d)) := by show _ = _; unfold joinL; simp [h1, h2]
      clear h1 h2
      have q := bits_or c d
      go_enter Tryz.func100, Tryz.ntmps100
      go_wp2_with fail
      refine (k1 _).mono ?_
      rintro e w1 ⟨rfl, hb1⟩
      obtain ⟨⟨x0, x1, y0, y1⟩, ⟨z0, z1, hT⟩, hlt, hB1⟩ := box222 hb1
      clear hb1 k1
      go_wp2_with fail
      refine (k2 _).mono ?_
      rintro e w2 ⟨rfl, hb2⟩
      have x0' := keep_cell x0 hb2 (by omega)
      have x1' := keep_cell x1 hb2 (by omega)
      have y0' := keep_cell y0 hb2 (by omega)
      have y1' := keep_cell y1 hb2 (by omega)
      have z0' := keep_cell z0 hb2 (by omega)
      have z1' := keep_cell z1 hb2 (by omega)
      have hT2 := there_later hT hb2 (by omega)
      have f0 := there_free hT2 0 (by decide)
      have f1 := there_free hT2 1 (by decide)
      have HT := Lib.hid hT2
      have hB2 := hB1.trans (hb2.mono hB1.size)
      clear hT hT2 x0 x1 y0 y1 z0 z1 hb2 hB1 k2
      go_wp2
      refine bodyPost_ret (results_agg1 rfl _ _ (w.heap.size + 1 + 1) [.int .i64 (max l m), .int .u32 (orN c d)] (.struct _) rfl (World.rangeAt_setCells_same w2 (w.heap.size + 1 + 1) 0 [.int .i64 (max l m), .int .u32 (orN c d)] HT.out) Tryz.underlying36 rfl (by kernel_rfl)) rfl ?_
      exact ⟨by rw [HF.out], below_put (below_put hB2 (by omega)) (by omega)⟩
/-- the boxes of Raised: a policy's six cells, a label's two, the result's two -/
theorem box622 {w W : World} {a b c d e f x y x' y' : Value} {t u s : TypeId} (hb : Below (((w.alloc (.cells #[a, b, c, d, e, f] t)).alloc (.cells #[x, y] u)).alloc (.cells #[x', y'] s)).heap.size (((w.alloc (.cells #[a, b, c, d, e, f] t)).alloc (.cells #[x, y] u)).alloc (.cells #[x', y'] s)) W) :
    (W.cell? ⟨w.heap.size + 1, 0, none⟩ = some x ∧ W.cell? ⟨w.heap.size + 1, 1, none⟩ = some y) ∧
    (W.cell? ⟨w.heap.size + 1 + 1, 0, none⟩ = some x' ∧ W.cell? ⟨w.heap.size + 1 + 1, 1, none⟩ = some y' ∧ W.there (w.heap.size + 1 + 1) 0 2) ∧ w.heap.size + 1 + 1 < W.heap.size ∧ Below w.heap.size w W := by
  obtain ⟨h1, h2, h3⟩ := box_cells hb
  have hT := box_there hb
  obtain ⟨_, b, _, d⟩ := box_two h3
  simp only [World.size_alloc] at h1 h2 hT
  exact ⟨⟨b 0 _ rfl, b 1 _ rfl⟩, ⟨h1 0 _ rfl, h1 1 _ rfl, hT⟩, h2, d⟩
set_option maxHeartbeats 1600000 in
set_option maxRecDepth 100000 in
theorem raised_any (s0 s1 s2 s4 s5 : Option Addr × Nat × Nat) (l : List Nmd) (rv : Value) (nm : ByteArray) (lv : Int) (c : Nat) (w : World) (hv : NmdsAt w rv l) (hl : l.length ≤ maxLen) :
    Calls Tryz.prog 74 #[.agg #[SV s0, SV s1, SV s2, rv, SV s4, SV s5], .string nm, Lab lv c] w fun e w' => e = .returned (LabP (raisedL l nm (lv, c))) ∧ Below w.heap.size w w' := by
  have k1 := fun W (h : Below w.heap.size w W) => find_any l nm rv W (hv.later h) hl
  obtain ⟨ra, rc, rfl, _, _⟩ := RdAt.shape hv
  clear hv
  obtain ⟨a0, n0, c0⟩ := s0
  obtain ⟨a1, n1, c1⟩ := s1
  obtain ⟨a2, n2, c2⟩ := s2
  obtain ⟨a4, n4, c4⟩ := s4
  obtain ⟨a5, n5, c5⟩ := s5
  have hB0 : Below w.heap.size w (((w.alloc (.cells #[.slice a0 n0 c0, .slice a1 n1 c1, .slice a2 n2 c2, .slice ra l.length rc, .slice a4 n4 c4, .slice a5 n5 c5] 26)).alloc (.cells #[.int .i64 lv, .int .u32 c] 36)).alloc (.cells #[.int .i64 0, .int .u32 0] 36)) :=
    ((alloc_below _ _).trans ((alloc_below _ _).mono (by simp))).trans ((alloc_below _ _).mono (by simp; omega))
  have k1 := k1 _ hB0
  cases hf : findL l nm with
  | none =>
    have HF : Hid (raisedL l nm (lv, c) = (lv, c)) := by show _ = _; unfold raisedL; rw [hf]
    rw [hf] at k1
    clear hf hB0
    go_enter Tryz.func74, Tryz.ntmps74
    go_wp2_with fail
    refine k1.mono ?_
    rintro e w1 ⟨rfl, hb1⟩
    obtain ⟨⟨x0, x1⟩, ⟨z0, z1, hT⟩, hlt, hB1⟩ := box622 hb1
    have ha := alloc_below w1 (.cells #[.int .i64 0, .int .u32 0] 36)
    have x0' := keep_cell x0 ha (by omega)
    have x1' := keep_cell x1 ha (by omega)
    have z0' := keep_cell z0 ha (by omega)
    have z1' := keep_cell z1 ha (by omega)
    have hT2 := there_later hT ha (by omega)
    have f0 := there_free hT2 0 (by decide)
    have f1 := there_free hT2 1 (by decide)
    have HT := Lib.hid hT2
    have hB2 := Lib.hid (hB1.trans (ha.mono hB1.size))
    clear hb1 hT k1 ha x0 x1 z0 z1 hT2 hB1
    simp only [findV, Option.isSome]
    go_upto_region 2 with fail
    change Code.wp _ _ _ _ (w1.alloc (.cells #[.int .i64 0, .int .u32 0] 36))
    generalize w1.alloc (.cells #[.int .i64 0, .int .u32 0] 36) = w2 at *
    go_wp2
    refine bodyPost_ret (results_agg1 rfl _ _ (w.heap.size + 1 + 1) [.int .i64 lv, .int .u32 c] (.struct _) rfl (World.rangeAt_setCells_same _ (w.heap.size + 1 + 1) 0 [.int .i64 lv, .int .u32 c] HT.out) Tryz.underlying36 rfl (by kernel_rfl)) rfl ?_
    exact ⟨by rw [HF.out], below_put (below_put hB2.out (by omega)) (by omega)⟩
  | some r =>
    have HF : Hid (raisedL l nm (lv, c) = joinL (lv, c) r.2) := by show _ = _; unfold raisedL; rw [hf]
    rw [hf] at k1
    obtain ⟨rn, rl, rcat⟩ := r
    have k2 := join_any lv c rl rcat
    obtain ⟨jl, hjl⟩ : ∃ z, joinL (lv, c) (rl, rcat) = z := ⟨_, rfl⟩
    obtain ⟨j1, j2⟩ := jl
    simp only [hjl] at k2
    rw [show (rn, rl, rcat).2 = (rl, rcat) from rfl, hjl] at HF
    clear hf hB0 hjl
    go_enter Tryz.func74, Tryz.ntmps74
    go_wp2_with fail
    refine k1.mono ?_
    rintro e w1 ⟨rfl, hb1⟩
    obtain ⟨⟨x0, x1⟩, ⟨z0, z1, hT⟩, hlt, hB1⟩ := box622 hb1
    have ha := alloc_below w1 (.cells #[.int .i64 rl, .int .u32 rcat] 36)
    have x0' := keep_cell x0 ha (by omega)
    have x1' := keep_cell x1 ha (by omega)
    have z0' := keep_cell z0 ha (by omega)
    have z1' := keep_cell z1 ha (by omega)
    have hT2 := there_later hT ha (by omega)
    have HT := Lib.hid hT2
    have hB2 := Lib.hid (hB1.trans (ha.mono hB1.size))
    have hlt2 : w.heap.size + 1 + 1 < (w1.alloc (.cells #[.int .i64 rl, .int .u32 rcat] 36)).heap.size := by rw [World.size_alloc]; omega
    have HL2 := Lib.hid hlt2
    clear hb1 hT k1 ha x0 x1 z0 z1 hT2 hB1 hlt2
    simp only [findV, Option.isSome]
    go_upto_region 2 with fail
    change Code.wp _ _ _ _ (w1.alloc (.cells #[.int .i64 rl, .int .u32 rcat] 36))
    have y0 : (w1.alloc (.cells #[.int .i64 rl, .int .u32 rcat] 36)).cell? ⟨w1.heap.size, 0, none⟩ = some (.int .i64 rl) := World.cell?_alloc_at _ _ _ _ rfl
    have y1 : (w1.alloc (.cells #[.int .i64 rl, .int .u32 rcat] 36)).cell? ⟨w1.heap.size, 1, none⟩ = some (.int .u32 rcat) := World.cell?_alloc_at _ _ _ _ rfl
    generalize w1.alloc (.cells #[.int .i64 rl, .int .u32 rcat] 36) = w1' at *
    go_wp2_with fail
    refine (k2 _).mono ?_
    rintro e w2 ⟨rfl, hb2⟩
    have z0 := keep_cell z0' hb2 HL2.out
    have z1 := keep_cell z1' hb2 HL2.out
    have hT3 := there_later HT.out hb2 HL2.out
    have f0 := there_free hT3 0 (by decide)
    have f1 := there_free hT3 1 (by decide)
    have HT3 := Lib.hid hT3
    have hB3 := Lib.hid (hB2.out.trans (hb2.mono hB2.out.size))
    clear x0' x1' y0 y1 z0' z1' HT HL2 hb2 hB2 hT3 k2
    go_wp2
    refine bodyPost_ret (results_agg1 rfl _ _ (w.heap.size + 1 + 1) [.int .i64 j1, .int .u32 j2] (.struct _) rfl (World.rangeAt_setCells_same _ (w.heap.size + 1 + 1) 0 [.int .i64 j1, .int .u32 j2] HT3.out) Tryz.underlying36 rfl (by kernel_rfl)) rfl ?_
    exact ⟨by rw [HF.out], below_put (below_put hB3.out (by omega)) (by omega)⟩
end Go.Proofs.YtipnhpfpppblhaaGreat
