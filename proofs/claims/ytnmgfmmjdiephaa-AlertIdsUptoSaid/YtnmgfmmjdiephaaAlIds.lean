/- AlertIds: the walk. -/
import Derived.Test.YtnmgfmmjdiephaaMergeLaw
import Derived.Test.YtnmgfmmjdiephaaPolArgs
import Derived.Test.YtnmgfmmjdiephaaAlBack
import Derived.Test.YtnmgfmmjdiephaaAlSame
import Derived.Test.YtnmgfmmjdiephaaHeldT
namespace Go.Proofs.Ytnmgfmmjdiephaa
open Go.RowKit Go.Maps

namespace lawIds
set_option maxHeartbeats 6400000 in
set_option maxRecDepth 100000 in
theorem walk0 (src : ByteArray) (fl : List Fld) (fv : Value) (lv : Int) (c : Nat) (fr til ll : Int) (lc : Nat) (n0 n1 : Int) (w : World) (hv : FldsAt w fv fl) (hl : fl.length ≤ maxLen) (hbulk : (idB src (fl.take 12)).length ≤ 4000000) :
    Calls Try.prog 7 #[.agg #[.string src, fv, .int .i64 lv, .int .u32 c, .int .i64 fr, .int .i64 til], Lab ll lc, .agg #[.int .i64 n0, .int .i64 n1]] w fun e w' => e = .returned (.bool true) ∧ Below w.heap.size w w' := by
  have kl := lives_any
  have kb := fun W (h : Below w.heap.size w W) => back_any src fl fv lv c fr til W (hv.later h) hl
  have hgl : (fl.take 12).length ≤ maxLen := by rw [List.length_take]; omega
  obtain ⟨fa, fc, rfl, _, _⟩ := RdAt.shape hv
  generalize fl.take 12 = gl at *
  have ki := fun (lv : Int) (c : Nat) (fr til : Int) (v : Value) W (h : FldsAt W v gl) => id_any src gl lv c fr til v W h hbulk
  have ks := fun (v : Value) (lv : Int) (c : Nat) (fr til lv' : Int) (c' : Nat) (fr' til' : Int) (W : World) (h : FldsAt W v gl) => asame_any src src gl gl v v lv c fr til lv' c' fr' til' W h h hgl hgl
  have hsd : ∀ (lv : Int) (c : Nat) (fr til lv' : Int) (c' : Nat) (fr' til' : Int), sameA src src gl gl lv c fr til lv' c' fr' til' = ((decide (lv = lv') && decide (c = c')) && decide (fr = fr') && decide (til = til')) := by
    intro lv c fr til lv' c' fr' til'
    unfold sameA
    simp
  have KI := Lib.hid ki
  have KS := Lib.hid ks
  have HSD := Lib.hid hsd
  have KB := Lib.hid kb
  clear kb hv hl hbulk hgl ki ks hsd
  obtain ⟨W0, hW0⟩ : ∃ z, ((w.alloc (.cells #[.string src, .slice fa fl.length fc, .int .i64 lv, .int .u32 c, .int .i64 fr, .int .i64 til] 32)).alloc (.cells #[.int .i64 ll, .int .u32 lc] 30)).alloc (.cells #[.int .i64 n0, .int .i64 n1] 69) = z := ⟨_, rfl⟩
  have hb0 : Below w.heap.size w W0 := by rw [← hW0]; exact ((alloc_below _ _).trans ((alloc_below _ _).mono (by simp))).trans ((alloc_below _ _).mono (by simp; omega))
  have hz : w.heap.size + 1 + 1 < W0.heap.size := by rw [← hW0]; simp
  have hbb := (Below.refl W0.heap.size W0)
  rw [← hW0] at hbb
  obtain ⟨g1, g2, g3⟩ := box_cells hbb
  obtain ⟨g4, g5, g6, g7⟩ := box_two g3
  rw [hW0] at g1 g4 g5
  simp only [World.size_alloc] at g1
  have HA : Hid (C6 w.heap.size (.string src) (.slice fa fl.length fc) (.int .i64 lv) (.int .u32 c) (.int .i64 fr) (.int .i64 til) W0) := Lib.hid ⟨g4 0 _ rfl, g4 1 _ rfl, g4 2 _ rfl, g4 3 _ rfl, g4 4 _ rfl, g4 5 _ rfl⟩
  have HL : Hid (∀ W, Below W0.heap.size W0 W → W.cell? ⟨w.heap.size + 1, 0, none⟩ = some (.int .i64 ll) ∧ W.cell? ⟨w.heap.size + 1, 1, none⟩ = some (.int .u32 lc) ∧ W.cell? ⟨w.heap.size + 1 + 1, 0, none⟩ = some (.int .i64 n0) ∧ W.cell? ⟨w.heap.size + 1 + 1, 1, none⟩ = some (.int .i64 n1)) :=
    Lib.hid (fun W h => ⟨keep_cell (g5 0 _ rfl) h (by omega), keep_cell (g5 1 _ rfl) h (by omega), keep_cell (g1 0 _ rfl) h (by omega), keep_cell (g1 1 _ rfl) h (by omega)⟩)
  have HB0 := Lib.hid hb0
  have HZ0 := Lib.hid hz
  have HW0 := Lib.hid hW0
  clear g1 g2 g3 g4 g5 g6 g7 hbb hb0 hz hW0
  go_enter Try.func7, Try.ntmps7
  go_upto_region 1 with fail
  rw [HW0.out]
  clear HW0
  go_wp2_with fail
  refine (kl _).mono ?_
  rintro e w1 ⟨rfl, hb1⟩
  obtain ⟨a0, a1, a2, a3, a4, a5⟩ := HA.out.later hb1 (by have := HZ0.out; omega)
  have HB1 := Lib.hid hb1
  clear HA hb1 kl
  go_wp2_with fail
  refine (KB.out _ (HB0.out.trans (HB1.out.mono HB0.out.size))).mono ?_
  rintro e w2 ⟨v2, rfl, hf2, hb2⟩
  obtain ⟨ga, gc, rfl, _, _⟩ := RdAt.shape hf2
  have HF2 := Lib.hid (hf2.later hb2)
  have HB2 : Hid (Below W0.heap.size W0 w2) := Lib.hid (HB1.out.trans (hb2.mono HB1.out.size))
  clear a0 a1 a2 a3 a4 a5 KB hf2 hb2 HB1
  obtain ⟨l0, l1, t0, t1⟩ := HL.out _ HB2.out
  have hz := HZ0.out
  have hz2 := HB2.out.size
  have q0 : w.heap.size < w2.heap.size := by omega
  have q1 : w.heap.size + 1 < w2.heap.size := by omega
  have q2 : w.heap.size + 1 + 1 < w2.heap.size := by omega
  go_upto_region 8 with fail
  change Code.wp _ _ _ _ ((w2.alloc (.cells #[.string src, .slice ga gl.length gc, .int .i64 lv, .int .u32 c, .int .i64 fr, .int .i64 til] 35)).alloc (.cells #[.string src, .slice ga gl.length gc, .int .i64 ll, .int .u32 lc, .int .i64 n0, .int .i64 n1] 35))
  have hb4 := ((alloc_below w2 (.cells #[.string src, .slice ga gl.length gc, .int .i64 lv, .int .u32 c, .int .i64 fr, .int .i64 til] 35)).trans ((alloc_below _ (.cells #[.string src, .slice ga gl.length gc, .int .i64 ll, .int .u32 lc, .int .i64 n0, .int .i64 n1] 35)).mono (by simp)))
  have hbx := Below.refl (((w2.alloc (.cells #[.string src, .slice ga gl.length gc, .int .i64 lv, .int .u32 c, .int .i64 fr, .int .i64 til] 35)).alloc (.cells #[.string src, .slice ga gl.length gc, .int .i64 ll, .int .u32 lc, .int .i64 n0, .int .i64 n1] 35))).heap.size ((w2.alloc (.cells #[.string src, .slice ga gl.length gc, .int .i64 lv, .int .u32 c, .int .i64 fr, .int .i64 til] 35)).alloc (.cells #[.string src, .slice ga gl.length gc, .int .i64 ll, .int .u32 lc, .int .i64 n0, .int .i64 n1] 35))
  obtain ⟨h1, h2, hlty, _⟩ := box_two hbx
  clear hbx
  generalize (w2.alloc (.cells #[.string src, .slice ga gl.length gc, .int .i64 lv, .int .u32 c, .int .i64 fr, .int .i64 til] 35)).alloc (.cells #[.string src, .slice ga gl.length gc, .int .i64 ll, .int .u32 lc, .int .i64 n0, .int .i64 n1] 35) = w4 at *
  have hF4 := HF2.out.later hb4
  have hB4 : Below W0.heap.size W0 w4 := HB2.out.trans (hb4.mono hz2)
  have hltx : w2.heap.size < w4.heap.size := by omega
  generalize w2.heap.size = bx at *
  have x0 := h1 0 _ rfl
  have x1 := h1 1 _ rfl
  have x2 := h1 2 _ rfl
  have x3 := h1 3 _ rfl
  have x4 := h1 4 _ rfl
  have x5 := h1 5 _ rfl
  have y0 := h2 0 _ rfl
  have y1 := h2 1 _ rfl
  have y2 := h2 2 _ rfl
  have y3 := h2 3 _ rfl
  have y4 := h2 4 _ rfl
  have y5 := h2 5 _ rfl
  obtain ⟨l0, l1, t0, t1⟩ := HL.out _ hB4
  have hltl : w.heap.size + 1 < w4.heap.size := by have := hB4.size; omega
  have hltt : w.heap.size + 1 + 1 < w4.heap.size := by have := hB4.size; omega
  clear HL h1 h2 HB2 HF2 hz hz2 hb4
  have K1 : Hid (∀ W, Below w4.heap.size w4 W → Calls Try.prog 31 #[.agg #[.string src, .slice ga gl.length gc, .int .i64 lv, .int .u32 c, .int .i64 fr, .int .i64 til]] W fun e w' => e = .returned (.int .u64 (shortL (idB src gl))) ∧ Below W.heap.size W w') := Lib.hid (fun W h => KI.out _ _ _ _ _ W (hF4.later h))
  have K2 : Hid (∀ W, Below w4.heap.size w4 W → Calls Try.prog 31 #[.agg #[.string src, .slice ga gl.length gc, .int .i64 ll, .int .u32 lc, .int .i64 n0, .int .i64 n1]] W fun e w' => e = .returned (.int .u64 (shortL (idB src gl))) ∧ Below W.heap.size W w') := Lib.hid (fun W h => KI.out _ _ _ _ _ W (hF4.later h))
  have K3 : Hid (∀ W, Below w4.heap.size w4 W → Calls Try.prog 30 #[.agg #[.string src, .slice ga gl.length gc, .int .i64 lv, .int .u32 c, .int .i64 fr, .int .i64 til], .agg #[.string src, .slice ga gl.length gc, .int .i64 ll, .int .u32 lc, .int .i64 n0, .int .i64 n1]] W fun e w' => e = .returned (.bool ((decide (lv = ll) && decide (c = lc)) && decide (fr = n0) && decide (til = n1))) ∧ Below W.heap.size W w') := Lib.hid (fun W h => HSD.out _ _ _ _ _ _ _ _ ▸ KS.out _ _ _ _ _ _ _ _ _ W (hF4.later h))
  have HB4 := Lib.hid (HB0.out.trans (hB4.mono HB0.out.size))
  generalize shortL (idB src gl) = nid at *
  have hnn : (nid == nid) = true := by simp
  clear KI KS HSD hF4 hB4 HB0 HZ0
  obtain ⟨q, hq⟩ : ∃ q, ((decide (lv = ll) && decide (c = lc)) && decide (fr = n0) && decide (til = n1)) = q := ⟨_, rfl⟩
  rw [hq] at K3
  by_cases e1 : lv = ll
  · by_cases e2 : c = lc
    · by_cases e3 : fr = n0
      · by_cases e4 : til = n1
        · obtain rfl : true = q := by rw [← hq]; simp [e1, e2, e3, e4]
          subst e1 e2 e3 e4
          clear hq
          refine wp_region_held_drew (S := (fun W => W.cell? ⟨bx, 0, none⟩ = some (.string src) ∧ W.cell? ⟨bx, 1, none⟩ = some (.slice ga gl.length gc) ∧ W.cell? ⟨bx, 2, none⟩ = some (.int .i64 lv) ∧ W.cell? ⟨bx, 3, none⟩ = some (.int .u32 c) ∧ W.cell? ⟨bx, 4, none⟩ = some (.int .i64 fr) ∧ W.cell? ⟨bx, 5, none⟩ = some (.int .i64 til) ∧ W.cell? ⟨bx + 1, 0, none⟩ = some (.string src) ∧ W.cell? ⟨bx + 1, 1, none⟩ = some (.slice ga gl.length gc) ∧ W.cell? ⟨bx + 1, 2, none⟩ = some (.int .i64 lv) ∧ W.cell? ⟨bx + 1, 3, none⟩ = some (.int .u32 c) ∧ W.cell? ⟨bx + 1, 4, none⟩ = some (.int .i64 fr) ∧ W.cell? ⟨bx + 1, 5, none⟩ = some (.int .i64 til) ∧ W.cell? ⟨w.heap.size + 1, 0, none⟩ = some (.int .i64 lv) ∧ W.cell? ⟨w.heap.size + 1, 1, none⟩ = some (.int .u32 c) ∧ W.cell? ⟨w.heap.size + 1 + 1, 0, none⟩ = some (.int .i64 fr) ∧ W.cell? ⟨w.heap.size + 1 + 1, 1, none⟩ = some (.int .i64 til))) (by kernel_rfl) ⟨x0, x1, x2, x3, x4, x5, y0, y1, y2, y3, y4, y5, l0, l1, t0, t1⟩ (fun hHeld => ?_)
          have hd : Below w4.heap.size w4 w4.drew := (Below.refl _ _).drew
          refine held_take (i := 0) (v := ?_) rfl rfl (by kernel_rfl) (by kernel_rfl) (by kernel_rfl) (fun _ _ _ h => h) (by rfl) hHeld ?_ ?_
          rotate_left
          · rintro wh ⟨z0, z1, z2, z3, z4, z5, z6, z7, z8, z9, z10, z11, z12, z13, z14, z15⟩
            go_simp
            (try with_reducible rfl)
          simp only [Act.put, List.setIfInBounds_toArray, List.set_cons_zero, List.set_cons_succ]
          refine held_take (i := 2) (v := ?_) rfl rfl (by kernel_rfl) (by kernel_rfl) (by kernel_rfl) (fun _ _ _ h => h) (by rfl) hHeld ?_ ?_
          rotate_left
          · rintro wh ⟨z0, z1, z2, z3, z4, z5, z6, z7, z8, z9, z10, z11, z12, z13, z14, z15⟩
            go_simp
            (try with_reducible rfl)
          simp only [Act.put, List.setIfInBounds_toArray, List.set_cons_zero, List.set_cons_succ]
          refine held_call (i := 1) rfl (by kernel_rfl) (by rfl) (fun K hK => ?_)
          (go_simp; go_at_call 31; refine (K1.out _ hd).mono ?_; rintro e v0 ⟨rfl, hb0⟩; have hB0 := hd.trans (hb0.mono hd.size))
          refine hK.out _ _ ⟨keep_cell x0 hB0 hltx, keep_cell x1 hB0 hltx, keep_cell x2 hB0 hltx, keep_cell x3 hB0 hltx, keep_cell x4 hB0 hltx, keep_cell x5 hB0 hltx, keep_cell y0 hB0 hlty, keep_cell y1 hB0 hlty, keep_cell y2 hB0 hlty, keep_cell y3 hB0 hlty, keep_cell y4 hB0 hlty, keep_cell y5 hB0 hlty, keep_cell l0 hB0 hltl, keep_cell l1 hB0 hltl, keep_cell t0 hB0 hltt, keep_cell t1 hB0 hltt⟩ (fun hHeld => ?_)
          clear hK K
          (try simp only [Act.put, List.setIfInBounds_toArray, List.set_cons_zero, List.set_cons_succ])
          refine held_call (i := 3) rfl (by kernel_rfl) (by rfl) (fun K hK => ?_)
          (go_simp; go_at_call 31; refine (K2.out _ hB0).mono ?_; rintro e v1 ⟨rfl, hb1⟩; have hB1 := hB0.trans (hb1.mono hB0.size))
          refine hK.out _ _ ⟨keep_cell x0 hB1 hltx, keep_cell x1 hB1 hltx, keep_cell x2 hB1 hltx, keep_cell x3 hB1 hltx, keep_cell x4 hB1 hltx, keep_cell x5 hB1 hltx, keep_cell y0 hB1 hlty, keep_cell y1 hB1 hlty, keep_cell y2 hB1 hlty, keep_cell y3 hB1 hlty, keep_cell y4 hB1 hlty, keep_cell y5 hB1 hlty, keep_cell l0 hB1 hltl, keep_cell l1 hB1 hltl, keep_cell t0 hB1 hltt, keep_cell t1 hB1 hltt⟩ (fun hHeld => ?_)
          clear hK K
          (try simp only [Act.put, List.setIfInBounds_toArray, List.set_cons_zero, List.set_cons_succ])
          refine held_take (i := 4) (v := ?_) rfl rfl (by kernel_rfl) (by kernel_rfl) (by kernel_rfl) (fun _ _ _ h => h) (by rfl) hHeld ?_ ?_
          rotate_left
          · rintro wh ⟨z0, z1, z2, z3, z4, z5, z6, z7, z8, z9, z10, z11, z12, z13, z14, z15⟩
            go_simp
            (try with_reducible rfl)
          simp only [Act.put, List.setIfInBounds_toArray, List.set_cons_zero, List.set_cons_succ]
          refine held_take (i := 5) (v := ?_) rfl rfl (by kernel_rfl) (by kernel_rfl) (by kernel_rfl) (fun _ _ _ h => h) (by rfl) hHeld ?_ ?_
          rotate_left
          · rintro wh ⟨z0, z1, z2, z3, z4, z5, z6, z7, z8, z9, z10, z11, z12, z13, z14, z15⟩
            go_simp
            (try with_reducible rfl)
          simp only [Act.put, List.setIfInBounds_toArray, List.set_cons_zero, List.set_cons_succ]
          refine held_take (i := 6) (v := ?_) rfl rfl (by kernel_rfl) (by kernel_rfl) (by kernel_rfl) (fun _ _ _ h => h) (by rfl) hHeld ?_ ?_
          rotate_left
          · rintro wh ⟨z0, z1, z2, z3, z4, z5, z6, z7, z8, z9, z10, z11, z12, z13, z14, z15⟩
            go_simp
            (try with_reducible rfl)
          simp only [Act.put, List.setIfInBounds_toArray, List.set_cons_zero, List.set_cons_succ]
          refine held_take (i := 7) (v := ?_) rfl rfl (by kernel_rfl) (by kernel_rfl) (by kernel_rfl) (fun _ _ _ h => h) (by rfl) hHeld ?_ ?_
          rotate_left
          · rintro wh ⟨z0, z1, z2, z3, z4, z5, z6, z7, z8, z9, z10, z11, z12, z13, z14, z15⟩
            go_simp
            (try with_reducible rfl)
          simp only [Act.put, List.setIfInBounds_toArray, List.set_cons_zero, List.set_cons_succ]
          refine held_take (i := 9) (v := ?_) rfl rfl (by kernel_rfl) (by kernel_rfl) (by kernel_rfl) (fun _ _ _ h => h) (by rfl) hHeld ?_ ?_
          rotate_left
          · rintro wh ⟨z0, z1, z2, z3, z4, z5, z6, z7, z8, z9, z10, z11, z12, z13, z14, z15⟩
            go_simp
            (try with_reducible rfl)
          simp only [Act.put, List.setIfInBounds_toArray, List.set_cons_zero, List.set_cons_succ]
          refine held_take (i := 10) (v := ?_) rfl rfl (by kernel_rfl) (by kernel_rfl) (by kernel_rfl) (fun _ _ _ h => h) (by rfl) hHeld ?_ ?_
          rotate_left
          · rintro wh ⟨z0, z1, z2, z3, z4, z5, z6, z7, z8, z9, z10, z11, z12, z13, z14, z15⟩
            go_simp
            (try with_reducible rfl)
          simp only [Act.put, List.setIfInBounds_toArray, List.set_cons_zero, List.set_cons_succ]
          refine held_take (i := 11) (v := ?_) rfl rfl (by kernel_rfl) (by kernel_rfl) (by kernel_rfl) (fun _ _ _ h => h) (by rfl) hHeld ?_ ?_
          rotate_left
          · rintro wh ⟨z0, z1, z2, z3, z4, z5, z6, z7, z8, z9, z10, z11, z12, z13, z14, z15⟩
            go_simp
            (try with_reducible rfl)
          simp only [Act.put, List.setIfInBounds_toArray, List.set_cons_zero, List.set_cons_succ]
          refine held_take (i := 12) (v := ?_) rfl rfl (by kernel_rfl) (by kernel_rfl) (by kernel_rfl) (fun _ _ _ h => h) (by rfl) hHeld ?_ ?_
          rotate_left
          · rintro wh ⟨z0, z1, z2, z3, z4, z5, z6, z7, z8, z9, z10, z11, z12, z13, z14, z15⟩
            go_simp
            (try with_reducible rfl)
          simp only [Act.put, List.setIfInBounds_toArray, List.set_cons_zero, List.set_cons_succ]
          refine held_call (i := 8) rfl (by kernel_rfl) (by rfl) (fun K hK => ?_)
          (go_simp; go_at_call 30; refine (K3.out _ hB1).mono ?_; rintro e v2 ⟨rfl, hb2⟩; have hB2 := hB1.trans (hb2.mono hB1.size))
          refine hK.out _ _ ⟨keep_cell x0 hB2 hltx, keep_cell x1 hB2 hltx, keep_cell x2 hB2 hltx, keep_cell x3 hB2 hltx, keep_cell x4 hB2 hltx, keep_cell x5 hB2 hltx, keep_cell y0 hB2 hlty, keep_cell y1 hB2 hlty, keep_cell y2 hB2 hlty, keep_cell y3 hB2 hlty, keep_cell y4 hB2 hlty, keep_cell y5 hB2 hlty, keep_cell l0 hB2 hltl, keep_cell l1 hB2 hltl, keep_cell t0 hB2 hltt, keep_cell t1 hB2 hltt⟩ (fun hHeld => ?_)
          clear hK K
          (try simp only [Act.put, List.setIfInBounds_toArray, List.set_cons_zero, List.set_cons_succ])
          refine held_take (i := 13) (v := ?_) rfl rfl (by kernel_rfl) (by kernel_rfl) (by kernel_rfl) (fun _ _ _ h => h) (by rfl) hHeld ?_ ?_
          rotate_left
          · rintro wh ⟨z0, z1, z2, z3, z4, z5, z6, z7, z8, z9, z10, z11, z12, z13, z14, z15⟩
            go_simp
            (try with_reducible rfl)
          simp only [Act.put, List.setIfInBounds_toArray, List.set_cons_zero, List.set_cons_succ]
          refine held_take (i := 14) (v := ?_) rfl rfl (by kernel_rfl) (by kernel_rfl) (by kernel_rfl) (fun _ _ _ h => h) (by rfl) hHeld ?_ ?_
          rotate_left
          · rintro wh ⟨z0, z1, z2, z3, z4, z5, z6, z7, z8, z9, z10, z11, z12, z13, z14, z15⟩
            go_simp
            (try with_reducible rfl)
          simp only [Act.put, List.setIfInBounds_toArray, List.set_cons_zero, List.set_cons_succ]
          refine held_take (i := 15) (v := ?_) rfl rfl (by kernel_rfl) (by kernel_rfl) (by kernel_rfl) (fun _ _ _ h => h) (by rfl) hHeld ?_ ?_
          rotate_left
          · rintro wh ⟨z0, z1, z2, z3, z4, z5, z6, z7, z8, z9, z10, z11, z12, z13, z14, z15⟩
            go_simp
            (try with_reducible rfl)
          simp only [Act.put, List.setIfInBounds_toArray, List.set_cons_zero, List.set_cons_succ]
          refine held_take (i := 16) (v := ?_) rfl rfl (by kernel_rfl) (by kernel_rfl) (by kernel_rfl) (fun _ _ _ h => h) (by rfl) hHeld ?_ ?_
          rotate_left
          · rintro wh ⟨z0, z1, z2, z3, z4, z5, z6, z7, z8, z9, z10, z11, z12, z13, z14, z15⟩
            go_simp
            (try with_reducible rfl)
          simp only [Act.put, List.setIfInBounds_toArray, List.set_cons_zero, List.set_cons_succ]
          refine held_take (i := 17) (v := ?_) rfl rfl (by kernel_rfl) (by kernel_rfl) (by kernel_rfl) (fun _ _ _ h => h) (by rfl) hHeld ?_ ?_
          rotate_left
          · rintro wh ⟨z0, z1, z2, z3, z4, z5, z6, z7, z8, z9, z10, z11, z12, z13, z14, z15⟩
            go_simp
            (try with_reducible rfl)
          simp only [Act.put, List.setIfInBounds_toArray, List.set_cons_zero, List.set_cons_succ]
          refine held_take (i := 18) (v := ?_) rfl rfl (by kernel_rfl) (by kernel_rfl) (by kernel_rfl) (fun _ _ _ h => h) (by rfl) hHeld ?_ ?_
          rotate_left
          · rintro wh ⟨z0, z1, z2, z3, z4, z5, z6, z7, z8, z9, z10, z11, z12, z13, z14, z15⟩
            go_simp
            (try with_reducible rfl)
          simp only [Act.put, List.setIfInBounds_toArray, List.set_cons_zero, List.set_cons_succ]
          refine held_take (i := 19) (v := ?_) rfl rfl (by kernel_rfl) (by kernel_rfl) (by kernel_rfl) (fun _ _ _ h => h) (by rfl) hHeld ?_ ?_
          rotate_left
          · rintro wh ⟨z0, z1, z2, z3, z4, z5, z6, z7, z8, z9, z10, z11, z12, z13, z14, z15⟩
            go_simp
            (try with_reducible rfl)
          simp only [Act.put, List.setIfInBounds_toArray, List.set_cons_zero, List.set_cons_succ]
          refine held_take (i := 20) (v := ?_) rfl rfl (by kernel_rfl) (by kernel_rfl) (by kernel_rfl) (fun _ _ _ h => h) (by rfl) hHeld ?_ ?_
          rotate_left
          · rintro wh ⟨z0, z1, z2, z3, z4, z5, z6, z7, z8, z9, z10, z11, z12, z13, z14, z15⟩
            go_simp
            (try with_reducible rfl)
          simp only [Act.put, List.setIfInBounds_toArray, List.set_cons_zero, List.set_cons_succ]
          refine held_take (i := 21) (v := ?_) rfl rfl (by kernel_rfl) (by kernel_rfl) (by kernel_rfl) (fun _ _ _ h => h) (by rfl) hHeld ?_ ?_
          rotate_left
          · rintro wh ⟨z0, z1, z2, z3, z4, z5, z6, z7, z8, z9, z10, z11, z12, z13, z14, z15⟩
            go_simp
            (try with_reducible rfl)
          simp only [Act.put, List.setIfInBounds_toArray, List.set_cons_zero, List.set_cons_succ]
          refine held_take (i := 22) (v := ?_) rfl rfl (by kernel_rfl) (by kernel_rfl) (by kernel_rfl) (fun _ _ _ h => h) (by rfl) hHeld ?_ ?_
          rotate_left
          · rintro wh ⟨z0, z1, z2, z3, z4, z5, z6, z7, z8, z9, z10, z11, z12, z13, z14, z15⟩
            go_simp
            (try with_reducible rfl)
          simp only [Act.put, List.setIfInBounds_toArray, List.set_cons_zero, List.set_cons_succ]
          refine held_take (i := 23) (v := ?_) rfl rfl (by kernel_rfl) (by kernel_rfl) (by kernel_rfl) (fun _ _ _ h => h) (by rfl) hHeld ?_ ?_
          rotate_left
          · rintro wh ⟨z0, z1, z2, z3, z4, z5, z6, z7, z8, z9, z10, z11, z12, z13, z14, z15⟩
            go_simp
            (try with_reducible rfl)
          simp only [Act.put, List.setIfInBounds_toArray, List.set_cons_zero, List.set_cons_succ]
          refine held_take (i := 24) (v := ?_) rfl rfl (by kernel_rfl) (by kernel_rfl) (by kernel_rfl) (fun _ _ _ h => h) (by rfl) hHeld ?_ ?_
          rotate_left
          · rintro wh ⟨z0, z1, z2, z3, z4, z5, z6, z7, z8, z9, z10, z11, z12, z13, z14, z15⟩
            go_simp
            (try with_reducible rfl)
          simp only [Act.put, List.setIfInBounds_toArray, List.set_cons_zero, List.set_cons_succ]
          refine held_take (i := 25) (v := ?_) rfl rfl (by kernel_rfl) (by kernel_rfl) (by kernel_rfl) (fun _ _ _ h => h) (by rfl) hHeld ?_ ?_
          rotate_left
          · rintro wh ⟨z0, z1, z2, z3, z4, z5, z6, z7, z8, z9, z10, z11, z12, z13, z14, z15⟩
            go_simp
            (try with_reducible rfl)
          simp only [Act.put, List.setIfInBounds_toArray, List.set_cons_zero, List.set_cons_succ]
          refine held_take (i := 26) (v := ?_) rfl rfl (by kernel_rfl) (by kernel_rfl) (by kernel_rfl) (fun _ _ _ h => h) (by rfl) hHeld ?_ ?_
          rotate_left
          · rintro wh ⟨z0, z1, z2, z3, z4, z5, z6, z7, z8, z9, z10, z11, z12, z13, z14, z15⟩
            go_simp
            (try with_reducible rfl)
          simp only [Act.put, List.setIfInBounds_toArray, List.set_cons_zero, List.set_cons_succ]
          refine held_take (i := 27) (v := ?_) rfl rfl (by kernel_rfl) (by kernel_rfl) (by kernel_rfl) (fun _ _ _ h => h) (by rfl) hHeld ?_ ?_
          rotate_left
          · rintro wh ⟨z0, z1, z2, z3, z4, z5, z6, z7, z8, z9, z10, z11, z12, z13, z14, z15⟩
            go_simp
            (try with_reducible rfl)
          simp only [Act.put, List.setIfInBounds_toArray, List.set_cons_zero, List.set_cons_succ]
          refine held_take (i := 28) (v := ?_) rfl rfl (by kernel_rfl) (by kernel_rfl) (by kernel_rfl) (fun _ _ _ h => h) (by rfl) hHeld ?_ ?_
          rotate_left
          · rintro wh ⟨z0, z1, z2, z3, z4, z5, z6, z7, z8, z9, z10, z11, z12, z13, z14, z15⟩
            go_simp
            (try with_reducible rfl)
          simp only [Act.put, List.setIfInBounds_toArray, List.set_cons_zero, List.set_cons_succ]
          refine held_take (i := 29) (v := ?_) rfl rfl (by kernel_rfl) (by kernel_rfl) (by kernel_rfl) (fun _ _ _ h => h) (by rfl) hHeld ?_ ?_
          rotate_left
          · rintro wh ⟨z0, z1, z2, z3, z4, z5, z6, z7, z8, z9, z10, z11, z12, z13, z14, z15⟩
            go_simp
            (try with_reducible rfl)
          simp only [Act.put, List.setIfInBounds_toArray, List.set_cons_zero, List.set_cons_succ]
          refine wpAnyH_done (by kernel_rfl) ?_ _
          go_wp2
          go_ret
          exact ⟨rfl, HB4.out.trans (hB2.mono HB4.out.size)⟩
        · obtain rfl : false = q := by rw [← hq]; simp [e4]
          have n4 : (til == n1) = false := by rw [beq_eq_false_iff_ne]; exact e4
          subst e1 e2 e3
          clear hq e4
          refine wp_region_held_drew (S := (fun W => W.cell? ⟨bx, 0, none⟩ = some (.string src) ∧ W.cell? ⟨bx, 1, none⟩ = some (.slice ga gl.length gc) ∧ W.cell? ⟨bx, 2, none⟩ = some (.int .i64 lv) ∧ W.cell? ⟨bx, 3, none⟩ = some (.int .u32 c) ∧ W.cell? ⟨bx, 4, none⟩ = some (.int .i64 fr) ∧ W.cell? ⟨bx, 5, none⟩ = some (.int .i64 til) ∧ W.cell? ⟨bx + 1, 0, none⟩ = some (.string src) ∧ W.cell? ⟨bx + 1, 1, none⟩ = some (.slice ga gl.length gc) ∧ W.cell? ⟨bx + 1, 2, none⟩ = some (.int .i64 lv) ∧ W.cell? ⟨bx + 1, 3, none⟩ = some (.int .u32 c) ∧ W.cell? ⟨bx + 1, 4, none⟩ = some (.int .i64 fr) ∧ W.cell? ⟨bx + 1, 5, none⟩ = some (.int .i64 n1) ∧ W.cell? ⟨w.heap.size + 1, 0, none⟩ = some (.int .i64 lv) ∧ W.cell? ⟨w.heap.size + 1, 1, none⟩ = some (.int .u32 c) ∧ W.cell? ⟨w.heap.size + 1 + 1, 0, none⟩ = some (.int .i64 fr) ∧ W.cell? ⟨w.heap.size + 1 + 1, 1, none⟩ = some (.int .i64 n1))) (by kernel_rfl) ⟨x0, x1, x2, x3, x4, x5, y0, y1, y2, y3, y4, y5, l0, l1, t0, t1⟩ (fun hHeld => ?_)
          have hd : Below w4.heap.size w4 w4.drew := (Below.refl _ _).drew
          refine held_take (i := 0) (v := ?_) rfl rfl (by kernel_rfl) (by kernel_rfl) (by kernel_rfl) (fun _ _ _ h => h) (by rfl) hHeld ?_ ?_
          rotate_left
          · rintro wh ⟨z0, z1, z2, z3, z4, z5, z6, z7, z8, z9, z10, z11, z12, z13, z14, z15⟩
            go_simp
            (try with_reducible rfl)
          simp only [Act.put, List.setIfInBounds_toArray, List.set_cons_zero, List.set_cons_succ]
          refine held_take (i := 2) (v := ?_) rfl rfl (by kernel_rfl) (by kernel_rfl) (by kernel_rfl) (fun _ _ _ h => h) (by rfl) hHeld ?_ ?_
          rotate_left
          · rintro wh ⟨z0, z1, z2, z3, z4, z5, z6, z7, z8, z9, z10, z11, z12, z13, z14, z15⟩
            go_simp
            (try with_reducible rfl)
          simp only [Act.put, List.setIfInBounds_toArray, List.set_cons_zero, List.set_cons_succ]
          refine held_call (i := 1) rfl (by kernel_rfl) (by rfl) (fun K hK => ?_)
          (go_simp; go_at_call 31; refine (K1.out _ hd).mono ?_; rintro e v0 ⟨rfl, hb0⟩; have hB0 := hd.trans (hb0.mono hd.size))
          refine hK.out _ _ ⟨keep_cell x0 hB0 hltx, keep_cell x1 hB0 hltx, keep_cell x2 hB0 hltx, keep_cell x3 hB0 hltx, keep_cell x4 hB0 hltx, keep_cell x5 hB0 hltx, keep_cell y0 hB0 hlty, keep_cell y1 hB0 hlty, keep_cell y2 hB0 hlty, keep_cell y3 hB0 hlty, keep_cell y4 hB0 hlty, keep_cell y5 hB0 hlty, keep_cell l0 hB0 hltl, keep_cell l1 hB0 hltl, keep_cell t0 hB0 hltt, keep_cell t1 hB0 hltt⟩ (fun hHeld => ?_)
          clear hK K
          (try simp only [Act.put, List.setIfInBounds_toArray, List.set_cons_zero, List.set_cons_succ])
          refine held_call (i := 3) rfl (by kernel_rfl) (by rfl) (fun K hK => ?_)
          (go_simp; go_at_call 31; refine (K2.out _ hB0).mono ?_; rintro e v1 ⟨rfl, hb1⟩; have hB1 := hB0.trans (hb1.mono hB0.size))
          refine hK.out _ _ ⟨keep_cell x0 hB1 hltx, keep_cell x1 hB1 hltx, keep_cell x2 hB1 hltx, keep_cell x3 hB1 hltx, keep_cell x4 hB1 hltx, keep_cell x5 hB1 hltx, keep_cell y0 hB1 hlty, keep_cell y1 hB1 hlty, keep_cell y2 hB1 hlty, keep_cell y3 hB1 hlty, keep_cell y4 hB1 hlty, keep_cell y5 hB1 hlty, keep_cell l0 hB1 hltl, keep_cell l1 hB1 hltl, keep_cell t0 hB1 hltt, keep_cell t1 hB1 hltt⟩ (fun hHeld => ?_)
          clear hK K
          (try simp only [Act.put, List.setIfInBounds_toArray, List.set_cons_zero, List.set_cons_succ])
          refine held_take (i := 4) (v := ?_) rfl rfl (by kernel_rfl) (by kernel_rfl) (by kernel_rfl) (fun _ _ _ h => h) (by rfl) hHeld ?_ ?_
          rotate_left
          · rintro wh ⟨z0, z1, z2, z3, z4, z5, z6, z7, z8, z9, z10, z11, z12, z13, z14, z15⟩
            go_simp
            (try with_reducible rfl)
          simp only [Act.put, List.setIfInBounds_toArray, List.set_cons_zero, List.set_cons_succ]
          refine held_take (i := 5) (v := ?_) rfl rfl (by kernel_rfl) (by kernel_rfl) (by kernel_rfl) (fun _ _ _ h => h) (by rfl) hHeld ?_ ?_
          rotate_left
          · rintro wh ⟨z0, z1, z2, z3, z4, z5, z6, z7, z8, z9, z10, z11, z12, z13, z14, z15⟩
            go_simp
            (try with_reducible rfl)
          simp only [Act.put, List.setIfInBounds_toArray, List.set_cons_zero, List.set_cons_succ]
          refine held_take (i := 6) (v := ?_) rfl rfl (by kernel_rfl) (by kernel_rfl) (by kernel_rfl) (fun _ _ _ h => h) (by rfl) hHeld ?_ ?_
          rotate_left
          · rintro wh ⟨z0, z1, z2, z3, z4, z5, z6, z7, z8, z9, z10, z11, z12, z13, z14, z15⟩
            go_simp
            (try with_reducible rfl)
          simp only [Act.put, List.setIfInBounds_toArray, List.set_cons_zero, List.set_cons_succ]
          refine held_take (i := 7) (v := ?_) rfl rfl (by kernel_rfl) (by kernel_rfl) (by kernel_rfl) (fun _ _ _ h => h) (by rfl) hHeld ?_ ?_
          rotate_left
          · rintro wh ⟨z0, z1, z2, z3, z4, z5, z6, z7, z8, z9, z10, z11, z12, z13, z14, z15⟩
            go_simp
            (try with_reducible rfl)
          simp only [Act.put, List.setIfInBounds_toArray, List.set_cons_zero, List.set_cons_succ]
          refine held_take (i := 9) (v := ?_) rfl rfl (by kernel_rfl) (by kernel_rfl) (by kernel_rfl) (fun _ _ _ h => h) (by rfl) hHeld ?_ ?_
          rotate_left
          · rintro wh ⟨z0, z1, z2, z3, z4, z5, z6, z7, z8, z9, z10, z11, z12, z13, z14, z15⟩
            go_simp
            (try with_reducible rfl)
          simp only [Act.put, List.setIfInBounds_toArray, List.set_cons_zero, List.set_cons_succ]
          refine held_take (i := 10) (v := ?_) rfl rfl (by kernel_rfl) (by kernel_rfl) (by kernel_rfl) (fun _ _ _ h => h) (by rfl) hHeld ?_ ?_
          rotate_left
          · rintro wh ⟨z0, z1, z2, z3, z4, z5, z6, z7, z8, z9, z10, z11, z12, z13, z14, z15⟩
            go_simp
            (try with_reducible rfl)
          simp only [Act.put, List.setIfInBounds_toArray, List.set_cons_zero, List.set_cons_succ]
          refine held_take (i := 11) (v := ?_) rfl rfl (by kernel_rfl) (by kernel_rfl) (by kernel_rfl) (fun _ _ _ h => h) (by rfl) hHeld ?_ ?_
          rotate_left
          · rintro wh ⟨z0, z1, z2, z3, z4, z5, z6, z7, z8, z9, z10, z11, z12, z13, z14, z15⟩
            go_simp
            (try with_reducible rfl)
          simp only [Act.put, List.setIfInBounds_toArray, List.set_cons_zero, List.set_cons_succ]
          refine held_take (i := 12) (v := ?_) rfl rfl (by kernel_rfl) (by kernel_rfl) (by kernel_rfl) (fun _ _ _ h => h) (by rfl) hHeld ?_ ?_
          rotate_left
          · rintro wh ⟨z0, z1, z2, z3, z4, z5, z6, z7, z8, z9, z10, z11, z12, z13, z14, z15⟩
            go_simp
            (try with_reducible rfl)
          simp only [Act.put, List.setIfInBounds_toArray, List.set_cons_zero, List.set_cons_succ]
          refine held_call (i := 8) rfl (by kernel_rfl) (by rfl) (fun K hK => ?_)
          (go_simp; go_at_call 30; refine (K3.out _ hB1).mono ?_; rintro e v2 ⟨rfl, hb2⟩; have hB2 := hB1.trans (hb2.mono hB1.size))
          refine hK.out _ _ ⟨keep_cell x0 hB2 hltx, keep_cell x1 hB2 hltx, keep_cell x2 hB2 hltx, keep_cell x3 hB2 hltx, keep_cell x4 hB2 hltx, keep_cell x5 hB2 hltx, keep_cell y0 hB2 hlty, keep_cell y1 hB2 hlty, keep_cell y2 hB2 hlty, keep_cell y3 hB2 hlty, keep_cell y4 hB2 hlty, keep_cell y5 hB2 hlty, keep_cell l0 hB2 hltl, keep_cell l1 hB2 hltl, keep_cell t0 hB2 hltt, keep_cell t1 hB2 hltt⟩ (fun hHeld => ?_)
          clear hK K
          (try simp only [Act.put, List.setIfInBounds_toArray, List.set_cons_zero, List.set_cons_succ])
          refine held_take (i := 13) (v := ?_) rfl rfl (by kernel_rfl) (by kernel_rfl) (by kernel_rfl) (fun _ _ _ h => h) (by rfl) hHeld ?_ ?_
          rotate_left
          · rintro wh ⟨z0, z1, z2, z3, z4, z5, z6, z7, z8, z9, z10, z11, z12, z13, z14, z15⟩
            go_simp
            (try with_reducible rfl)
          simp only [Act.put, List.setIfInBounds_toArray, List.set_cons_zero, List.set_cons_succ]
          refine held_take (i := 14) (v := ?_) rfl rfl (by kernel_rfl) (by kernel_rfl) (by kernel_rfl) (fun _ _ _ h => h) (by rfl) hHeld ?_ ?_
          rotate_left
          · rintro wh ⟨z0, z1, z2, z3, z4, z5, z6, z7, z8, z9, z10, z11, z12, z13, z14, z15⟩
            go_simp
            (try with_reducible rfl)
          simp only [Act.put, List.setIfInBounds_toArray, List.set_cons_zero, List.set_cons_succ]
          refine held_take (i := 15) (v := ?_) rfl rfl (by kernel_rfl) (by kernel_rfl) (by kernel_rfl) (fun _ _ _ h => h) (by rfl) hHeld ?_ ?_
          rotate_left
          · rintro wh ⟨z0, z1, z2, z3, z4, z5, z6, z7, z8, z9, z10, z11, z12, z13, z14, z15⟩
            go_simp
            (try with_reducible rfl)
          simp only [Act.put, List.setIfInBounds_toArray, List.set_cons_zero, List.set_cons_succ]
          refine held_take (i := 16) (v := ?_) rfl rfl (by kernel_rfl) (by kernel_rfl) (by kernel_rfl) (fun _ _ _ h => h) (by rfl) hHeld ?_ ?_
          rotate_left
          · rintro wh ⟨z0, z1, z2, z3, z4, z5, z6, z7, z8, z9, z10, z11, z12, z13, z14, z15⟩
            go_simp
            (try with_reducible rfl)
          simp only [Act.put, List.setIfInBounds_toArray, List.set_cons_zero, List.set_cons_succ]
          refine held_take (i := 17) (v := ?_) rfl rfl (by kernel_rfl) (by kernel_rfl) (by kernel_rfl) (fun _ _ _ h => h) (by rfl) hHeld ?_ ?_
          rotate_left
          · rintro wh ⟨z0, z1, z2, z3, z4, z5, z6, z7, z8, z9, z10, z11, z12, z13, z14, z15⟩
            go_simp
            (try with_reducible rfl)
          simp only [Act.put, List.setIfInBounds_toArray, List.set_cons_zero, List.set_cons_succ]
          refine held_take (i := 18) (v := ?_) rfl rfl (by kernel_rfl) (by kernel_rfl) (by kernel_rfl) (fun _ _ _ h => h) (by rfl) hHeld ?_ ?_
          rotate_left
          · rintro wh ⟨z0, z1, z2, z3, z4, z5, z6, z7, z8, z9, z10, z11, z12, z13, z14, z15⟩
            go_simp
            (try with_reducible rfl)
          simp only [Act.put, List.setIfInBounds_toArray, List.set_cons_zero, List.set_cons_succ]
          refine held_take (i := 19) (v := ?_) rfl rfl (by kernel_rfl) (by kernel_rfl) (by kernel_rfl) (fun _ _ _ h => h) (by rfl) hHeld ?_ ?_
          rotate_left
          · rintro wh ⟨z0, z1, z2, z3, z4, z5, z6, z7, z8, z9, z10, z11, z12, z13, z14, z15⟩
            go_simp
            (try with_reducible rfl)
          simp only [Act.put, List.setIfInBounds_toArray, List.set_cons_zero, List.set_cons_succ]
          refine held_take (i := 20) (v := ?_) rfl rfl (by kernel_rfl) (by kernel_rfl) (by kernel_rfl) (fun _ _ _ h => h) (by rfl) hHeld ?_ ?_
          rotate_left
          · rintro wh ⟨z0, z1, z2, z3, z4, z5, z6, z7, z8, z9, z10, z11, z12, z13, z14, z15⟩
            go_simp
            (try with_reducible rfl)
          simp only [Act.put, List.setIfInBounds_toArray, List.set_cons_zero, List.set_cons_succ]
          refine held_take (i := 21) (v := ?_) rfl rfl (by kernel_rfl) (by kernel_rfl) (by kernel_rfl) (fun _ _ _ h => h) (by rfl) hHeld ?_ ?_
          rotate_left
          · rintro wh ⟨z0, z1, z2, z3, z4, z5, z6, z7, z8, z9, z10, z11, z12, z13, z14, z15⟩
            go_simp
            (try with_reducible rfl)
          simp only [Act.put, List.setIfInBounds_toArray, List.set_cons_zero, List.set_cons_succ]
          refine held_take (i := 22) (v := ?_) rfl rfl (by kernel_rfl) (by kernel_rfl) (by kernel_rfl) (fun _ _ _ h => h) (by rfl) hHeld ?_ ?_
          rotate_left
          · rintro wh ⟨z0, z1, z2, z3, z4, z5, z6, z7, z8, z9, z10, z11, z12, z13, z14, z15⟩
            go_simp
            (try with_reducible rfl)
          simp only [Act.put, List.setIfInBounds_toArray, List.set_cons_zero, List.set_cons_succ]
          refine held_take (i := 23) (v := ?_) rfl rfl (by kernel_rfl) (by kernel_rfl) (by kernel_rfl) (fun _ _ _ h => h) (by rfl) hHeld ?_ ?_
          rotate_left
          · rintro wh ⟨z0, z1, z2, z3, z4, z5, z6, z7, z8, z9, z10, z11, z12, z13, z14, z15⟩
            go_simp
            (try with_reducible rfl)
          simp only [Act.put, List.setIfInBounds_toArray, List.set_cons_zero, List.set_cons_succ]
          refine held_take (i := 24) (v := ?_) rfl rfl (by kernel_rfl) (by kernel_rfl) (by kernel_rfl) (fun _ _ _ h => h) (by rfl) hHeld ?_ ?_
          rotate_left
          · rintro wh ⟨z0, z1, z2, z3, z4, z5, z6, z7, z8, z9, z10, z11, z12, z13, z14, z15⟩
            go_simp
            (try with_reducible rfl)
          simp only [Act.put, List.setIfInBounds_toArray, List.set_cons_zero, List.set_cons_succ]
          refine held_take (i := 25) (v := ?_) rfl rfl (by kernel_rfl) (by kernel_rfl) (by kernel_rfl) (fun _ _ _ h => h) (by rfl) hHeld ?_ ?_
          rotate_left
          · rintro wh ⟨z0, z1, z2, z3, z4, z5, z6, z7, z8, z9, z10, z11, z12, z13, z14, z15⟩
            go_simp
            (try with_reducible rfl)
          simp only [Act.put, List.setIfInBounds_toArray, List.set_cons_zero, List.set_cons_succ]
          refine held_take (i := 26) (v := ?_) rfl rfl (by kernel_rfl) (by kernel_rfl) (by kernel_rfl) (fun _ _ _ h => h) (by rfl) hHeld ?_ ?_
          rotate_left
          · rintro wh ⟨z0, z1, z2, z3, z4, z5, z6, z7, z8, z9, z10, z11, z12, z13, z14, z15⟩
            go_simp
            (try with_reducible rfl)
          simp only [Act.put, List.setIfInBounds_toArray, List.set_cons_zero, List.set_cons_succ]
          refine held_take (i := 27) (v := ?_) rfl rfl (by kernel_rfl) (by kernel_rfl) (by kernel_rfl) (fun _ _ _ h => h) (by rfl) hHeld ?_ ?_
          rotate_left
          · rintro wh ⟨z0, z1, z2, z3, z4, z5, z6, z7, z8, z9, z10, z11, z12, z13, z14, z15⟩
            go_simp
            (try with_reducible rfl)
          simp only [Act.put, List.setIfInBounds_toArray, List.set_cons_zero, List.set_cons_succ]
          refine held_take (i := 28) (v := ?_) rfl rfl (by kernel_rfl) (by kernel_rfl) (by kernel_rfl) (fun _ _ _ h => h) (by rfl) hHeld ?_ ?_
          rotate_left
          · rintro wh ⟨z0, z1, z2, z3, z4, z5, z6, z7, z8, z9, z10, z11, z12, z13, z14, z15⟩
            go_simp
            (try with_reducible rfl)
          simp only [Act.put, List.setIfInBounds_toArray, List.set_cons_zero, List.set_cons_succ]
          refine held_take (i := 29) (v := ?_) rfl rfl (by kernel_rfl) (by kernel_rfl) (by kernel_rfl) (fun _ _ _ h => h) (by rfl) hHeld ?_ ?_
          rotate_left
          · rintro wh ⟨z0, z1, z2, z3, z4, z5, z6, z7, z8, z9, z10, z11, z12, z13, z14, z15⟩
            go_simp
            (try with_reducible rfl)
          simp only [Act.put, List.setIfInBounds_toArray, List.set_cons_zero, List.set_cons_succ]
          refine wpAnyH_done (by kernel_rfl) ?_ _
          go_wp2
          go_ret
          exact ⟨rfl, HB4.out.trans (hB2.mono HB4.out.size)⟩
      · obtain rfl : false = q := by rw [← hq]; simp [e3]
        have n3 : (fr == n0) = false := by rw [beq_eq_false_iff_ne]; exact e3
        subst e1 e2
        clear hq e3
        refine wp_region_held_drew (S := (fun W => W.cell? ⟨bx, 0, none⟩ = some (.string src) ∧ W.cell? ⟨bx, 1, none⟩ = some (.slice ga gl.length gc) ∧ W.cell? ⟨bx, 2, none⟩ = some (.int .i64 lv) ∧ W.cell? ⟨bx, 3, none⟩ = some (.int .u32 c) ∧ W.cell? ⟨bx, 4, none⟩ = some (.int .i64 fr) ∧ W.cell? ⟨bx, 5, none⟩ = some (.int .i64 til) ∧ W.cell? ⟨bx + 1, 0, none⟩ = some (.string src) ∧ W.cell? ⟨bx + 1, 1, none⟩ = some (.slice ga gl.length gc) ∧ W.cell? ⟨bx + 1, 2, none⟩ = some (.int .i64 lv) ∧ W.cell? ⟨bx + 1, 3, none⟩ = some (.int .u32 c) ∧ W.cell? ⟨bx + 1, 4, none⟩ = some (.int .i64 n0) ∧ W.cell? ⟨bx + 1, 5, none⟩ = some (.int .i64 n1) ∧ W.cell? ⟨w.heap.size + 1, 0, none⟩ = some (.int .i64 lv) ∧ W.cell? ⟨w.heap.size + 1, 1, none⟩ = some (.int .u32 c) ∧ W.cell? ⟨w.heap.size + 1 + 1, 0, none⟩ = some (.int .i64 n0) ∧ W.cell? ⟨w.heap.size + 1 + 1, 1, none⟩ = some (.int .i64 n1))) (by kernel_rfl) ⟨x0, x1, x2, x3, x4, x5, y0, y1, y2, y3, y4, y5, l0, l1, t0, t1⟩ (fun hHeld => ?_)
        have hd : Below w4.heap.size w4 w4.drew := (Below.refl _ _).drew
        refine held_take (i := 0) (v := ?_) rfl rfl (by kernel_rfl) (by kernel_rfl) (by kernel_rfl) (fun _ _ _ h => h) (by rfl) hHeld ?_ ?_
        rotate_left
        · rintro wh ⟨z0, z1, z2, z3, z4, z5, z6, z7, z8, z9, z10, z11, z12, z13, z14, z15⟩
          go_simp
          (try with_reducible rfl)
        simp only [Act.put, List.setIfInBounds_toArray, List.set_cons_zero, List.set_cons_succ]
        refine held_take (i := 2) (v := ?_) rfl rfl (by kernel_rfl) (by kernel_rfl) (by kernel_rfl) (fun _ _ _ h => h) (by rfl) hHeld ?_ ?_
        rotate_left
        · rintro wh ⟨z0, z1, z2, z3, z4, z5, z6, z7, z8, z9, z10, z11, z12, z13, z14, z15⟩
          go_simp
          (try with_reducible rfl)
        simp only [Act.put, List.setIfInBounds_toArray, List.set_cons_zero, List.set_cons_succ]
        refine held_call (i := 1) rfl (by kernel_rfl) (by rfl) (fun K hK => ?_)
        (go_simp; go_at_call 31; refine (K1.out _ hd).mono ?_; rintro e v0 ⟨rfl, hb0⟩; have hB0 := hd.trans (hb0.mono hd.size))
        refine hK.out _ _ ⟨keep_cell x0 hB0 hltx, keep_cell x1 hB0 hltx, keep_cell x2 hB0 hltx, keep_cell x3 hB0 hltx, keep_cell x4 hB0 hltx, keep_cell x5 hB0 hltx, keep_cell y0 hB0 hlty, keep_cell y1 hB0 hlty, keep_cell y2 hB0 hlty, keep_cell y3 hB0 hlty, keep_cell y4 hB0 hlty, keep_cell y5 hB0 hlty, keep_cell l0 hB0 hltl, keep_cell l1 hB0 hltl, keep_cell t0 hB0 hltt, keep_cell t1 hB0 hltt⟩ (fun hHeld => ?_)
        clear hK K
        (try simp only [Act.put, List.setIfInBounds_toArray, List.set_cons_zero, List.set_cons_succ])
        refine held_call (i := 3) rfl (by kernel_rfl) (by rfl) (fun K hK => ?_)
        (go_simp; go_at_call 31; refine (K2.out _ hB0).mono ?_; rintro e v1 ⟨rfl, hb1⟩; have hB1 := hB0.trans (hb1.mono hB0.size))
        refine hK.out _ _ ⟨keep_cell x0 hB1 hltx, keep_cell x1 hB1 hltx, keep_cell x2 hB1 hltx, keep_cell x3 hB1 hltx, keep_cell x4 hB1 hltx, keep_cell x5 hB1 hltx, keep_cell y0 hB1 hlty, keep_cell y1 hB1 hlty, keep_cell y2 hB1 hlty, keep_cell y3 hB1 hlty, keep_cell y4 hB1 hlty, keep_cell y5 hB1 hlty, keep_cell l0 hB1 hltl, keep_cell l1 hB1 hltl, keep_cell t0 hB1 hltt, keep_cell t1 hB1 hltt⟩ (fun hHeld => ?_)
        clear hK K
        (try simp only [Act.put, List.setIfInBounds_toArray, List.set_cons_zero, List.set_cons_succ])
        refine held_take (i := 4) (v := ?_) rfl rfl (by kernel_rfl) (by kernel_rfl) (by kernel_rfl) (fun _ _ _ h => h) (by rfl) hHeld ?_ ?_
        rotate_left
        · rintro wh ⟨z0, z1, z2, z3, z4, z5, z6, z7, z8, z9, z10, z11, z12, z13, z14, z15⟩
          go_simp
          (try with_reducible rfl)
        simp only [Act.put, List.setIfInBounds_toArray, List.set_cons_zero, List.set_cons_succ]
        refine held_take (i := 5) (v := ?_) rfl rfl (by kernel_rfl) (by kernel_rfl) (by kernel_rfl) (fun _ _ _ h => h) (by rfl) hHeld ?_ ?_
        rotate_left
        · rintro wh ⟨z0, z1, z2, z3, z4, z5, z6, z7, z8, z9, z10, z11, z12, z13, z14, z15⟩
          go_simp
          (try with_reducible rfl)
        simp only [Act.put, List.setIfInBounds_toArray, List.set_cons_zero, List.set_cons_succ]
        refine held_take (i := 6) (v := ?_) rfl rfl (by kernel_rfl) (by kernel_rfl) (by kernel_rfl) (fun _ _ _ h => h) (by rfl) hHeld ?_ ?_
        rotate_left
        · rintro wh ⟨z0, z1, z2, z3, z4, z5, z6, z7, z8, z9, z10, z11, z12, z13, z14, z15⟩
          go_simp
          (try with_reducible rfl)
        simp only [Act.put, List.setIfInBounds_toArray, List.set_cons_zero, List.set_cons_succ]
        refine held_take (i := 7) (v := ?_) rfl rfl (by kernel_rfl) (by kernel_rfl) (by kernel_rfl) (fun _ _ _ h => h) (by rfl) hHeld ?_ ?_
        rotate_left
        · rintro wh ⟨z0, z1, z2, z3, z4, z5, z6, z7, z8, z9, z10, z11, z12, z13, z14, z15⟩
          go_simp
          (try with_reducible rfl)
        simp only [Act.put, List.setIfInBounds_toArray, List.set_cons_zero, List.set_cons_succ]
        refine held_take (i := 9) (v := ?_) rfl rfl (by kernel_rfl) (by kernel_rfl) (by kernel_rfl) (fun _ _ _ h => h) (by rfl) hHeld ?_ ?_
        rotate_left
        · rintro wh ⟨z0, z1, z2, z3, z4, z5, z6, z7, z8, z9, z10, z11, z12, z13, z14, z15⟩
          go_simp
          (try with_reducible rfl)
        simp only [Act.put, List.setIfInBounds_toArray, List.set_cons_zero, List.set_cons_succ]
        refine held_take (i := 10) (v := ?_) rfl rfl (by kernel_rfl) (by kernel_rfl) (by kernel_rfl) (fun _ _ _ h => h) (by rfl) hHeld ?_ ?_
        rotate_left
        · rintro wh ⟨z0, z1, z2, z3, z4, z5, z6, z7, z8, z9, z10, z11, z12, z13, z14, z15⟩
          go_simp
          (try with_reducible rfl)
        simp only [Act.put, List.setIfInBounds_toArray, List.set_cons_zero, List.set_cons_succ]
        refine held_take (i := 11) (v := ?_) rfl rfl (by kernel_rfl) (by kernel_rfl) (by kernel_rfl) (fun _ _ _ h => h) (by rfl) hHeld ?_ ?_
        rotate_left
        · rintro wh ⟨z0, z1, z2, z3, z4, z5, z6, z7, z8, z9, z10, z11, z12, z13, z14, z15⟩
          go_simp
          (try with_reducible rfl)
        simp only [Act.put, List.setIfInBounds_toArray, List.set_cons_zero, List.set_cons_succ]
        refine held_take (i := 12) (v := ?_) rfl rfl (by kernel_rfl) (by kernel_rfl) (by kernel_rfl) (fun _ _ _ h => h) (by rfl) hHeld ?_ ?_
        rotate_left
        · rintro wh ⟨z0, z1, z2, z3, z4, z5, z6, z7, z8, z9, z10, z11, z12, z13, z14, z15⟩
          go_simp
          (try with_reducible rfl)
        simp only [Act.put, List.setIfInBounds_toArray, List.set_cons_zero, List.set_cons_succ]
        refine held_call (i := 8) rfl (by kernel_rfl) (by rfl) (fun K hK => ?_)
        (go_simp; go_at_call 30; refine (K3.out _ hB1).mono ?_; rintro e v2 ⟨rfl, hb2⟩; have hB2 := hB1.trans (hb2.mono hB1.size))
        refine hK.out _ _ ⟨keep_cell x0 hB2 hltx, keep_cell x1 hB2 hltx, keep_cell x2 hB2 hltx, keep_cell x3 hB2 hltx, keep_cell x4 hB2 hltx, keep_cell x5 hB2 hltx, keep_cell y0 hB2 hlty, keep_cell y1 hB2 hlty, keep_cell y2 hB2 hlty, keep_cell y3 hB2 hlty, keep_cell y4 hB2 hlty, keep_cell y5 hB2 hlty, keep_cell l0 hB2 hltl, keep_cell l1 hB2 hltl, keep_cell t0 hB2 hltt, keep_cell t1 hB2 hltt⟩ (fun hHeld => ?_)
        clear hK K
        (try simp only [Act.put, List.setIfInBounds_toArray, List.set_cons_zero, List.set_cons_succ])
        refine held_take (i := 13) (v := ?_) rfl rfl (by kernel_rfl) (by kernel_rfl) (by kernel_rfl) (fun _ _ _ h => h) (by rfl) hHeld ?_ ?_
        rotate_left
        · rintro wh ⟨z0, z1, z2, z3, z4, z5, z6, z7, z8, z9, z10, z11, z12, z13, z14, z15⟩
          go_simp
          (try with_reducible rfl)
        simp only [Act.put, List.setIfInBounds_toArray, List.set_cons_zero, List.set_cons_succ]
        refine held_take (i := 14) (v := ?_) rfl rfl (by kernel_rfl) (by kernel_rfl) (by kernel_rfl) (fun _ _ _ h => h) (by rfl) hHeld ?_ ?_
        rotate_left
        · rintro wh ⟨z0, z1, z2, z3, z4, z5, z6, z7, z8, z9, z10, z11, z12, z13, z14, z15⟩
          go_simp
          (try with_reducible rfl)
        simp only [Act.put, List.setIfInBounds_toArray, List.set_cons_zero, List.set_cons_succ]
        refine held_take (i := 15) (v := ?_) rfl rfl (by kernel_rfl) (by kernel_rfl) (by kernel_rfl) (fun _ _ _ h => h) (by rfl) hHeld ?_ ?_
        rotate_left
        · rintro wh ⟨z0, z1, z2, z3, z4, z5, z6, z7, z8, z9, z10, z11, z12, z13, z14, z15⟩
          go_simp
          (try with_reducible rfl)
        simp only [Act.put, List.setIfInBounds_toArray, List.set_cons_zero, List.set_cons_succ]
        refine held_take (i := 16) (v := ?_) rfl rfl (by kernel_rfl) (by kernel_rfl) (by kernel_rfl) (fun _ _ _ h => h) (by rfl) hHeld ?_ ?_
        rotate_left
        · rintro wh ⟨z0, z1, z2, z3, z4, z5, z6, z7, z8, z9, z10, z11, z12, z13, z14, z15⟩
          go_simp
          (try with_reducible rfl)
        simp only [Act.put, List.setIfInBounds_toArray, List.set_cons_zero, List.set_cons_succ]
        refine held_take (i := 17) (v := ?_) rfl rfl (by kernel_rfl) (by kernel_rfl) (by kernel_rfl) (fun _ _ _ h => h) (by rfl) hHeld ?_ ?_
        rotate_left
        · rintro wh ⟨z0, z1, z2, z3, z4, z5, z6, z7, z8, z9, z10, z11, z12, z13, z14, z15⟩
          go_simp
          (try with_reducible rfl)
        simp only [Act.put, List.setIfInBounds_toArray, List.set_cons_zero, List.set_cons_succ]
        refine held_take (i := 18) (v := ?_) rfl rfl (by kernel_rfl) (by kernel_rfl) (by kernel_rfl) (fun _ _ _ h => h) (by rfl) hHeld ?_ ?_
        rotate_left
        · rintro wh ⟨z0, z1, z2, z3, z4, z5, z6, z7, z8, z9, z10, z11, z12, z13, z14, z15⟩
          go_simp
          (try with_reducible rfl)
        simp only [Act.put, List.setIfInBounds_toArray, List.set_cons_zero, List.set_cons_succ]
        refine held_take (i := 19) (v := ?_) rfl rfl (by kernel_rfl) (by kernel_rfl) (by kernel_rfl) (fun _ _ _ h => h) (by rfl) hHeld ?_ ?_
        rotate_left
        · rintro wh ⟨z0, z1, z2, z3, z4, z5, z6, z7, z8, z9, z10, z11, z12, z13, z14, z15⟩
          go_simp
          (try with_reducible rfl)
        simp only [Act.put, List.setIfInBounds_toArray, List.set_cons_zero, List.set_cons_succ]
        refine held_take (i := 20) (v := ?_) rfl rfl (by kernel_rfl) (by kernel_rfl) (by kernel_rfl) (fun _ _ _ h => h) (by rfl) hHeld ?_ ?_
        rotate_left
        · rintro wh ⟨z0, z1, z2, z3, z4, z5, z6, z7, z8, z9, z10, z11, z12, z13, z14, z15⟩
          go_simp
          (try with_reducible rfl)
        simp only [Act.put, List.setIfInBounds_toArray, List.set_cons_zero, List.set_cons_succ]
        refine held_skip (i := 21) rfl rfl (by kernel_rfl) (by kernel_rfl) (by kernel_rfl) (fun _ _ _ h => h) (by rfl) hHeld ?_
        simp only [Act.put, List.setIfInBounds_toArray, List.set_cons_zero, List.set_cons_succ]
        refine held_skip (i := 22) rfl rfl (by kernel_rfl) (by kernel_rfl) (by kernel_rfl) (fun _ _ _ h => h) (by rfl) hHeld ?_
        simp only [Act.put, List.setIfInBounds_toArray, List.set_cons_zero, List.set_cons_succ]
        refine held_skip (i := 23) rfl rfl (by kernel_rfl) (by kernel_rfl) (by kernel_rfl) (fun _ _ _ h => h) (by rfl) hHeld ?_
        simp only [Act.put, List.setIfInBounds_toArray, List.set_cons_zero, List.set_cons_succ]
        refine held_skip (i := 24) rfl rfl (by kernel_rfl) (by kernel_rfl) (by kernel_rfl) (fun _ _ _ h => h) (by rfl) hHeld ?_
        simp only [Act.put, List.setIfInBounds_toArray, List.set_cons_zero, List.set_cons_succ]
        refine held_skip (i := 25) rfl rfl (by kernel_rfl) (by kernel_rfl) (by kernel_rfl) (fun _ _ _ h => h) (by rfl) hHeld ?_
        simp only [Act.put, List.setIfInBounds_toArray, List.set_cons_zero, List.set_cons_succ]
        refine held_take (i := 26) (v := ?_) rfl rfl (by kernel_rfl) (by kernel_rfl) (by kernel_rfl) (fun _ _ _ h => h) (by rfl) hHeld ?_ ?_
        rotate_left
        · rintro wh ⟨z0, z1, z2, z3, z4, z5, z6, z7, z8, z9, z10, z11, z12, z13, z14, z15⟩
          go_simp
          (try with_reducible rfl)
        simp only [Act.put, List.setIfInBounds_toArray, List.set_cons_zero, List.set_cons_succ]
        refine held_take (i := 27) (v := ?_) rfl rfl (by kernel_rfl) (by kernel_rfl) (by kernel_rfl) (fun _ _ _ h => h) (by rfl) hHeld ?_ ?_
        rotate_left
        · rintro wh ⟨z0, z1, z2, z3, z4, z5, z6, z7, z8, z9, z10, z11, z12, z13, z14, z15⟩
          go_simp
          (try with_reducible rfl)
        simp only [Act.put, List.setIfInBounds_toArray, List.set_cons_zero, List.set_cons_succ]
        refine held_take (i := 28) (v := ?_) rfl rfl (by kernel_rfl) (by kernel_rfl) (by kernel_rfl) (fun _ _ _ h => h) (by rfl) hHeld ?_ ?_
        rotate_left
        · rintro wh ⟨z0, z1, z2, z3, z4, z5, z6, z7, z8, z9, z10, z11, z12, z13, z14, z15⟩
          go_simp
          (try with_reducible rfl)
        simp only [Act.put, List.setIfInBounds_toArray, List.set_cons_zero, List.set_cons_succ]
        refine held_take (i := 29) (v := ?_) rfl rfl (by kernel_rfl) (by kernel_rfl) (by kernel_rfl) (fun _ _ _ h => h) (by rfl) hHeld ?_ ?_
        rotate_left
        · rintro wh ⟨z0, z1, z2, z3, z4, z5, z6, z7, z8, z9, z10, z11, z12, z13, z14, z15⟩
          go_simp
          (try with_reducible rfl)
        simp only [Act.put, List.setIfInBounds_toArray, List.set_cons_zero, List.set_cons_succ]
        refine wpAnyH_done (by kernel_rfl) ?_ _
        go_wp2
        go_ret
        exact ⟨rfl, HB4.out.trans (hB2.mono HB4.out.size)⟩
    · obtain rfl : false = q := by rw [← hq]; simp [e2]
      have n2 : ((c : Int) == (lc : Int)) = false := by rw [beq_eq_false_iff_ne]; omega
      subst e1
      clear hq e2
      refine wp_region_held_drew (S := (fun W => W.cell? ⟨bx, 0, none⟩ = some (.string src) ∧ W.cell? ⟨bx, 1, none⟩ = some (.slice ga gl.length gc) ∧ W.cell? ⟨bx, 2, none⟩ = some (.int .i64 lv) ∧ W.cell? ⟨bx, 3, none⟩ = some (.int .u32 c) ∧ W.cell? ⟨bx, 4, none⟩ = some (.int .i64 fr) ∧ W.cell? ⟨bx, 5, none⟩ = some (.int .i64 til) ∧ W.cell? ⟨bx + 1, 0, none⟩ = some (.string src) ∧ W.cell? ⟨bx + 1, 1, none⟩ = some (.slice ga gl.length gc) ∧ W.cell? ⟨bx + 1, 2, none⟩ = some (.int .i64 lv) ∧ W.cell? ⟨bx + 1, 3, none⟩ = some (.int .u32 lc) ∧ W.cell? ⟨bx + 1, 4, none⟩ = some (.int .i64 n0) ∧ W.cell? ⟨bx + 1, 5, none⟩ = some (.int .i64 n1) ∧ W.cell? ⟨w.heap.size + 1, 0, none⟩ = some (.int .i64 lv) ∧ W.cell? ⟨w.heap.size + 1, 1, none⟩ = some (.int .u32 lc) ∧ W.cell? ⟨w.heap.size + 1 + 1, 0, none⟩ = some (.int .i64 n0) ∧ W.cell? ⟨w.heap.size + 1 + 1, 1, none⟩ = some (.int .i64 n1))) (by kernel_rfl) ⟨x0, x1, x2, x3, x4, x5, y0, y1, y2, y3, y4, y5, l0, l1, t0, t1⟩ (fun hHeld => ?_)
      have hd : Below w4.heap.size w4 w4.drew := (Below.refl _ _).drew
      refine held_take (i := 0) (v := ?_) rfl rfl (by kernel_rfl) (by kernel_rfl) (by kernel_rfl) (fun _ _ _ h => h) (by rfl) hHeld ?_ ?_
      rotate_left
      · rintro wh ⟨z0, z1, z2, z3, z4, z5, z6, z7, z8, z9, z10, z11, z12, z13, z14, z15⟩
        go_simp
        (try with_reducible rfl)
      simp only [Act.put, List.setIfInBounds_toArray, List.set_cons_zero, List.set_cons_succ]
      refine held_take (i := 2) (v := ?_) rfl rfl (by kernel_rfl) (by kernel_rfl) (by kernel_rfl) (fun _ _ _ h => h) (by rfl) hHeld ?_ ?_
      rotate_left
      · rintro wh ⟨z0, z1, z2, z3, z4, z5, z6, z7, z8, z9, z10, z11, z12, z13, z14, z15⟩
        go_simp
        (try with_reducible rfl)
      simp only [Act.put, List.setIfInBounds_toArray, List.set_cons_zero, List.set_cons_succ]
      refine held_call (i := 1) rfl (by kernel_rfl) (by rfl) (fun K hK => ?_)
      (go_simp; go_at_call 31; refine (K1.out _ hd).mono ?_; rintro e v0 ⟨rfl, hb0⟩; have hB0 := hd.trans (hb0.mono hd.size))
      refine hK.out _ _ ⟨keep_cell x0 hB0 hltx, keep_cell x1 hB0 hltx, keep_cell x2 hB0 hltx, keep_cell x3 hB0 hltx, keep_cell x4 hB0 hltx, keep_cell x5 hB0 hltx, keep_cell y0 hB0 hlty, keep_cell y1 hB0 hlty, keep_cell y2 hB0 hlty, keep_cell y3 hB0 hlty, keep_cell y4 hB0 hlty, keep_cell y5 hB0 hlty, keep_cell l0 hB0 hltl, keep_cell l1 hB0 hltl, keep_cell t0 hB0 hltt, keep_cell t1 hB0 hltt⟩ (fun hHeld => ?_)
      clear hK K
      (try simp only [Act.put, List.setIfInBounds_toArray, List.set_cons_zero, List.set_cons_succ])
      refine held_call (i := 3) rfl (by kernel_rfl) (by rfl) (fun K hK => ?_)
      (go_simp; go_at_call 31; refine (K2.out _ hB0).mono ?_; rintro e v1 ⟨rfl, hb1⟩; have hB1 := hB0.trans (hb1.mono hB0.size))
      refine hK.out _ _ ⟨keep_cell x0 hB1 hltx, keep_cell x1 hB1 hltx, keep_cell x2 hB1 hltx, keep_cell x3 hB1 hltx, keep_cell x4 hB1 hltx, keep_cell x5 hB1 hltx, keep_cell y0 hB1 hlty, keep_cell y1 hB1 hlty, keep_cell y2 hB1 hlty, keep_cell y3 hB1 hlty, keep_cell y4 hB1 hlty, keep_cell y5 hB1 hlty, keep_cell l0 hB1 hltl, keep_cell l1 hB1 hltl, keep_cell t0 hB1 hltt, keep_cell t1 hB1 hltt⟩ (fun hHeld => ?_)
      clear hK K
      (try simp only [Act.put, List.setIfInBounds_toArray, List.set_cons_zero, List.set_cons_succ])
      refine held_take (i := 4) (v := ?_) rfl rfl (by kernel_rfl) (by kernel_rfl) (by kernel_rfl) (fun _ _ _ h => h) (by rfl) hHeld ?_ ?_
      rotate_left
      · rintro wh ⟨z0, z1, z2, z3, z4, z5, z6, z7, z8, z9, z10, z11, z12, z13, z14, z15⟩
        go_simp
        (try with_reducible rfl)
      simp only [Act.put, List.setIfInBounds_toArray, List.set_cons_zero, List.set_cons_succ]
      refine held_take (i := 5) (v := ?_) rfl rfl (by kernel_rfl) (by kernel_rfl) (by kernel_rfl) (fun _ _ _ h => h) (by rfl) hHeld ?_ ?_
      rotate_left
      · rintro wh ⟨z0, z1, z2, z3, z4, z5, z6, z7, z8, z9, z10, z11, z12, z13, z14, z15⟩
        go_simp
        (try with_reducible rfl)
      simp only [Act.put, List.setIfInBounds_toArray, List.set_cons_zero, List.set_cons_succ]
      refine held_take (i := 6) (v := ?_) rfl rfl (by kernel_rfl) (by kernel_rfl) (by kernel_rfl) (fun _ _ _ h => h) (by rfl) hHeld ?_ ?_
      rotate_left
      · rintro wh ⟨z0, z1, z2, z3, z4, z5, z6, z7, z8, z9, z10, z11, z12, z13, z14, z15⟩
        go_simp
        (try with_reducible rfl)
      simp only [Act.put, List.setIfInBounds_toArray, List.set_cons_zero, List.set_cons_succ]
      refine held_take (i := 7) (v := ?_) rfl rfl (by kernel_rfl) (by kernel_rfl) (by kernel_rfl) (fun _ _ _ h => h) (by rfl) hHeld ?_ ?_
      rotate_left
      · rintro wh ⟨z0, z1, z2, z3, z4, z5, z6, z7, z8, z9, z10, z11, z12, z13, z14, z15⟩
        go_simp
        (try with_reducible rfl)
      simp only [Act.put, List.setIfInBounds_toArray, List.set_cons_zero, List.set_cons_succ]
      refine held_take (i := 9) (v := ?_) rfl rfl (by kernel_rfl) (by kernel_rfl) (by kernel_rfl) (fun _ _ _ h => h) (by rfl) hHeld ?_ ?_
      rotate_left
      · rintro wh ⟨z0, z1, z2, z3, z4, z5, z6, z7, z8, z9, z10, z11, z12, z13, z14, z15⟩
        go_simp
        (try with_reducible rfl)
      simp only [Act.put, List.setIfInBounds_toArray, List.set_cons_zero, List.set_cons_succ]
      refine held_take (i := 10) (v := ?_) rfl rfl (by kernel_rfl) (by kernel_rfl) (by kernel_rfl) (fun _ _ _ h => h) (by rfl) hHeld ?_ ?_
      rotate_left
      · rintro wh ⟨z0, z1, z2, z3, z4, z5, z6, z7, z8, z9, z10, z11, z12, z13, z14, z15⟩
        go_simp
        (try with_reducible rfl)
      simp only [Act.put, List.setIfInBounds_toArray, List.set_cons_zero, List.set_cons_succ]
      refine held_take (i := 11) (v := ?_) rfl rfl (by kernel_rfl) (by kernel_rfl) (by kernel_rfl) (fun _ _ _ h => h) (by rfl) hHeld ?_ ?_
      rotate_left
      · rintro wh ⟨z0, z1, z2, z3, z4, z5, z6, z7, z8, z9, z10, z11, z12, z13, z14, z15⟩
        go_simp
        (try with_reducible rfl)
      simp only [Act.put, List.setIfInBounds_toArray, List.set_cons_zero, List.set_cons_succ]
      refine held_take (i := 12) (v := ?_) rfl rfl (by kernel_rfl) (by kernel_rfl) (by kernel_rfl) (fun _ _ _ h => h) (by rfl) hHeld ?_ ?_
      rotate_left
      · rintro wh ⟨z0, z1, z2, z3, z4, z5, z6, z7, z8, z9, z10, z11, z12, z13, z14, z15⟩
        go_simp
        (try with_reducible rfl)
      simp only [Act.put, List.setIfInBounds_toArray, List.set_cons_zero, List.set_cons_succ]
      refine held_call (i := 8) rfl (by kernel_rfl) (by rfl) (fun K hK => ?_)
      (go_simp; go_at_call 30; refine (K3.out _ hB1).mono ?_; rintro e v2 ⟨rfl, hb2⟩; have hB2 := hB1.trans (hb2.mono hB1.size))
      refine hK.out _ _ ⟨keep_cell x0 hB2 hltx, keep_cell x1 hB2 hltx, keep_cell x2 hB2 hltx, keep_cell x3 hB2 hltx, keep_cell x4 hB2 hltx, keep_cell x5 hB2 hltx, keep_cell y0 hB2 hlty, keep_cell y1 hB2 hlty, keep_cell y2 hB2 hlty, keep_cell y3 hB2 hlty, keep_cell y4 hB2 hlty, keep_cell y5 hB2 hlty, keep_cell l0 hB2 hltl, keep_cell l1 hB2 hltl, keep_cell t0 hB2 hltt, keep_cell t1 hB2 hltt⟩ (fun hHeld => ?_)
      clear hK K
      (try simp only [Act.put, List.setIfInBounds_toArray, List.set_cons_zero, List.set_cons_succ])
      refine held_take (i := 13) (v := ?_) rfl rfl (by kernel_rfl) (by kernel_rfl) (by kernel_rfl) (fun _ _ _ h => h) (by rfl) hHeld ?_ ?_
      rotate_left
      · rintro wh ⟨z0, z1, z2, z3, z4, z5, z6, z7, z8, z9, z10, z11, z12, z13, z14, z15⟩
        go_simp
        (try with_reducible rfl)
      simp only [Act.put, List.setIfInBounds_toArray, List.set_cons_zero, List.set_cons_succ]
      refine held_skip (i := 14) rfl rfl (by kernel_rfl) (by kernel_rfl) (by kernel_rfl) (fun _ _ _ h => h) (by rfl) hHeld ?_
      simp only [Act.put, List.setIfInBounds_toArray, List.set_cons_zero, List.set_cons_succ]
      refine held_skip (i := 15) rfl rfl (by kernel_rfl) (by kernel_rfl) (by kernel_rfl) (fun _ _ _ h => h) (by rfl) hHeld ?_
      simp only [Act.put, List.setIfInBounds_toArray, List.set_cons_zero, List.set_cons_succ]
      refine held_skip (i := 16) rfl rfl (by kernel_rfl) (by kernel_rfl) (by kernel_rfl) (fun _ _ _ h => h) (by rfl) hHeld ?_
      simp only [Act.put, List.setIfInBounds_toArray, List.set_cons_zero, List.set_cons_succ]
      refine held_skip (i := 17) rfl rfl (by kernel_rfl) (by kernel_rfl) (by kernel_rfl) (fun _ _ _ h => h) (by rfl) hHeld ?_
      simp only [Act.put, List.setIfInBounds_toArray, List.set_cons_zero, List.set_cons_succ]
      refine held_skip (i := 18) rfl rfl (by kernel_rfl) (by kernel_rfl) (by kernel_rfl) (fun _ _ _ h => h) (by rfl) hHeld ?_
      simp only [Act.put, List.setIfInBounds_toArray, List.set_cons_zero, List.set_cons_succ]
      refine held_take (i := 19) (v := ?_) rfl rfl (by kernel_rfl) (by kernel_rfl) (by kernel_rfl) (fun _ _ _ h => h) (by rfl) hHeld ?_ ?_
      rotate_left
      · rintro wh ⟨z0, z1, z2, z3, z4, z5, z6, z7, z8, z9, z10, z11, z12, z13, z14, z15⟩
        go_simp
        (try with_reducible rfl)
      simp only [Act.put, List.setIfInBounds_toArray, List.set_cons_zero, List.set_cons_succ]
      refine held_take (i := 20) (v := ?_) rfl rfl (by kernel_rfl) (by kernel_rfl) (by kernel_rfl) (fun _ _ _ h => h) (by rfl) hHeld ?_ ?_
      rotate_left
      · rintro wh ⟨z0, z1, z2, z3, z4, z5, z6, z7, z8, z9, z10, z11, z12, z13, z14, z15⟩
        go_simp
        (try with_reducible rfl)
      simp only [Act.put, List.setIfInBounds_toArray, List.set_cons_zero, List.set_cons_succ]
      refine held_skip (i := 21) rfl rfl (by kernel_rfl) (by kernel_rfl) (by kernel_rfl) (fun _ _ _ h => h) (by rfl) hHeld ?_
      simp only [Act.put, List.setIfInBounds_toArray, List.set_cons_zero, List.set_cons_succ]
      refine held_skip (i := 22) rfl rfl (by kernel_rfl) (by kernel_rfl) (by kernel_rfl) (fun _ _ _ h => h) (by rfl) hHeld ?_
      simp only [Act.put, List.setIfInBounds_toArray, List.set_cons_zero, List.set_cons_succ]
      refine held_skip (i := 23) rfl rfl (by kernel_rfl) (by kernel_rfl) (by kernel_rfl) (fun _ _ _ h => h) (by rfl) hHeld ?_
      simp only [Act.put, List.setIfInBounds_toArray, List.set_cons_zero, List.set_cons_succ]
      refine held_skip (i := 24) rfl rfl (by kernel_rfl) (by kernel_rfl) (by kernel_rfl) (fun _ _ _ h => h) (by rfl) hHeld ?_
      simp only [Act.put, List.setIfInBounds_toArray, List.set_cons_zero, List.set_cons_succ]
      refine held_skip (i := 25) rfl rfl (by kernel_rfl) (by kernel_rfl) (by kernel_rfl) (fun _ _ _ h => h) (by rfl) hHeld ?_
      simp only [Act.put, List.setIfInBounds_toArray, List.set_cons_zero, List.set_cons_succ]
      refine held_take (i := 26) (v := ?_) rfl rfl (by kernel_rfl) (by kernel_rfl) (by kernel_rfl) (fun _ _ _ h => h) (by rfl) hHeld ?_ ?_
      rotate_left
      · rintro wh ⟨z0, z1, z2, z3, z4, z5, z6, z7, z8, z9, z10, z11, z12, z13, z14, z15⟩
        go_simp
        (try with_reducible rfl)
      simp only [Act.put, List.setIfInBounds_toArray, List.set_cons_zero, List.set_cons_succ]
      refine held_take (i := 27) (v := ?_) rfl rfl (by kernel_rfl) (by kernel_rfl) (by kernel_rfl) (fun _ _ _ h => h) (by rfl) hHeld ?_ ?_
      rotate_left
      · rintro wh ⟨z0, z1, z2, z3, z4, z5, z6, z7, z8, z9, z10, z11, z12, z13, z14, z15⟩
        go_simp
        (try with_reducible rfl)
      simp only [Act.put, List.setIfInBounds_toArray, List.set_cons_zero, List.set_cons_succ]
      refine held_take (i := 28) (v := ?_) rfl rfl (by kernel_rfl) (by kernel_rfl) (by kernel_rfl) (fun _ _ _ h => h) (by rfl) hHeld ?_ ?_
      rotate_left
      · rintro wh ⟨z0, z1, z2, z3, z4, z5, z6, z7, z8, z9, z10, z11, z12, z13, z14, z15⟩
        go_simp
        (try with_reducible rfl)
      simp only [Act.put, List.setIfInBounds_toArray, List.set_cons_zero, List.set_cons_succ]
      refine held_take (i := 29) (v := ?_) rfl rfl (by kernel_rfl) (by kernel_rfl) (by kernel_rfl) (fun _ _ _ h => h) (by rfl) hHeld ?_ ?_
      rotate_left
      · rintro wh ⟨z0, z1, z2, z3, z4, z5, z6, z7, z8, z9, z10, z11, z12, z13, z14, z15⟩
        go_simp
        (try with_reducible rfl)
      simp only [Act.put, List.setIfInBounds_toArray, List.set_cons_zero, List.set_cons_succ]
      refine wpAnyH_done (by kernel_rfl) ?_ _
      go_wp2
      go_ret
      exact ⟨rfl, HB4.out.trans (hB2.mono HB4.out.size)⟩
  · obtain rfl : false = q := by rw [← hq]; simp [e1]
    have n1' : (lv == ll) = false := by rw [beq_eq_false_iff_ne]; exact e1
    clear hq e1
    refine wp_region_held_drew (S := (fun W => W.cell? ⟨bx, 0, none⟩ = some (.string src) ∧ W.cell? ⟨bx, 1, none⟩ = some (.slice ga gl.length gc) ∧ W.cell? ⟨bx, 2, none⟩ = some (.int .i64 lv) ∧ W.cell? ⟨bx, 3, none⟩ = some (.int .u32 c) ∧ W.cell? ⟨bx, 4, none⟩ = some (.int .i64 fr) ∧ W.cell? ⟨bx, 5, none⟩ = some (.int .i64 til) ∧ W.cell? ⟨bx + 1, 0, none⟩ = some (.string src) ∧ W.cell? ⟨bx + 1, 1, none⟩ = some (.slice ga gl.length gc) ∧ W.cell? ⟨bx + 1, 2, none⟩ = some (.int .i64 ll) ∧ W.cell? ⟨bx + 1, 3, none⟩ = some (.int .u32 lc) ∧ W.cell? ⟨bx + 1, 4, none⟩ = some (.int .i64 n0) ∧ W.cell? ⟨bx + 1, 5, none⟩ = some (.int .i64 n1) ∧ W.cell? ⟨w.heap.size + 1, 0, none⟩ = some (.int .i64 ll) ∧ W.cell? ⟨w.heap.size + 1, 1, none⟩ = some (.int .u32 lc) ∧ W.cell? ⟨w.heap.size + 1 + 1, 0, none⟩ = some (.int .i64 n0) ∧ W.cell? ⟨w.heap.size + 1 + 1, 1, none⟩ = some (.int .i64 n1))) (by kernel_rfl) ⟨x0, x1, x2, x3, x4, x5, y0, y1, y2, y3, y4, y5, l0, l1, t0, t1⟩ (fun hHeld => ?_)
    have hd : Below w4.heap.size w4 w4.drew := (Below.refl _ _).drew
    refine held_take (i := 0) (v := ?_) rfl rfl (by kernel_rfl) (by kernel_rfl) (by kernel_rfl) (fun _ _ _ h => h) (by rfl) hHeld ?_ ?_
    rotate_left
    · rintro wh ⟨z0, z1, z2, z3, z4, z5, z6, z7, z8, z9, z10, z11, z12, z13, z14, z15⟩
      go_simp
      (try with_reducible rfl)
    simp only [Act.put, List.setIfInBounds_toArray, List.set_cons_zero, List.set_cons_succ]
    refine held_take (i := 2) (v := ?_) rfl rfl (by kernel_rfl) (by kernel_rfl) (by kernel_rfl) (fun _ _ _ h => h) (by rfl) hHeld ?_ ?_
    rotate_left
    · rintro wh ⟨z0, z1, z2, z3, z4, z5, z6, z7, z8, z9, z10, z11, z12, z13, z14, z15⟩
      go_simp
      (try with_reducible rfl)
    simp only [Act.put, List.setIfInBounds_toArray, List.set_cons_zero, List.set_cons_succ]
    refine held_call (i := 1) rfl (by kernel_rfl) (by rfl) (fun K hK => ?_)
    (go_simp; go_at_call 31; refine (K1.out _ hd).mono ?_; rintro e v0 ⟨rfl, hb0⟩; have hB0 := hd.trans (hb0.mono hd.size))
    refine hK.out _ _ ⟨keep_cell x0 hB0 hltx, keep_cell x1 hB0 hltx, keep_cell x2 hB0 hltx, keep_cell x3 hB0 hltx, keep_cell x4 hB0 hltx, keep_cell x5 hB0 hltx, keep_cell y0 hB0 hlty, keep_cell y1 hB0 hlty, keep_cell y2 hB0 hlty, keep_cell y3 hB0 hlty, keep_cell y4 hB0 hlty, keep_cell y5 hB0 hlty, keep_cell l0 hB0 hltl, keep_cell l1 hB0 hltl, keep_cell t0 hB0 hltt, keep_cell t1 hB0 hltt⟩ (fun hHeld => ?_)
    clear hK K
    (try simp only [Act.put, List.setIfInBounds_toArray, List.set_cons_zero, List.set_cons_succ])
    refine held_call (i := 3) rfl (by kernel_rfl) (by rfl) (fun K hK => ?_)
    (go_simp; go_at_call 31; refine (K2.out _ hB0).mono ?_; rintro e v1 ⟨rfl, hb1⟩; have hB1 := hB0.trans (hb1.mono hB0.size))
    refine hK.out _ _ ⟨keep_cell x0 hB1 hltx, keep_cell x1 hB1 hltx, keep_cell x2 hB1 hltx, keep_cell x3 hB1 hltx, keep_cell x4 hB1 hltx, keep_cell x5 hB1 hltx, keep_cell y0 hB1 hlty, keep_cell y1 hB1 hlty, keep_cell y2 hB1 hlty, keep_cell y3 hB1 hlty, keep_cell y4 hB1 hlty, keep_cell y5 hB1 hlty, keep_cell l0 hB1 hltl, keep_cell l1 hB1 hltl, keep_cell t0 hB1 hltt, keep_cell t1 hB1 hltt⟩ (fun hHeld => ?_)
    clear hK K
    (try simp only [Act.put, List.setIfInBounds_toArray, List.set_cons_zero, List.set_cons_succ])
    refine held_take (i := 4) (v := ?_) rfl rfl (by kernel_rfl) (by kernel_rfl) (by kernel_rfl) (fun _ _ _ h => h) (by rfl) hHeld ?_ ?_
    rotate_left
    · rintro wh ⟨z0, z1, z2, z3, z4, z5, z6, z7, z8, z9, z10, z11, z12, z13, z14, z15⟩
      go_simp
      (try with_reducible rfl)
    simp only [Act.put, List.setIfInBounds_toArray, List.set_cons_zero, List.set_cons_succ]
    refine held_take (i := 5) (v := ?_) rfl rfl (by kernel_rfl) (by kernel_rfl) (by kernel_rfl) (fun _ _ _ h => h) (by rfl) hHeld ?_ ?_
    rotate_left
    · rintro wh ⟨z0, z1, z2, z3, z4, z5, z6, z7, z8, z9, z10, z11, z12, z13, z14, z15⟩
      go_simp
      (try with_reducible rfl)
    simp only [Act.put, List.setIfInBounds_toArray, List.set_cons_zero, List.set_cons_succ]
    refine held_take (i := 6) (v := ?_) rfl rfl (by kernel_rfl) (by kernel_rfl) (by kernel_rfl) (fun _ _ _ h => h) (by rfl) hHeld ?_ ?_
    rotate_left
    · rintro wh ⟨z0, z1, z2, z3, z4, z5, z6, z7, z8, z9, z10, z11, z12, z13, z14, z15⟩
      go_simp
      (try with_reducible rfl)
    simp only [Act.put, List.setIfInBounds_toArray, List.set_cons_zero, List.set_cons_succ]
    refine held_take (i := 7) (v := ?_) rfl rfl (by kernel_rfl) (by kernel_rfl) (by kernel_rfl) (fun _ _ _ h => h) (by rfl) hHeld ?_ ?_
    rotate_left
    · rintro wh ⟨z0, z1, z2, z3, z4, z5, z6, z7, z8, z9, z10, z11, z12, z13, z14, z15⟩
      go_simp
      (try with_reducible rfl)
    simp only [Act.put, List.setIfInBounds_toArray, List.set_cons_zero, List.set_cons_succ]
    refine held_take (i := 9) (v := ?_) rfl rfl (by kernel_rfl) (by kernel_rfl) (by kernel_rfl) (fun _ _ _ h => h) (by rfl) hHeld ?_ ?_
    rotate_left
    · rintro wh ⟨z0, z1, z2, z3, z4, z5, z6, z7, z8, z9, z10, z11, z12, z13, z14, z15⟩
      go_simp
      (try with_reducible rfl)
    simp only [Act.put, List.setIfInBounds_toArray, List.set_cons_zero, List.set_cons_succ]
    refine held_take (i := 10) (v := ?_) rfl rfl (by kernel_rfl) (by kernel_rfl) (by kernel_rfl) (fun _ _ _ h => h) (by rfl) hHeld ?_ ?_
    rotate_left
    · rintro wh ⟨z0, z1, z2, z3, z4, z5, z6, z7, z8, z9, z10, z11, z12, z13, z14, z15⟩
      go_simp
      (try with_reducible rfl)
    simp only [Act.put, List.setIfInBounds_toArray, List.set_cons_zero, List.set_cons_succ]
    refine held_take (i := 11) (v := ?_) rfl rfl (by kernel_rfl) (by kernel_rfl) (by kernel_rfl) (fun _ _ _ h => h) (by rfl) hHeld ?_ ?_
    rotate_left
    · rintro wh ⟨z0, z1, z2, z3, z4, z5, z6, z7, z8, z9, z10, z11, z12, z13, z14, z15⟩
      go_simp
      (try with_reducible rfl)
    simp only [Act.put, List.setIfInBounds_toArray, List.set_cons_zero, List.set_cons_succ]
    refine held_take (i := 12) (v := ?_) rfl rfl (by kernel_rfl) (by kernel_rfl) (by kernel_rfl) (fun _ _ _ h => h) (by rfl) hHeld ?_ ?_
    rotate_left
    · rintro wh ⟨z0, z1, z2, z3, z4, z5, z6, z7, z8, z9, z10, z11, z12, z13, z14, z15⟩
      go_simp
      (try with_reducible rfl)
    simp only [Act.put, List.setIfInBounds_toArray, List.set_cons_zero, List.set_cons_succ]
    refine held_call (i := 8) rfl (by kernel_rfl) (by rfl) (fun K hK => ?_)
    (go_simp; go_at_call 30; refine (K3.out _ hB1).mono ?_; rintro e v2 ⟨rfl, hb2⟩; have hB2 := hB1.trans (hb2.mono hB1.size))
    refine hK.out _ _ ⟨keep_cell x0 hB2 hltx, keep_cell x1 hB2 hltx, keep_cell x2 hB2 hltx, keep_cell x3 hB2 hltx, keep_cell x4 hB2 hltx, keep_cell x5 hB2 hltx, keep_cell y0 hB2 hlty, keep_cell y1 hB2 hlty, keep_cell y2 hB2 hlty, keep_cell y3 hB2 hlty, keep_cell y4 hB2 hlty, keep_cell y5 hB2 hlty, keep_cell l0 hB2 hltl, keep_cell l1 hB2 hltl, keep_cell t0 hB2 hltt, keep_cell t1 hB2 hltt⟩ (fun hHeld => ?_)
    clear hK K
    (try simp only [Act.put, List.setIfInBounds_toArray, List.set_cons_zero, List.set_cons_succ])
    refine held_take (i := 13) (v := ?_) rfl rfl (by kernel_rfl) (by kernel_rfl) (by kernel_rfl) (fun _ _ _ h => h) (by rfl) hHeld ?_ ?_
    rotate_left
    · rintro wh ⟨z0, z1, z2, z3, z4, z5, z6, z7, z8, z9, z10, z11, z12, z13, z14, z15⟩
      go_simp
      (try with_reducible rfl)
    simp only [Act.put, List.setIfInBounds_toArray, List.set_cons_zero, List.set_cons_succ]
    refine held_skip (i := 14) rfl rfl (by kernel_rfl) (by kernel_rfl) (by kernel_rfl) (fun _ _ _ h => h) (by rfl) hHeld ?_
    simp only [Act.put, List.setIfInBounds_toArray, List.set_cons_zero, List.set_cons_succ]
    refine held_skip (i := 15) rfl rfl (by kernel_rfl) (by kernel_rfl) (by kernel_rfl) (fun _ _ _ h => h) (by rfl) hHeld ?_
    simp only [Act.put, List.setIfInBounds_toArray, List.set_cons_zero, List.set_cons_succ]
    refine held_skip (i := 16) rfl rfl (by kernel_rfl) (by kernel_rfl) (by kernel_rfl) (fun _ _ _ h => h) (by rfl) hHeld ?_
    simp only [Act.put, List.setIfInBounds_toArray, List.set_cons_zero, List.set_cons_succ]
    refine held_skip (i := 17) rfl rfl (by kernel_rfl) (by kernel_rfl) (by kernel_rfl) (fun _ _ _ h => h) (by rfl) hHeld ?_
    simp only [Act.put, List.setIfInBounds_toArray, List.set_cons_zero, List.set_cons_succ]
    refine held_skip (i := 18) rfl rfl (by kernel_rfl) (by kernel_rfl) (by kernel_rfl) (fun _ _ _ h => h) (by rfl) hHeld ?_
    simp only [Act.put, List.setIfInBounds_toArray, List.set_cons_zero, List.set_cons_succ]
    refine held_take (i := 19) (v := ?_) rfl rfl (by kernel_rfl) (by kernel_rfl) (by kernel_rfl) (fun _ _ _ h => h) (by rfl) hHeld ?_ ?_
    rotate_left
    · rintro wh ⟨z0, z1, z2, z3, z4, z5, z6, z7, z8, z9, z10, z11, z12, z13, z14, z15⟩
      go_simp
      (try with_reducible rfl)
    simp only [Act.put, List.setIfInBounds_toArray, List.set_cons_zero, List.set_cons_succ]
    refine held_take (i := 20) (v := ?_) rfl rfl (by kernel_rfl) (by kernel_rfl) (by kernel_rfl) (fun _ _ _ h => h) (by rfl) hHeld ?_ ?_
    rotate_left
    · rintro wh ⟨z0, z1, z2, z3, z4, z5, z6, z7, z8, z9, z10, z11, z12, z13, z14, z15⟩
      go_simp
      (try with_reducible rfl)
    simp only [Act.put, List.setIfInBounds_toArray, List.set_cons_zero, List.set_cons_succ]
    refine held_skip (i := 21) rfl rfl (by kernel_rfl) (by kernel_rfl) (by kernel_rfl) (fun _ _ _ h => h) (by rfl) hHeld ?_
    simp only [Act.put, List.setIfInBounds_toArray, List.set_cons_zero, List.set_cons_succ]
    refine held_skip (i := 22) rfl rfl (by kernel_rfl) (by kernel_rfl) (by kernel_rfl) (fun _ _ _ h => h) (by rfl) hHeld ?_
    simp only [Act.put, List.setIfInBounds_toArray, List.set_cons_zero, List.set_cons_succ]
    refine held_skip (i := 23) rfl rfl (by kernel_rfl) (by kernel_rfl) (by kernel_rfl) (fun _ _ _ h => h) (by rfl) hHeld ?_
    simp only [Act.put, List.setIfInBounds_toArray, List.set_cons_zero, List.set_cons_succ]
    refine held_skip (i := 24) rfl rfl (by kernel_rfl) (by kernel_rfl) (by kernel_rfl) (fun _ _ _ h => h) (by rfl) hHeld ?_
    simp only [Act.put, List.setIfInBounds_toArray, List.set_cons_zero, List.set_cons_succ]
    refine held_skip (i := 25) rfl rfl (by kernel_rfl) (by kernel_rfl) (by kernel_rfl) (fun _ _ _ h => h) (by rfl) hHeld ?_
    simp only [Act.put, List.setIfInBounds_toArray, List.set_cons_zero, List.set_cons_succ]
    refine held_take (i := 26) (v := ?_) rfl rfl (by kernel_rfl) (by kernel_rfl) (by kernel_rfl) (fun _ _ _ h => h) (by rfl) hHeld ?_ ?_
    rotate_left
    · rintro wh ⟨z0, z1, z2, z3, z4, z5, z6, z7, z8, z9, z10, z11, z12, z13, z14, z15⟩
      go_simp
      (try with_reducible rfl)
    simp only [Act.put, List.setIfInBounds_toArray, List.set_cons_zero, List.set_cons_succ]
    refine held_take (i := 27) (v := ?_) rfl rfl (by kernel_rfl) (by kernel_rfl) (by kernel_rfl) (fun _ _ _ h => h) (by rfl) hHeld ?_ ?_
    rotate_left
    · rintro wh ⟨z0, z1, z2, z3, z4, z5, z6, z7, z8, z9, z10, z11, z12, z13, z14, z15⟩
      go_simp
      (try with_reducible rfl)
    simp only [Act.put, List.setIfInBounds_toArray, List.set_cons_zero, List.set_cons_succ]
    refine held_take (i := 28) (v := ?_) rfl rfl (by kernel_rfl) (by kernel_rfl) (by kernel_rfl) (fun _ _ _ h => h) (by rfl) hHeld ?_ ?_
    rotate_left
    · rintro wh ⟨z0, z1, z2, z3, z4, z5, z6, z7, z8, z9, z10, z11, z12, z13, z14, z15⟩
      go_simp
      (try with_reducible rfl)
    simp only [Act.put, List.setIfInBounds_toArray, List.set_cons_zero, List.set_cons_succ]
    refine held_take (i := 29) (v := ?_) rfl rfl (by kernel_rfl) (by kernel_rfl) (by kernel_rfl) (fun _ _ _ h => h) (by rfl) hHeld ?_ ?_
    rotate_left
    · rintro wh ⟨z0, z1, z2, z3, z4, z5, z6, z7, z8, z9, z10, z11, z12, z13, z14, z15⟩
      go_simp
      (try with_reducible rfl)
    simp only [Act.put, List.setIfInBounds_toArray, List.set_cons_zero, List.set_cons_succ]
    refine wpAnyH_done (by kernel_rfl) ?_ _
    go_wp2
    go_ret
    exact ⟨rfl, HB4.out.trans (hB2.mono HB4.out.size)⟩
theorem walk (v : Value) (x : Al) (fv : Value) (u : Value) (l : Int × Nat) (n0 n1 : Int) (w : World) (h1 : ArgAl w v x fv) (h2 : ArgLab u l) (hb : (idB x.src x.fl).length ≤ 4000000) : Calls Try.prog 7 #[v, u, .agg #[.int .i64 n0, .int .i64 n1]] w fun e w' => e = .returned (.bool true) ∧ Below w.heap.size w w' := by
  obtain ⟨rfl, r2, r3⟩ := h1
  obtain ⟨rfl, _⟩ := h2
  refine walk0 x.src x.fl fv x.lv x.c x.fr x.til l.1 l.2 n0 n1 w r2 r3.len (Nat.le_trans ?_ hb)
  exact idB_le x.src x.fl 12
end lawIds
end Go.Proofs.Ytnmgfmmjdiephaa
