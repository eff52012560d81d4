/- lychgatelaw09.back, as: contracts. -/
import Derived.Test.YtipnhpfpppblhaaAlLife
namespace Go.Proofs.Ytipnhpfpppblhaa
open Go.RowKit Go.Maps

set_option maxHeartbeats 1600000 in
set_option maxRecDepth 100000 in
theorem back_full (src : ByteArray) (fl : List Fld) (fv : Value) (lv : Int) (c : Nat) (fr til : Int) (w : World) (hv : FldsAt w fv fl) (hl : fl.length ≤ maxLen) :
    Calls Try.prog 8 #[.agg #[.string src, fv, .int .i64 lv, .int .u32 c, .int .i64 fr, .int .i64 til]] w fun e w' =>
      ∃ fv', e = .returned (.agg #[.string src, fv', .int .i64 lv, .int .u32 c, .int .i64 fr, .int .i64 til]) ∧ FldsAt w fv' (fl.take 12) ∧ (fl.length ≤ 12 → fv' = fv) ∧ (∀ a' c', fv = .slice a' fl.length c' → fv' = .slice a' (fl.take 12).length c') ∧ Below w.heap.size w w' := by
  have hnone : ∀ a c, fv = .slice a fl.length c → a = none → fl.length = 0 := by
    rintro a c rfl rfl
    rcases hv.2 with ⟨_, h⟩ | ⟨ad, c', h1, _⟩
    · exact h
    · cases h1
  obtain ⟨fa, fc, rfl, hfc, _⟩ := RdAt.shape hv
  have hnone := hnone fa fc rfl
  obtain ⟨k, hk, hkl, hmin⟩ : ∃ k : Nat, k ≤ fl.length ∧ fl.take 12 = fl.take k ∧ min (fl.length : Int) 12 = (k : Int) := by
    rcases Nat.le_total fl.length 12 with h | h
    · exact ⟨fl.length, Nat.le_refl _, by rw [List.take_length, List.take_of_length_le h], by omega⟩
    · exact ⟨12, h, rfl, by omega⟩
  have HFT := Lib.hid (fld_take hv k hk hnone)
  have HKL := Lib.hid hkl
  have HKV : Hid (fl.length ≤ 12 → k = fl.length) := Lib.hid (by omega)
  have HKK := Lib.hid hk
  have hkc : k ≤ fc := Nat.le_trans hk hfc
  obtain ⟨W0, hW0⟩ : ∃ z, (w.alloc (.cells #[.string src, .slice fa fl.length fc, .int .i64 lv, .int .u32 c, .int .i64 fr, .int .i64 til] 38)).alloc (.cells #[.string ⟨#[]⟩, .slice none 0 0, .int .i64 0, .int .u32 0, .int .i64 0, .int .i64 0] 36) = z := ⟨_, rfl⟩
  have hb0 : Below w.heap.size w W0 := by rw [← hW0]; exact (alloc_below _ _).trans ((alloc_below _ _).mono (by simp))
  have hd := (Below.refl W0.heap.size W0).drew
  rw [← hW0] at hd
  obtain ⟨h1, h2, h3⟩ := box_cells hd
  have hT := box_there hd
  obtain ⟨h4, _, _⟩ := box_cells h3
  rw [World.size_alloc] at h1 hT
  rw [hW0] at h1 h4 hT
  have q0 := h4 0 _ rfl
  have q1 := h4 1 _ rfl
  have q2 := h4 2 _ rfl
  have q3 := h4 3 _ rfl
  have q4 := h4 4 _ rfl
  have q5 := h4 5 _ rfl
  have r0 := h1 0 _ rfl
  have r1 := h1 1 _ rfl
  have r2 := h1 2 _ rfl
  have r3 := h1 3 _ rfl
  have r4 := h1 4 _ rfl
  have r5 := h1 5 _ rfl
  have f0 := there_free hT 0 (by decide)
  have f1 := there_free hT 1 (by decide)
  have f2 := there_free hT 2 (by decide)
  have f3 := there_free hT 3 (by decide)
  have f4 := there_free hT 4 (by decide)
  have f5 := there_free hT 5 (by decide)
  have HB0 := Lib.hid hb0
  have HT := Lib.hid hT
  have hk63 : k < 9223372036854775807 := by unfold maxLen at hl; omega
  clear hd h1 h2 h3 h4 hT hb0 hv hkl hl
  go_enter Try.func8, Try.ntmps8
  go_upto_region 1 with fail
  try rw [hW0]
  clear hW0
  have hp : ∀ o v, W0.drew.cell? ⟨w.heap.size, o, none⟩ = some v → (W0.drew.setCells (w.heap.size + 1) 0 [.string src, .slice fa k fc, .int .i64 lv, .int .u32 c, .int .i64 fr, .int .i64 til]).cell? ⟨w.heap.size, o, none⟩ = some v := fun o v h => by
    rw [World.cell?_setCells_out _ _ _ _ _ (fun hb _ => by simp at hb)]
    exact h
  refine wp_region_held_drew (S := (fun W => W.cell? ⟨w.heap.size, 0, none⟩ = some (.string src) ∧ W.cell? ⟨w.heap.size, 1, none⟩ = some (.slice fa fl.length fc) ∧ W.cell? ⟨w.heap.size, 2, none⟩ = some (.int .i64 lv) ∧ W.cell? ⟨w.heap.size, 3, none⟩ = some (.int .u32 c) ∧ W.cell? ⟨w.heap.size, 4, none⟩ = some (.int .i64 fr) ∧ W.cell? ⟨w.heap.size, 5, none⟩ = some (.int .i64 til))) (by kernel_rfl) ⟨q0, q1, q2, q3, q4, q5⟩ (fun hHeld => ?_)
  have hbd : Below W0.heap.size W0 W0.drew := (Below.refl _ _).drew
  have HBD := Lib.hid (HB0.out.trans (hbd.mono HB0.out.size))
  clear hbd
  generalize W0.drew = wd at *
  refine held_take (i := 0) (v := ?_) rfl rfl (by kernel_rfl) (by kernel_rfl) (by kernel_rfl) (fun _ _ _ h => h) (by rfl) hHeld ?_ ?_
  rotate_left
  · rintro wh ⟨z0, z1, z2, z3, z4, z5⟩
    go_simp
    (try with_reducible rfl)
  simp only [Act.put, List.setIfInBounds_toArray, List.set_cons_zero, List.set_cons_succ]
  refine held_take (i := 1) (v := ?_) rfl rfl (by kernel_rfl) (by kernel_rfl) (by kernel_rfl) (fun _ _ _ h => h) (by rfl) hHeld ?_ ?_
  rotate_left
  · rintro wh ⟨z0, z1, z2, z3, z4, z5⟩
    go_simp
    (try with_reducible rfl)
  simp only [Act.put, List.setIfInBounds_toArray, List.set_cons_zero, List.set_cons_succ]
  refine held_take (i := 2) (v := ?_) rfl rfl (by kernel_rfl) (by kernel_rfl) (by kernel_rfl) (fun _ _ _ h => h) (by rfl) hHeld ?_ ?_
  rotate_left
  · rintro wh ⟨z0, z1, z2, z3, z4, z5⟩
    go_simp
    (try with_reducible rfl)
  simp only [Act.put, List.setIfInBounds_toArray, List.set_cons_zero, List.set_cons_succ]
  refine held_take (i := 3) (v := ?_) rfl rfl (by kernel_rfl) (by kernel_rfl) (by kernel_rfl) (fun _ _ _ h => h) (by rfl) hHeld ?_ ?_
  rotate_left
  · rintro wh ⟨z0, z1, z2, z3, z4, z5⟩
    go_simp
    (try with_reducible rfl)
  simp only [Act.put, List.setIfInBounds_toArray, List.set_cons_zero, List.set_cons_succ]
  refine held_take (i := 4) (v := ?_) rfl rfl (by kernel_rfl) (by kernel_rfl) (by kernel_rfl) (fun _ _ _ h => h) (by rfl) hHeld ?_ ?_
  rotate_left
  · rintro wh ⟨z0, z1, z2, z3, z4, z5⟩
    go_simp
    (try with_reducible rfl)
  simp only [Act.put, List.setIfInBounds_toArray, List.set_cons_zero, List.set_cons_succ]
  refine held_take (i := 5) (v := ?_) rfl rfl (by kernel_rfl) (by kernel_rfl) (by kernel_rfl) (fun _ _ _ h => h) (by rfl) hHeld ?_ ?_
  rotate_left
  · rintro wh ⟨z0, z1, z2, z3, z4, z5⟩
    go_simp
    (try with_reducible rfl)
  simp only [Act.put, List.setIfInBounds_toArray, List.set_cons_zero, List.set_cons_succ]
  refine held_take (i := 6) (v := ?_) rfl rfl (by kernel_rfl) (by kernel_rfl) (by kernel_rfl) (fun _ _ _ h => h) (by rfl) hHeld ?_ ?_
  rotate_left
  · rintro wh ⟨z0, z1, z2, z3, z4, z5⟩
    go_simp
    (try with_reducible rfl)
  simp only [Act.put, List.setIfInBounds_toArray, List.set_cons_zero, List.set_cons_succ]
  refine held_take (i := 7) (v := ?_) rfl rfl (by kernel_rfl) (by kernel_rfl) (by kernel_rfl) (fun _ _ _ h => h) (by rfl) hHeld ?_ ?_
  rotate_left
  · rintro wh ⟨z0, z1, z2, z3, z4, z5⟩
    go_simp
    (try with_reducible rfl)
  simp only [Act.put, List.setIfInBounds_toArray, List.set_cons_zero, List.set_cons_succ]
  refine held_take (i := 8) (v := ?_) rfl rfl (by kernel_rfl) (by kernel_rfl) (by kernel_rfl) (fun _ _ _ h => h) (by rfl) hHeld ?_ ?_
  rotate_left
  · rintro wh ⟨z0, z1, z2, z3, z4, z5⟩
    go_simp
    (try with_reducible rfl)
  simp only [Act.put, List.setIfInBounds_toArray, List.set_cons_zero, List.set_cons_succ]
  refine held_take (i := 9) (v := ?_) rfl rfl (by kernel_rfl) (by kernel_rfl) (by kernel_rfl) (fun _ _ _ h => h) (by rfl) hHeld ?_ ?_
  rotate_left
  · rintro wh ⟨z0, z1, z2, z3, z4, z5⟩
    go_simp
    (try with_reducible rfl)
  simp only [Act.put, List.setIfInBounds_toArray, List.set_cons_zero, List.set_cons_succ]
  refine held_take (i := 10) (v := ?_) rfl rfl (by kernel_rfl) (by kernel_rfl) (by kernel_rfl) (fun _ _ _ h => h) (by rfl) hHeld ?_ ?_
  rotate_left
  · rintro wh ⟨z0, z1, z2, z3, z4, z5⟩
    go_simp
    (try with_reducible rfl)
  simp only [Act.put, List.setIfInBounds_toArray, List.set_cons_zero, List.set_cons_succ]
  refine held_take (i := 11) (v := ?_) rfl rfl (by kernel_rfl) (by kernel_rfl) (by kernel_rfl) (fun _ _ _ h => h) (by rfl) hHeld ?_ ?_
  rotate_left
  · rintro wh ⟨z0, z1, z2, z3, z4, z5⟩
    go_simp
    (try with_reducible rfl)
  simp only [Act.put, List.setIfInBounds_toArray, List.set_cons_zero, List.set_cons_succ]
  refine held_take (i := 12) (v := ?_) rfl rfl (by kernel_rfl) (by kernel_rfl) (by kernel_rfl) (fun _ _ _ h => h) (by rfl) hHeld ?_ ?_
  rotate_left
  · rintro wh ⟨z0, z1, z2, z3, z4, z5⟩
    go_simp
    (try with_reducible rfl)
  simp only [Act.put, List.setIfInBounds_toArray, List.set_cons_zero, List.set_cons_succ]
  refine held_take (i := 13) (v := ?_) rfl rfl (by kernel_rfl) (by kernel_rfl) (by kernel_rfl) (fun _ _ _ h => h) (by rfl) hHeld ?_ ?_
  rotate_left
  · rintro wh ⟨z0, z1, z2, z3, z4, z5⟩
    go_simp
    (try with_reducible rfl)
  simp only [Act.put, List.setIfInBounds_toArray, List.set_cons_zero, List.set_cons_succ]
  refine held_take (i := 14) (v := ?_) rfl rfl (by kernel_rfl) (by kernel_rfl) (by kernel_rfl) (fun _ _ _ h => h) (by rfl) hHeld ?_ ?_
  rotate_left
  · rintro wh ⟨z0, z1, z2, z3, z4, z5⟩
    go_simp
    (try with_reducible rfl)
  simp only [Act.put, List.setIfInBounds_toArray, List.set_cons_zero, List.set_cons_succ]
  refine held_take (i := 15) (v := ?_) rfl rfl (by kernel_rfl) (by kernel_rfl) (by kernel_rfl) (fun _ _ _ h => h) (by rfl) hHeld ?_ ?_
  rotate_left
  · rintro wh ⟨z0, z1, z2, z3, z4, z5⟩
    go_simp
    (try with_reducible rfl)
  simp only [Act.put, List.setIfInBounds_toArray, List.set_cons_zero, List.set_cons_succ]
  refine held_step (i := 16) rfl (by kernel_rfl) (fun K hK => ?_)
  go_simp
  refine hK.out _ _ ⟨hp _ _ q0, hp _ _ q1, hp _ _ q2, hp _ _ q3, hp _ _ q4, hp _ _ q5⟩ (fun hHeld => ?_)
  clear hK K
  (try simp only [Act.put, List.setIfInBounds_toArray])
  refine wpAnyH_done (by kernel_rfl) ?_ _
  go_wp2
  refine bodyPost_ret (results_agg1 rfl _ _ (w.heap.size + 1) [.string src, .slice fa k fc, .int .i64 lv, .int .u32 c, .int .i64 fr, .int .i64 til] (.struct _) rfl (World.rangeAt_setCells_same wd (w.heap.size + 1) 0 [.string src, .slice fa k fc, .int .i64 lv, .int .u32 c, .int .i64 fr, .int .i64 til] HT.out) Try.underlying36 rfl (by kernel_rfl)) rfl ?_
  exact ⟨_, rfl, by rw [HKL.out]; exact HFT.out, fun h => by rw [HKV.out h], (fun a' c' h => by simp only [Value.slice.injEq] at h; obtain ⟨rfl, _, rfl⟩ := h; rw [HKL.out, List.length_take, Nat.min_eq_left HKK.out]), below_puts (g := w.heap.size + 1) (o := 0) HBD.out (by omega) [.string src, .slice fa k fc, .int .i64 lv, .int .u32 c, .int .i64 fr, .int .i64 til]⟩
theorem back_any (src : ByteArray) (fl : List Fld) (fv : Value) (lv : Int) (c : Nat) (fr til : Int) (w : World) (hv : FldsAt w fv fl) (hl : fl.length ≤ maxLen) :
    Calls Try.prog 8 #[.agg #[.string src, fv, .int .i64 lv, .int .u32 c, .int .i64 fr, .int .i64 til]] w fun e w' =>
      ∃ fv', e = .returned (.agg #[.string src, fv', .int .i64 lv, .int .u32 c, .int .i64 fr, .int .i64 til]) ∧ FldsAt w fv' (fl.take 12) ∧ Below w.heap.size w w' := by
  refine (back_full src fl fv lv c fr til w hv hl).mono ?_
  rintro e w' ⟨v, h1, h2, _, _, h3⟩
  exact ⟨v, h1, h2, h3⟩
/-- of few fields: the same -/
theorem back_few (src : ByteArray) (fl : List Fld) (fv : Value) (lv : Int) (c : Nat) (fr til : Int) (w : World) (hv : FldsAt w fv fl) (hl : fl.length ≤ 12) :
    Calls Try.prog 8 #[.agg #[.string src, fv, .int .i64 lv, .int .u32 c, .int .i64 fr, .int .i64 til]] w fun e w' =>
      e = .returned (.agg #[.string src, fv, .int .i64 lv, .int .u32 c, .int .i64 fr, .int .i64 til]) ∧ Below w.heap.size w w' := by
  refine (back_full src fl fv lv c fr til w hv (by unfold maxLen; omega)).mono ?_
  rintro e w' ⟨v, h1, _, h2, _, h3⟩
  rw [h2 hl] at h1
  exact ⟨h1, h3⟩
/-- what it hands back, by name -/
theorem back_det (src : ByteArray) (fl : List Fld) (fa : Option Addr) (fc : Nat) (lv : Int) (c : Nat) (fr til : Int) (w : World) (hv : FldsAt w (.slice fa fl.length fc) fl) (hl : fl.length ≤ maxLen) :
    Calls Try.prog 8 #[.agg #[.string src, .slice fa fl.length fc, .int .i64 lv, .int .u32 c, .int .i64 fr, .int .i64 til]] w fun e w' =>
      e = .returned (.agg #[.string src, .slice fa (fl.take 12).length fc, .int .i64 lv, .int .u32 c, .int .i64 fr, .int .i64 til]) ∧ FldsAt w (.slice fa (fl.take 12).length fc) (fl.take 12) ∧ Below w.heap.size w w' := by
  refine (back_full src fl _ lv c fr til w hv hl).mono ?_
  rintro e w' ⟨v, h1, h0, _, h2, h3⟩
  rw [h2 fa fc rfl] at h1 h0
  exact ⟨h1, h0, h3⟩
end Go.Proofs.Ytipnhpfpppblhaa
