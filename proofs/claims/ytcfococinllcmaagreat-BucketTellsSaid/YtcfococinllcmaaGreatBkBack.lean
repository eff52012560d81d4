/- lychgatelaw22.back: a contract. -/
import Derived.Test.YtcfococinllcmaaGreatBkFew
import Derived.Test.YtcfococinllcmaaGreatBox3
namespace Go.Proofs.YtcfococinllcmaaGreat
open Go.RowKit Go.Maps

/-- the front of matchers, of numbers -/
theorem mtCells_take (l : List Mt) (i : Nat) : mtCells (l.take i) = (mtCells l).take (i * 3) := by
  induction l generalizing i with
  | nil => simp [mtCells]
  | cons f l ih =>
    cases i with
    | zero => simp [mtCells]
    | succ i => rw [List.take_succ_cons, mtCells, ih, mtCells, show (i + 1) * 3 = i * 3 + 1 + 1 + 1 by omega]; rfl
theorem rd_take {w : World} {a : Option Addr} {n c size : Nat} {xs : List Value} (h : RdAt w (.slice a n c) n size xs) (k : Nat) (hk : k ≤ n) (hn : a = none → n = 0) : RdAt w (.slice a k c) k size (xs.take (k * size)) := by
  refine ⟨by rw [List.length_take, h.1, Nat.min_eq_left (Nat.mul_le_mul_right _ hk)], ?_⟩
  rcases h.2 with ⟨h1, h0⟩ | ⟨ad, c', h1, hc, hr⟩
  · simp only [Value.slice.injEq] at h1
    obtain ⟨rfl, h2, rfl⟩ := h1
    exact .inl ⟨by rw [show k = 0 by omega], by omega⟩
  · simp only [Value.slice.injEq] at h1
    obtain ⟨rfl, _, rfl⟩ := h1
    refine .inr ⟨ad, c, rfl, by omega, fun h0 => ?_⟩
    obtain ⟨b, o, rfl, hlt, hcell⟩ := hr (by omega)
    refine ⟨b, o, rfl, hlt, fun j x hj => hcell j x ?_⟩
    have hjl := (List.getElem?_eq_some_iff.1 hj).1
    rw [List.length_take] at hjl
    rwa [List.getElem?_take_of_lt (by omega)] at hj
theorem mts_take {w : World} {a : Option Addr} {c : Nat} {l : List Mt} (h : MtsAt w (.slice a l.length c) l) (k : Nat) (hk : k ≤ l.length) (hn : a = none → l.length = 0) : MtsAt w (.slice a k c) (l.take k) := by
  have hl : (l.take k).length = k := by rw [List.length_take]; omega
  unfold MtsAt at h ⊢
  rw [hl, mtCells_take]
  exact rd_take h k hk hn
theorem ints_take {w : World} {a : Option Addr} {c : Nat} {l : List Int} (h : IntsAt w (.slice a l.length c) l) (k : Nat) (hk : k ≤ l.length) (hn : a = none → l.length = 0) : IntsAt w (.slice a k c) (l.take k) := by
  have hl : (l.take k).length = k := by rw [List.length_take]; omega
  unfold IntsAt at h ⊢
  rw [hl, List.map_take]
  have := rd_take h k hk hn
  rwa [Nat.mul_one] at this
/-- the first matchers, the first bounds -/
def cutH (h : Ha) : Ha := { h with ms := h.ms.take 14, bl := h.bl.take 22 }
theorem none_of {w : World} {size n c : Nat} {a : Option Addr} {xs : List Value} (h : RdAt w (.slice a n c) n size xs) : a = none → n = 0 := by
  rintro rfl
  rcases h.2 with ⟨h1, h0⟩ | ⟨ad, c', h1, _⟩
  · exact h0
  · cases h1
theorem min_cut {α : Type} (l : List α) (m : Nat) : ∃ k : Nat, k ≤ l.length ∧ l.take m = l.take k ∧ min (l.length : Int) m = (k : Int) ∧ k ≤ m := by
  rcases Nat.le_total l.length m with h | h
  · exact ⟨l.length, Nat.le_refl _, by rw [List.take_length, List.take_of_length_le h], by omega, h⟩
  · exact ⟨m, h, rfl, by omega, Nat.le_refl _⟩
set_option maxHeartbeats 1600000 in
set_option maxRecDepth 100000 in
theorem hback_any (h : Ha) (wv bv : Value) (w : World) (ha : HaAt w h wv bv) (hm : h.ms.length ≤ maxLen) (hb : h.bl.length ≤ maxLen) :
    Calls Tryz.prog 12 #[.agg #[.string h.nm, .int .i64 h.f, .int .u32 h.fc, .int .i64 h.t, .int .u32 h.tc, wv, bv]] w fun e w' =>
      ∃ wv' bv', e = .returned (.agg #[.string h.nm, .int .i64 h.f, .int .u32 h.fc, .int .i64 h.t, .int .u32 h.tc, wv', bv']) ∧ HaAt w (cutH h) wv' bv' ∧ Below w.heap.size w w' := by
  obtain ⟨ma, mc, rfl, hmc, _⟩ := RdAt.shape ha.ms
  obtain ⟨ba, bc, rfl, hbc, _⟩ := RdAt.shape ha.bl
  obtain ⟨k, hk, hkl, hmin, _⟩ := min_cut h.ms 14
  obtain ⟨j, hj, hjl, hjmin, _⟩ := min_cut h.bl 22
  change min (h.ms.length : Int) 14 = _ at hmin
  change min (h.bl.length : Int) 22 = _ at hjmin
  have HMT := Lib.hid (mts_take ha.ms k hk (none_of ha.ms))
  have HBT := Lib.hid (ints_take ha.bl j hj (none_of ha.bl))
  have HKL := Lib.hid hkl
  have HJL := Lib.hid hjl
  have hkc : k ≤ mc := Nat.le_trans hk hmc
  have hjc : j ≤ bc := Nat.le_trans hj hbc
  have hkm : k < 9223372036854775807 := by omega
  have hjm : j < 9223372036854775807 := by omega
  obtain ⟨nm, f, fc, t, tc, ms, bl⟩ := h
  dsimp only at *
  generalize hmn : ms.length = mn at *
  generalize hbn : bl.length = bn at *
  obtain ⟨W0, hW0⟩ : ∃ z, (w.alloc (.cells #[.string nm, .int .i64 f, .int .u32 fc, .int .i64 t, .int .u32 tc, .slice ma mn mc, .slice ba bn bc] 37)).alloc (.cells #[.string ⟨#[]⟩, .int .i64 0, .int .u32 0, .int .i64 0, .int .u32 0, .slice none 0 0, .slice none 0 0] 35) = z := ⟨_, rfl⟩
  have hb0 : Below w.heap.size w W0 := by rw [← hW0]; exact (alloc_below _ _).trans ((alloc_below _ _).mono (by simp))
  have hd := (Below.refl W0.heap.size W0).drew
  rw [← hW0] at hd
  obtain ⟨h1, h2, h3⟩ := box_cells hd
  have hT := box_there hd
  obtain ⟨h4, _, _⟩ := box_cells h3
  rw [World.size_alloc] at h1 hT
  rw [hW0] at h1 h4 hT
  have q0 := h4 0 _ rfl
  have q1 := h4 1 _ rfl
  have q2 := h4 2 _ rfl
  have q3 := h4 3 _ rfl
  have q4 := h4 4 _ rfl
  have q5 := h4 5 _ rfl
  have q6 := h4 6 _ rfl
  have r0 := h1 0 _ rfl
  have r1 := h1 1 _ rfl
  have r2 := h1 2 _ rfl
  have r3 := h1 3 _ rfl
  have r4 := h1 4 _ rfl
  have r5 := h1 5 _ rfl
  have r6 := h1 6 _ rfl
  have f0 := there_free hT 0 (by decide)
  have f1 := there_free hT 1 (by decide)
  have f2 := there_free hT 2 (by decide)
  have f3 := there_free hT 3 (by decide)
  have f4 := there_free hT 4 (by decide)
  have f5 := there_free hT 5 (by decide)
  have f6 := there_free hT 6 (by decide)
  have HB0 := Lib.hid hb0
  have HT := Lib.hid hT
  have hmn63 : mn ≤ 9223372036854775807 := by unfold maxLen at hm; omega
  have hbn63 : bn ≤ 9223372036854775807 := by unfold maxLen at hb; omega
  clear hd h1 h2 h3 h4 hT hb0 ha hkl hjl hm hb hmn hbn
  go_enter Tryz.func12, Tryz.ntmps12
  go_upto_region 1 with fail
  try rw [hW0]
  clear hW0
  have hp : ∀ o v, W0.drew.cell? ⟨w.heap.size, o, none⟩ = some v → (W0.drew.setCells (w.heap.size + 1) 0 [.string nm, .int .i64 f, .int .u32 fc, .int .i64 t, .int .u32 tc, .slice ma k mc, .slice ba j bc]).cell? ⟨w.heap.size, o, none⟩ = some v := fun o v h => by
    rw [World.cell?_setCells_out _ _ _ _ _ (fun hb _ => by simp at hb)]
    exact h
  refine wp_region_held_drew (S := (fun W => W.cell? ⟨w.heap.size, 0, none⟩ = some (.string nm) ∧ W.cell? ⟨w.heap.size, 1, none⟩ = some (.int .i64 f) ∧ W.cell? ⟨w.heap.size, 2, none⟩ = some (.int .u32 fc) ∧ W.cell? ⟨w.heap.size, 3, none⟩ = some (.int .i64 t) ∧ W.cell? ⟨w.heap.size, 4, none⟩ = some (.int .u32 tc) ∧ W.cell? ⟨w.heap.size, 5, none⟩ = some (.slice ma mn mc) ∧ W.cell? ⟨w.heap.size, 6, none⟩ = some (.slice ba bn bc))) (by kernel_rfl) ⟨q0, q1, q2, q3, q4, q5, q6⟩ (fun hHeld => ?_)
  have hbd : Below W0.heap.size W0 W0.drew := (Below.refl _ _).drew
  have HBD := Lib.hid (HB0.out.trans (hbd.mono HB0.out.size))
  clear hbd
  generalize W0.drew = wd at *
  refine held_take (i := 0) (v := ?_) rfl rfl (by kernel_rfl) (by kernel_rfl) (by kernel_rfl) (fun _ _ _ h => h) (by rfl) hHeld ?_ ?_
  rotate_left
  · rintro wh ⟨z0, z1, z2, z3, z4, z5, z6⟩
    go_simp
    (try with_reducible rfl)
  simp only [Act.put, List.setIfInBounds_toArray, List.set_cons_zero, List.set_cons_succ]
  refine held_take (i := 1) (v := ?_) rfl rfl (by kernel_rfl) (by kernel_rfl) (by kernel_rfl) (fun _ _ _ h => h) (by rfl) hHeld ?_ ?_
  rotate_left
  · rintro wh ⟨z0, z1, z2, z3, z4, z5, z6⟩
    go_simp
    (try with_reducible rfl)
  simp only [Act.put, List.setIfInBounds_toArray, List.set_cons_zero, List.set_cons_succ]
  refine held_take (i := 2) (v := ?_) rfl rfl (by kernel_rfl) (by kernel_rfl) (by kernel_rfl) (fun _ _ _ h => h) (by rfl) hHeld ?_ ?_
  rotate_left
  · rintro wh ⟨z0, z1, z2, z3, z4, z5, z6⟩
    go_simp
    (try with_reducible rfl)
  simp only [Act.put, List.setIfInBounds_toArray, List.set_cons_zero, List.set_cons_succ]
  refine held_take (i := 3) (v := ?_) rfl rfl (by kernel_rfl) (by kernel_rfl) (by kernel_rfl) (fun _ _ _ h => h) (by rfl) hHeld ?_ ?_
  rotate_left
  · rintro wh ⟨z0, z1, z2, z3, z4, z5, z6⟩
    go_simp
    (try with_reducible rfl)
  simp only [Act.put, List.setIfInBounds_toArray, List.set_cons_zero, List.set_cons_succ]
  refine held_take (i := 4) (v := ?_) rfl rfl (by kernel_rfl) (by kernel_rfl) (by kernel_rfl) (fun _ _ _ h => h) (by rfl) hHeld ?_ ?_
  rotate_left
  · rintro wh ⟨z0, z1, z2, z3, z4, z5, z6⟩
    go_simp
    (try with_reducible rfl)
  simp only [Act.put, List.setIfInBounds_toArray, List.set_cons_zero, List.set_cons_succ]
  refine held_take (i := 5) (v := ?_) rfl rfl (by kernel_rfl) (by kernel_rfl) (by kernel_rfl) (fun _ _ _ h => h) (by rfl) hHeld ?_ ?_
  rotate_left
  · rintro wh ⟨z0, z1, z2, z3, z4, z5, z6⟩
    go_simp
    (try with_reducible rfl)
  simp only [Act.put, List.setIfInBounds_toArray, List.set_cons_zero, List.set_cons_succ]
  refine held_take (i := 6) (v := ?_) rfl rfl (by kernel_rfl) (by kernel_rfl) (by kernel_rfl) (fun _ _ _ h => h) (by rfl) hHeld ?_ ?_
  rotate_left
  · rintro wh ⟨z0, z1, z2, z3, z4, z5, z6⟩
    go_simp
    (try with_reducible rfl)
  simp only [Act.put, List.setIfInBounds_toArray, List.set_cons_zero, List.set_cons_succ]
  refine held_take (i := 7) (v := ?_) rfl rfl (by kernel_rfl) (by kernel_rfl) (by kernel_rfl) (fun _ _ _ h => h) (by rfl) hHeld ?_ ?_
  rotate_left
  · rintro wh ⟨z0, z1, z2, z3, z4, z5, z6⟩
    go_simp
    (try with_reducible rfl)
  simp only [Act.put, List.setIfInBounds_toArray, List.set_cons_zero, List.set_cons_succ]
  refine held_take (i := 8) (v := ?_) rfl rfl (by kernel_rfl) (by kernel_rfl) (by kernel_rfl) (fun _ _ _ h => h) (by rfl) hHeld ?_ ?_
  rotate_left
  · rintro wh ⟨z0, z1, z2, z3, z4, z5, z6⟩
    go_simp
    (try with_reducible rfl)
  simp only [Act.put, List.setIfInBounds_toArray, List.set_cons_zero, List.set_cons_succ]
  refine held_take (i := 9) (v := ?_) rfl rfl (by kernel_rfl) (by kernel_rfl) (by kernel_rfl) (fun _ _ _ h => h) (by rfl) hHeld ?_ ?_
  rotate_left
  · rintro wh ⟨z0, z1, z2, z3, z4, z5, z6⟩
    go_simp
    (try with_reducible rfl)
  simp only [Act.put, List.setIfInBounds_toArray, List.set_cons_zero, List.set_cons_succ]
  refine held_take (i := 10) (v := ?_) rfl rfl (by kernel_rfl) (by kernel_rfl) (by kernel_rfl) (fun _ _ _ h => h) (by rfl) hHeld ?_ ?_
  rotate_left
  · rintro wh ⟨z0, z1, z2, z3, z4, z5, z6⟩
    go_simp
    (try with_reducible rfl)
  simp only [Act.put, List.setIfInBounds_toArray, List.set_cons_zero, List.set_cons_succ]
  refine held_take (i := 11) (v := ?_) rfl rfl (by kernel_rfl) (by kernel_rfl) (by kernel_rfl) (fun _ _ _ h => h) (by rfl) hHeld ?_ ?_
  rotate_left
  · rintro wh ⟨z0, z1, z2, z3, z4, z5, z6⟩
    go_simp
    (try with_reducible rfl)
  simp only [Act.put, List.setIfInBounds_toArray, List.set_cons_zero, List.set_cons_succ]
  refine held_take (i := 12) (v := ?_) rfl rfl (by kernel_rfl) (by kernel_rfl) (by kernel_rfl) (fun _ _ _ h => h) (by rfl) hHeld ?_ ?_
  rotate_left
  · rintro wh ⟨z0, z1, z2, z3, z4, z5, z6⟩
    go_simp
    (try with_reducible rfl)
  simp only [Act.put, List.setIfInBounds_toArray, List.set_cons_zero, List.set_cons_succ]
  refine held_take (i := 13) (v := ?_) rfl rfl (by kernel_rfl) (by kernel_rfl) (by kernel_rfl) (fun _ _ _ h => h) (by rfl) hHeld ?_ ?_
  rotate_left
  · rintro wh ⟨z0, z1, z2, z3, z4, z5, z6⟩
    go_simp
    (try with_reducible rfl)
  simp only [Act.put, List.setIfInBounds_toArray, List.set_cons_zero, List.set_cons_succ]
  refine held_take (i := 14) (v := ?_) rfl rfl (by kernel_rfl) (by kernel_rfl) (by kernel_rfl) (fun _ _ _ h => h) (by rfl) hHeld ?_ ?_
  rotate_left
  · rintro wh ⟨z0, z1, z2, z3, z4, z5, z6⟩
    go_simp
    (try with_reducible rfl)
  simp only [Act.put, List.setIfInBounds_toArray, List.set_cons_zero, List.set_cons_succ]
  refine held_take (i := 15) (v := ?_) rfl rfl (by kernel_rfl) (by kernel_rfl) (by kernel_rfl) (fun _ _ _ h => h) (by rfl) hHeld ?_ ?_
  rotate_left
  · rintro wh ⟨z0, z1, z2, z3, z4, z5, z6⟩
    go_simp
    (try with_reducible rfl)
  simp only [Act.put, List.setIfInBounds_toArray, List.set_cons_zero, List.set_cons_succ]
  refine held_take (i := 16) (v := ?_) rfl rfl (by kernel_rfl) (by kernel_rfl) (by kernel_rfl) (fun _ _ _ h => h) (by rfl) hHeld ?_ ?_
  rotate_left
  · rintro wh ⟨z0, z1, z2, z3, z4, z5, z6⟩
    go_simp
    (try with_reducible rfl)
  simp only [Act.put, List.setIfInBounds_toArray, List.set_cons_zero, List.set_cons_succ]
  refine held_take (i := 17) (v := ?_) rfl rfl (by kernel_rfl) (by kernel_rfl) (by kernel_rfl) (fun _ _ _ h => h) (by rfl) hHeld ?_ ?_
  rotate_left
  · rintro wh ⟨z0, z1, z2, z3, z4, z5, z6⟩
    go_simp
    (try with_reducible rfl)
  simp only [Act.put, List.setIfInBounds_toArray, List.set_cons_zero, List.set_cons_succ]
  refine held_take (i := 18) (v := ?_) rfl rfl (by kernel_rfl) (by kernel_rfl) (by kernel_rfl) (fun _ _ _ h => h) (by rfl) hHeld ?_ ?_
  rotate_left
  · rintro wh ⟨z0, z1, z2, z3, z4, z5, z6⟩
    go_simp
    (try with_reducible rfl)
  simp only [Act.put, List.setIfInBounds_toArray, List.set_cons_zero, List.set_cons_succ]
  refine held_take (i := 19) (v := ?_) rfl rfl (by kernel_rfl) (by kernel_rfl) (by kernel_rfl) (fun _ _ _ h => h) (by rfl) hHeld ?_ ?_
  rotate_left
  · rintro wh ⟨z0, z1, z2, z3, z4, z5, z6⟩
    go_simp
    (try with_reducible rfl)
  simp only [Act.put, List.setIfInBounds_toArray, List.set_cons_zero, List.set_cons_succ]
  refine held_take (i := 20) (v := ?_) rfl rfl (by kernel_rfl) (by kernel_rfl) (by kernel_rfl) (fun _ _ _ h => h) (by rfl) hHeld ?_ ?_
  rotate_left
  · rintro wh ⟨z0, z1, z2, z3, z4, z5, z6⟩
    go_simp
    (try with_reducible rfl)
  simp only [Act.put, List.setIfInBounds_toArray, List.set_cons_zero, List.set_cons_succ]
  refine held_step (i := 21) rfl (by kernel_rfl) (fun K hK => ?_)
  go_simp
  refine hK.out _ _ ⟨hp _ _ q0, hp _ _ q1, hp _ _ q2, hp _ _ q3, hp _ _ q4, hp _ _ q5, hp _ _ q6⟩ (fun hHeld => ?_)
  clear hK K
  (try simp only [Act.put, List.setIfInBounds_toArray])
  refine wpAnyH_done (by kernel_rfl) ?_ _
  go_wp2
  refine bodyPost_ret (results_agg1 rfl _ _ (w.heap.size + 1) [.string nm, .int .i64 f, .int .u32 fc, .int .i64 t, .int .u32 tc, .slice ma k mc, .slice ba j bc] (.struct _) rfl (World.rangeAt_setCells_same wd (w.heap.size + 1) 0 [.string nm, .int .i64 f, .int .u32 fc, .int .i64 t, .int .u32 tc, .slice ma k mc, .slice ba j bc] HT.out) Tryz.underlying35 rfl (by kernel_rfl)) rfl ?_
  refine ⟨_, _, rfl, ⟨?_, ?_⟩, below_puts (g := w.heap.size + 1) (o := 0) HBD.out (by omega) [.string nm, .int .i64 f, .int .u32 fc, .int .i64 t, .int .u32 tc, .slice ma k mc, .slice ba j bc]⟩
  · show MtsAt w _ (ms.take 14)
    rw [HKL.out]; exact HMT.out
  · show IntsAt w _ (bl.take 22)
    rw [HJL.out]; exact HBT.out
end Go.Proofs.YtcfococinllcmaaGreat
