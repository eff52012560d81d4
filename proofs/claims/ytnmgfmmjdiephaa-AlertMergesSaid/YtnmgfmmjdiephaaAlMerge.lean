/- alert.Merge: a contract. -/
import Derived.Test.YtnmgfmmjdiephaaMergeLaw
import Derived.Test.YtnmgfmmjdiephaaAlSame
import Derived.Test.YtnmgfmmjdiephaaAlDel
import Derived.Test.YtnmgfmmjdiephaaAlCut
import Derived.Test.YtnmgfmmjdiephaaHeldS
namespace Go.Proofs.Ytnmgfmmjdiephaa
open Go.RowKit

theorem c6_set' {w : World} {g : Nat} {v0 v1 v2 v3 v4 v5 : Value} (h : C6 g v0 v1 v2 v3 v4 v5 w) (x : Value) :
    C6 g v0 x v2 v3 v4 v5 (w.setCells g 1 [x]) ∧ C6 g v0 v1 v2 x v4 v5 (w.setCells g 3 [x]) := by
  obtain ⟨h0, h1, h2, h3, h4, h5⟩ := h
  have hs : ∀ j v, w.cell? ⟨g, j, none⟩ = some v → (w.setCells g j [x]).cell? ⟨g, j, none⟩ = some x := fun j v h => World.cell?_setCell_same' w ⟨g, j, none⟩ x (by rw [h]; rfl)
  have ho : ∀ i j v, j ≠ i → w.cell? ⟨g, j, none⟩ = some v → (w.setCells g i [x]).cell? ⟨g, j, none⟩ = some v := fun i j v hne h => by
    rw [World.cell?_setCells_out _ _ _ _ _ (fun _ _ => by simp; omega)]
    exact h
  exact ⟨⟨ho _ _ _ (by decide) h0, hs _ _ h1, ho _ _ _ (by decide) h2, ho _ _ _ (by decide) h3, ho _ _ _ (by decide) h4, ho _ _ _ (by decide) h5⟩,
    ⟨ho _ _ _ (by decide) h0, ho _ _ _ (by decide) h1, ho _ _ _ (by decide) h2, hs _ _ h3, ho _ _ _ (by decide) h4, ho _ _ _ (by decide) h5⟩⟩
/-- the call's boxes, in the midst -/
structure MSt (w : World) (x y : Al) (v u : Value) (l' : Int) (c' : Nat) (f' t' : Int) (W : World) : Prop where
  a : C6 w.heap.size (.string x.src) v (.int .i64 l') (.int .u32 c') (.int .i64 f') (.int .i64 t') W
  b : C6 (w.heap.size + 1) (.string y.src) u (.int .i64 y.lv) (.int .u32 y.c) (.int .i64 y.fr) (.int .i64 y.til) W
  ath : W.there w.heap.size 0 6
  rth : W.there (w.heap.size + 1 + 1) 0 6
  lt : w.heap.size + 1 + 1 < W.heap.size
  below : Below w.heap.size w W
section
variable {w W W' : World} {x y : Al} {v u : Value} {l' : Int} {c' : Nat} {f' t' : Int}
theorem MSt.later (h : MSt w x y v u l' c' f' t' W) (hb : Below W.heap.size W W') : MSt w x y v u l' c' f' t' W' := by
  have h1 := h.lt
  exact ⟨h.a.later hb (by omega), h.b.later hb (by omega), there_later h.ath hb (by omega), there_later h.rth hb h1, Nat.lt_of_lt_of_le h1 hb.size, h.below.trans (hb.mono h.below.size)⟩
theorem MSt.put (h : MSt w x y v u l' c' f' t' W) (j : Nat) (z : Value) {v2 : Value} {l2 : Int} {c2 : Nat} {f2 t2 : Int} (ho : C6 w.heap.size (.string x.src) v2 (.int .i64 l2) (.int .u32 c2) (.int .i64 f2) (.int .i64 t2) (W.setCells w.heap.size j [z])) : MSt w x y v2 u l2 c2 f2 t2 (W.setCells w.heap.size j [z]) := by
  exact ⟨ho, c6_out h.b (by omega) j [z], World.there_setCells h.ath w.heap.size j [z], World.there_setCells h.rth w.heap.size j [z],
    Nat.lt_of_lt_of_le h.lt (below_puts_base (g := w.heap.size) (o := j) (Below.refl 0 W) (Nat.zero_le _) [z]).size, below_puts h.below (Nat.le_refl _) [z]⟩
theorem MSt.put1 (h : MSt w x y v u l' c' f' t' W) (z : Value) : MSt w x y z u l' c' f' t' (W.setCells w.heap.size 1 [z]) := h.put 1 _ (c6_set' h.a _).1
theorem MSt.put2 (h : MSt w x y v u l' c' f' t' W) (z : Int) : MSt w x y v u z c' f' t' (W.setCells w.heap.size 2 [.int .i64 z]) := h.put 2 _ (c6_set h.a _).2.1
theorem MSt.put3 (h : MSt w x y v u l' c' f' t' W) (z : Nat) : MSt w x y v u l' z f' t' (W.setCells w.heap.size 3 [.int .u32 z]) := h.put 3 _ (c6_set' h.a _).2
theorem MSt.put4 (h : MSt w x y v u l' c' f' t' W) (z : Int) : MSt w x y v u l' c' z t' (W.setCells w.heap.size 4 [.int .i64 z]) := h.put 4 _ (c6_set h.a _).2.2.1
theorem MSt.put5 (h : MSt w x y v u l' c' f' t' W) (z : Int) : MSt w x y v u l' c' f' z (W.setCells w.heap.size 5 [.int .i64 z]) := h.put 5 _ (c6_set h.a _).2.2.2
end
/-- the product by which Merge reckons its end -/
def MTil (a b p : Int) : Prop := (p = 0 ∧ mTil a b = 0) ∨ (0 < p ∧ max p b = p ∧ mTil a b = p)
theorem mtil_arith {a b k : Int} (ha : 0 ≤ a ∧ a ≤ 1099511627776) (hb : 0 ≤ b ∧ b ≤ 1099511627776) (hk : (k = b ∧ b < a ∧ b ≤ 1) ∨ (k = a ∧ a ≤ b ∧ a ≤ 1) ∨ (k = 1 ∧ 1 < a ∧ 1 < b)) : MTil a b (wrap64 (max a b * k)) := by
  have h01 : k = 0 ∨ k = 1 := by omega
  unfold MTil mTil
  rcases h01 with h | h
  · left
    rw [h, Int.mul_zero]
    refine ⟨by unfold wrap64; decide, if_pos (by omega)⟩
  · right
    rw [h, Int.mul_one]
    have hw : wrap64 (max a b) = max a b := by unfold wrap64; omega
    rw [hw]
    refine ⟨by omega, by omega, ?_⟩
    rw [if_neg (by omega)]
def mergeR (ok : Bool) (x y : Al) (v : Value) : Value := match ok with
  | true => AlV (mergeA x y) v
  | false => zeroA
set_option maxHeartbeats 3200000 in
set_option maxRecDepth 100000 in
theorem amerge_any (x y : Al) (v u : Value) (w : World) (hx : AlFit x) (hy : AlFit y) (hv : FldsAt w v x.fl) (hu : FldsAt w u y.fl) :
    Calls Try.prog 32 #[AlV x v, AlV y u] w fun e w' => ∃ v', e = .returned (.tuple #[mergeR (mergeOk x y) x y v', .bool (mergeOk x y)]) ∧ FldsAt w' v' x.fl ∧ Below w.heap.size w w' := by
  have r1 := fun W (h : Below w.heap.size w W) => aright_any x.src x.fl x.lv x.c x.fr x.til v W hx.src (hv.later h) hx.fl hx.len
  have r2 := fun W (h : Below w.heap.size w W) => aright_any y.src y.fl y.lv y.c y.fr y.til u W hy.src (hu.later h) hy.fl hy.len
  have i1 := fun (hr : rightA x = true) W (h : Below w.heap.size w W) => id_any x.src x.fl x.lv x.c x.fr x.til v W (hv.later h) (idB_bound (rightA_who hr))
  have i2 := fun (hr : rightA y = true) W (h : Below w.heap.size w W) => id_any y.src y.fl y.lv y.c y.fr y.til u W (hu.later h) (idB_bound (rightA_who hr))
  have kc := fun (hr : rightA x = true) W (h : Below w.heap.size w W) => cloneF_any x.fl W v (hv.later h) (by have := (rightF_at (rightA_parts hr).2.2.1).1; omega)
  obtain ⟨va, vc, rfl, _, _⟩ := RdAt.shape hv
  obtain ⟨ua, uc, rfl, _, _⟩ := RdAt.shape hu
  have HV := Lib.hid hv
  have R1 := Lib.hid r1
  have R2 := Lib.hid r2
  have I1 := Lib.hid i1
  have I2 := Lib.hid i2
  have KC := Lib.hid kc
  clear hv hu r1 r2 i1 i2 kc hx hy
  obtain ⟨W0, hW0⟩ : ∃ z, ((w.alloc (.cells #[.string x.src, .slice va x.fl.length vc, .int .i64 x.lv, .int .u32 x.c, .int .i64 x.fr, .int .i64 x.til] 35)).alloc (.cells #[.string y.src, .slice ua y.fl.length uc, .int .i64 y.lv, .int .u32 y.c, .int .i64 y.fr, .int .i64 y.til] 35)).alloc (.cells #[.string ⟨#[]⟩, .slice none 0 0, .int .i64 0, .int .u32 0, .int .i64 0, .int .i64 0] 35) = z := ⟨_, rfl⟩
  have hb0 : Below w.heap.size w W0 := by rw [← hW0]; exact ((alloc_below _ _).trans ((alloc_below _ _).mono (by simp))).trans ((alloc_below _ _).mono (by simp; omega))
  have hz : w.heap.size + 1 + 1 < W0.heap.size := by rw [← hW0]; simp
  have hbb := (Below.refl W0.heap.size W0)
  rw [← hW0] at hbb
  obtain ⟨g1, g2, g3⟩ := box_cells hbb
  have hT2 := box_there hbb
  obtain ⟨g4, g5, g6, g7⟩ := box_two g3
  have g8 := (box_cells g3).2.2
  have hT : W0.there w.heap.size 0 6 := hW0 ▸ box_there g8
  rw [hW0] at g1 g4 g5 hT2
  simp only [World.size_alloc] at g1 hT2
  have H0 : Hid (MSt w x y (.slice va x.fl.length vc) (.slice ua y.fl.length uc) x.lv x.c x.fr x.til W0) := Lib.hid ⟨⟨g4 0 _ rfl, g4 1 _ rfl, g4 2 _ rfl, g4 3 _ rfl, g4 4 _ rfl, g4 5 _ rfl⟩, ⟨g5 0 _ rfl, g5 1 _ rfl, g5 2 _ rfl, g5 3 _ rfl, g5 4 _ rfl, g5 5 _ rfl⟩, hT, hT2, hz, hb0⟩
  have HW0 := Lib.hid hW0
  clear g1 g2 g3 g4 g5 g6 g7 g8 hbb hT hT2 hb0 hz hW0
  obtain ⟨a0, a1, a2, a3, a4, a5⟩ := H0.out.a
  obtain ⟨b0, b1, b2, b3, b4, b5⟩ := H0.out.b
  have hlt := H0.out.lt
  have hlt0 : w.heap.size < W0.heap.size := by omega
  have hlt1 : w.heap.size + 1 < W0.heap.size := by omega
  go_enter Try.func32, Try.ntmps32
  go_upto_region 1 with fail
  rw [HW0.out]
  clear HW0
  go_cut [20] (fun s20 wx => s20 = .bool (!mergeOk x y) ∧ MSt w x y (.slice va x.fl.length vc) (.slice ua y.fl.length uc) x.lv x.c x.fr x.til wx)
  case first =>
    cases hrx : rightA x
    · have HE : Hid (mergeOk x y = false) := by show _ = _; unfold mergeOk; rw [hrx]; rfl
      have k1 := R1.out
      simp only [show (whoA x.src x.fl x.lv && beginsA x.fr && endsA x.fr x.til) = rightA x from rfl, hrx] at k1
      clear hrx
      refine wp_region_held_drew (S := (fun W => W.cell? ⟨w.heap.size, 0, none⟩ = some (.string x.src) ∧ W.cell? ⟨w.heap.size, 1, none⟩ = some (.slice va x.fl.length vc) ∧ W.cell? ⟨w.heap.size, 2, none⟩ = some (.int .i64 x.lv) ∧ W.cell? ⟨w.heap.size, 3, none⟩ = some (.int .u32 x.c) ∧ W.cell? ⟨w.heap.size, 4, none⟩ = some (.int .i64 x.fr) ∧ W.cell? ⟨w.heap.size, 5, none⟩ = some (.int .i64 x.til) ∧ W.cell? ⟨w.heap.size + 1, 0, none⟩ = some (.string y.src) ∧ W.cell? ⟨w.heap.size + 1, 1, none⟩ = some (.slice ua y.fl.length uc) ∧ W.cell? ⟨w.heap.size + 1, 2, none⟩ = some (.int .i64 y.lv) ∧ W.cell? ⟨w.heap.size + 1, 3, none⟩ = some (.int .u32 y.c) ∧ W.cell? ⟨w.heap.size + 1, 4, none⟩ = some (.int .i64 y.fr) ∧ W.cell? ⟨w.heap.size + 1, 5, none⟩ = some (.int .i64 y.til))) (by kernel_rfl) ⟨a0, a1, a2, a3, a4, a5, b0, b1, b2, b3, b4, b5⟩ (fun hHeld => ?_)
      refine held_take (i := 0) (v := ?_) rfl rfl (by kernel_rfl) (by kernel_rfl) (by kernel_rfl) (fun _ _ _ h => h) (by rfl) hHeld ?_ ?_
      rotate_left
      · rintro wh ⟨z0, z1, z2, z3, z4, z5, z6, z7, z8, z9, z10, z11⟩
        go_simp
        (try with_reducible rfl)
      simp only [Act.put, List.setIfInBounds_toArray, List.set_cons_zero, List.set_cons_succ]
      refine held_call (i := 1) rfl (by kernel_rfl) (by rfl) (fun K hK => ?_)
      (go_simp; go_at_call 23; refine (k1 _ (H0.out.below.trans (((Below.refl _ W0).drew : Below W0.heap.size W0 W0.drew).mono H0.out.below.size))).mono ?_; rintro e w1 ⟨rfl, hb1⟩; have hB1 := ((Below.refl _ W0).drew : Below W0.heap.size W0 W0.drew).trans (hb1.mono ((Below.refl _ W0).drew : Below W0.heap.size W0 W0.drew).size))
      refine hK.out _ _ ⟨keep_cell a0 hB1 hlt0, keep_cell a1 hB1 hlt0, keep_cell a2 hB1 hlt0, keep_cell a3 hB1 hlt0, keep_cell a4 hB1 hlt0, keep_cell a5 hB1 hlt0, keep_cell b0 hB1 hlt1, keep_cell b1 hB1 hlt1, keep_cell b2 hB1 hlt1, keep_cell b3 hB1 hlt1, keep_cell b4 hB1 hlt1, keep_cell b5 hB1 hlt1⟩ (fun hHeld => ?_)
      clear hK K
      (try simp only [Act.put, List.setIfInBounds_toArray, List.set_cons_zero, List.set_cons_succ])
      refine held_take (i := 2) (v := ?_) rfl rfl (by kernel_rfl) (by kernel_rfl) (by kernel_rfl) (fun _ _ _ h => h) (by rfl) hHeld ?_ ?_
      rotate_left
      · rintro wh ⟨z0, z1, z2, z3, z4, z5, z6, z7, z8, z9, z10, z11⟩
        go_simp
        (try with_reducible rfl)
      simp only [Act.put, List.setIfInBounds_toArray, List.set_cons_zero, List.set_cons_succ]
      refine held_take (i := 3) (v := ?_) rfl rfl (by kernel_rfl) (by kernel_rfl) (by kernel_rfl) (fun _ _ _ h => h) (by rfl) hHeld ?_ ?_
      rotate_left
      · rintro wh ⟨z0, z1, z2, z3, z4, z5, z6, z7, z8, z9, z10, z11⟩
        go_simp
        (try with_reducible rfl)
      simp only [Act.put, List.setIfInBounds_toArray, List.set_cons_zero, List.set_cons_succ]
      refine held_skip (i := 4) rfl rfl (by kernel_rfl) (by kernel_rfl) (by kernel_rfl) (fun _ _ _ h => h) (by rfl) hHeld ?_
      simp only [Act.put, List.setIfInBounds_toArray, List.set_cons_zero, List.set_cons_succ]
      refine held_skip (i := 5) rfl rfl (by kernel_rfl) (by kernel_rfl) (by kernel_rfl) (fun _ _ _ h => h) (by rfl) hHeld ?_
      simp only [Act.put, List.setIfInBounds_toArray, List.set_cons_zero, List.set_cons_succ]
      refine held_skip (i := 6) rfl rfl (by kernel_rfl) (by kernel_rfl) (by kernel_rfl) (fun _ _ _ h => h) (by rfl) hHeld ?_
      simp only [Act.put, List.setIfInBounds_toArray, List.set_cons_zero, List.set_cons_succ]
      refine held_take (i := 7) (v := ?_) rfl rfl (by kernel_rfl) (by kernel_rfl) (by kernel_rfl) (fun _ _ _ h => h) (by rfl) hHeld ?_ ?_
      rotate_left
      · rintro wh ⟨z0, z1, z2, z3, z4, z5, z6, z7, z8, z9, z10, z11⟩
        go_simp
        (try with_reducible rfl)
      simp only [Act.put, List.setIfInBounds_toArray, List.set_cons_zero, List.set_cons_succ]
      refine held_take (i := 8) (v := ?_) rfl rfl (by kernel_rfl) (by kernel_rfl) (by kernel_rfl) (fun _ _ _ h => h) (by rfl) hHeld ?_ ?_
      rotate_left
      · rintro wh ⟨z0, z1, z2, z3, z4, z5, z6, z7, z8, z9, z10, z11⟩
        go_simp
        (try with_reducible rfl)
      simp only [Act.put, List.setIfInBounds_toArray, List.set_cons_zero, List.set_cons_succ]
      refine held_skip (i := 9) rfl rfl (by kernel_rfl) (by kernel_rfl) (by kernel_rfl) (fun _ _ _ h => h) (by rfl) hHeld ?_
      simp only [Act.put, List.setIfInBounds_toArray, List.set_cons_zero, List.set_cons_succ]
      refine held_skip (i := 10) rfl rfl (by kernel_rfl) (by kernel_rfl) (by kernel_rfl) (fun _ _ _ h => h) (by rfl) hHeld ?_
      simp only [Act.put, List.setIfInBounds_toArray, List.set_cons_zero, List.set_cons_succ]
      refine held_skip (i := 11) rfl rfl (by kernel_rfl) (by kernel_rfl) (by kernel_rfl) (fun _ _ _ h => h) (by rfl) hHeld ?_
      simp only [Act.put, List.setIfInBounds_toArray, List.set_cons_zero, List.set_cons_succ]
      refine held_skip (i := 12) rfl rfl (by kernel_rfl) (by kernel_rfl) (by kernel_rfl) (fun _ _ _ h => h) (by rfl) hHeld ?_
      simp only [Act.put, List.setIfInBounds_toArray, List.set_cons_zero, List.set_cons_succ]
      refine held_skip (i := 13) rfl rfl (by kernel_rfl) (by kernel_rfl) (by kernel_rfl) (fun _ _ _ h => h) (by rfl) hHeld ?_
      simp only [Act.put, List.setIfInBounds_toArray, List.set_cons_zero, List.set_cons_succ]
      refine held_take (i := 14) (v := ?_) rfl rfl (by kernel_rfl) (by kernel_rfl) (by kernel_rfl) (fun _ _ _ h => h) (by rfl) hHeld ?_ ?_
      rotate_left
      · rintro wh ⟨z0, z1, z2, z3, z4, z5, z6, z7, z8, z9, z10, z11⟩
        go_simp
        (try with_reducible rfl)
      simp only [Act.put, List.setIfInBounds_toArray, List.set_cons_zero, List.set_cons_succ]
      refine wpAnyH_done (by kernel_rfl) ?_ _
      go_wp2
      go_meet
      exact ⟨by rw [HE.out]; rfl, H0.out.later hB1⟩
    · have k1 := R1.out
      simp only [show (whoA x.src x.fl x.lv && beginsA x.fr && endsA x.fr x.til) = rightA x from rfl, hrx] at k1
      have k3 := I1.out hrx
      cases hry : rightA y
      · have HE : Hid (mergeOk x y = false) := by show _ = _; unfold mergeOk; rw [hrx, hry]; rfl
        have k2 := R2.out
        simp only [show (whoA y.src y.fl y.lv && beginsA y.fr && endsA y.fr y.til) = rightA y from rfl, hry] at k2
        clear hrx hry
        refine wp_region_held_drew (S := (fun W => W.cell? ⟨w.heap.size, 0, none⟩ = some (.string x.src) ∧ W.cell? ⟨w.heap.size, 1, none⟩ = some (.slice va x.fl.length vc) ∧ W.cell? ⟨w.heap.size, 2, none⟩ = some (.int .i64 x.lv) ∧ W.cell? ⟨w.heap.size, 3, none⟩ = some (.int .u32 x.c) ∧ W.cell? ⟨w.heap.size, 4, none⟩ = some (.int .i64 x.fr) ∧ W.cell? ⟨w.heap.size, 5, none⟩ = some (.int .i64 x.til) ∧ W.cell? ⟨w.heap.size + 1, 0, none⟩ = some (.string y.src) ∧ W.cell? ⟨w.heap.size + 1, 1, none⟩ = some (.slice ua y.fl.length uc) ∧ W.cell? ⟨w.heap.size + 1, 2, none⟩ = some (.int .i64 y.lv) ∧ W.cell? ⟨w.heap.size + 1, 3, none⟩ = some (.int .u32 y.c) ∧ W.cell? ⟨w.heap.size + 1, 4, none⟩ = some (.int .i64 y.fr) ∧ W.cell? ⟨w.heap.size + 1, 5, none⟩ = some (.int .i64 y.til))) (by kernel_rfl) ⟨a0, a1, a2, a3, a4, a5, b0, b1, b2, b3, b4, b5⟩ (fun hHeld => ?_)
        refine held_take (i := 0) (v := ?_) rfl rfl (by kernel_rfl) (by kernel_rfl) (by kernel_rfl) (fun _ _ _ h => h) (by rfl) hHeld ?_ ?_
        rotate_left
        · rintro wh ⟨z0, z1, z2, z3, z4, z5, z6, z7, z8, z9, z10, z11⟩
          go_simp
          (try with_reducible rfl)
        simp only [Act.put, List.setIfInBounds_toArray, List.set_cons_zero, List.set_cons_succ]
        refine held_call (i := 1) rfl (by kernel_rfl) (by rfl) (fun K hK => ?_)
        (go_simp; go_at_call 23; refine (k1 _ (H0.out.below.trans (((Below.refl _ W0).drew : Below W0.heap.size W0 W0.drew).mono H0.out.below.size))).mono ?_; rintro e w1 ⟨rfl, hb1⟩; have hB1 := ((Below.refl _ W0).drew : Below W0.heap.size W0 W0.drew).trans (hb1.mono ((Below.refl _ W0).drew : Below W0.heap.size W0 W0.drew).size))
        refine hK.out _ _ ⟨keep_cell a0 hB1 hlt0, keep_cell a1 hB1 hlt0, keep_cell a2 hB1 hlt0, keep_cell a3 hB1 hlt0, keep_cell a4 hB1 hlt0, keep_cell a5 hB1 hlt0, keep_cell b0 hB1 hlt1, keep_cell b1 hB1 hlt1, keep_cell b2 hB1 hlt1, keep_cell b3 hB1 hlt1, keep_cell b4 hB1 hlt1, keep_cell b5 hB1 hlt1⟩ (fun hHeld => ?_)
        clear hK K
        (try simp only [Act.put, List.setIfInBounds_toArray, List.set_cons_zero, List.set_cons_succ])
        refine held_take (i := 2) (v := ?_) rfl rfl (by kernel_rfl) (by kernel_rfl) (by kernel_rfl) (fun _ _ _ h => h) (by rfl) hHeld ?_ ?_
        rotate_left
        · rintro wh ⟨z0, z1, z2, z3, z4, z5, z6, z7, z8, z9, z10, z11⟩
          go_simp
          (try with_reducible rfl)
        simp only [Act.put, List.setIfInBounds_toArray, List.set_cons_zero, List.set_cons_succ]
        refine held_take (i := 3) (v := ?_) rfl rfl (by kernel_rfl) (by kernel_rfl) (by kernel_rfl) (fun _ _ _ h => h) (by rfl) hHeld ?_ ?_
        rotate_left
        · rintro wh ⟨z0, z1, z2, z3, z4, z5, z6, z7, z8, z9, z10, z11⟩
          go_simp
          (try with_reducible rfl)
        simp only [Act.put, List.setIfInBounds_toArray, List.set_cons_zero, List.set_cons_succ]
        refine held_take (i := 4) (v := ?_) rfl rfl (by kernel_rfl) (by kernel_rfl) (by kernel_rfl) (fun _ _ _ h => h) (by rfl) hHeld ?_ ?_
        rotate_left
        · rintro wh ⟨z0, z1, z2, z3, z4, z5, z6, z7, z8, z9, z10, z11⟩
          go_simp
          (try with_reducible rfl)
        simp only [Act.put, List.setIfInBounds_toArray, List.set_cons_zero, List.set_cons_succ]
        refine held_call (i := 5) rfl (by kernel_rfl) (by rfl) (fun K hK => ?_)
        (go_simp; go_at_call 23; refine (k2 _ (H0.out.below.trans (hB1.mono H0.out.below.size))).mono ?_; rintro e w2 ⟨rfl, hb2⟩; have hB2 := hB1.trans (hb2.mono hB1.size))
        refine hK.out _ _ ⟨keep_cell a0 hB2 hlt0, keep_cell a1 hB2 hlt0, keep_cell a2 hB2 hlt0, keep_cell a3 hB2 hlt0, keep_cell a4 hB2 hlt0, keep_cell a5 hB2 hlt0, keep_cell b0 hB2 hlt1, keep_cell b1 hB2 hlt1, keep_cell b2 hB2 hlt1, keep_cell b3 hB2 hlt1, keep_cell b4 hB2 hlt1, keep_cell b5 hB2 hlt1⟩ (fun hHeld => ?_)
        clear hK K
        (try simp only [Act.put, List.setIfInBounds_toArray, List.set_cons_zero, List.set_cons_succ])
        refine held_take (i := 6) (v := ?_) rfl rfl (by kernel_rfl) (by kernel_rfl) (by kernel_rfl) (fun _ _ _ h => h) (by rfl) hHeld ?_ ?_
        rotate_left
        · rintro wh ⟨z0, z1, z2, z3, z4, z5, z6, z7, z8, z9, z10, z11⟩
          go_simp
          (try with_reducible rfl)
        simp only [Act.put, List.setIfInBounds_toArray, List.set_cons_zero, List.set_cons_succ]
        refine held_take (i := 7) (v := ?_) rfl rfl (by kernel_rfl) (by kernel_rfl) (by kernel_rfl) (fun _ _ _ h => h) (by rfl) hHeld ?_ ?_
        rotate_left
        · rintro wh ⟨z0, z1, z2, z3, z4, z5, z6, z7, z8, z9, z10, z11⟩
          go_simp
          (try with_reducible rfl)
        simp only [Act.put, List.setIfInBounds_toArray, List.set_cons_zero, List.set_cons_succ]
        refine held_take (i := 8) (v := ?_) rfl rfl (by kernel_rfl) (by kernel_rfl) (by kernel_rfl) (fun _ _ _ h => h) (by rfl) hHeld ?_ ?_
        rotate_left
        · rintro wh ⟨z0, z1, z2, z3, z4, z5, z6, z7, z8, z9, z10, z11⟩
          go_simp
          (try with_reducible rfl)
        simp only [Act.put, List.setIfInBounds_toArray, List.set_cons_zero, List.set_cons_succ]
        refine held_skip (i := 9) rfl rfl (by kernel_rfl) (by kernel_rfl) (by kernel_rfl) (fun _ _ _ h => h) (by rfl) hHeld ?_
        simp only [Act.put, List.setIfInBounds_toArray, List.set_cons_zero, List.set_cons_succ]
        refine held_skip (i := 10) rfl rfl (by kernel_rfl) (by kernel_rfl) (by kernel_rfl) (fun _ _ _ h => h) (by rfl) hHeld ?_
        simp only [Act.put, List.setIfInBounds_toArray, List.set_cons_zero, List.set_cons_succ]
        refine held_skip (i := 11) rfl rfl (by kernel_rfl) (by kernel_rfl) (by kernel_rfl) (fun _ _ _ h => h) (by rfl) hHeld ?_
        simp only [Act.put, List.setIfInBounds_toArray, List.set_cons_zero, List.set_cons_succ]
        refine held_skip (i := 12) rfl rfl (by kernel_rfl) (by kernel_rfl) (by kernel_rfl) (fun _ _ _ h => h) (by rfl) hHeld ?_
        simp only [Act.put, List.setIfInBounds_toArray, List.set_cons_zero, List.set_cons_succ]
        refine held_skip (i := 13) rfl rfl (by kernel_rfl) (by kernel_rfl) (by kernel_rfl) (fun _ _ _ h => h) (by rfl) hHeld ?_
        simp only [Act.put, List.setIfInBounds_toArray, List.set_cons_zero, List.set_cons_succ]
        refine held_take (i := 14) (v := ?_) rfl rfl (by kernel_rfl) (by kernel_rfl) (by kernel_rfl) (fun _ _ _ h => h) (by rfl) hHeld ?_ ?_
        rotate_left
        · rintro wh ⟨z0, z1, z2, z3, z4, z5, z6, z7, z8, z9, z10, z11⟩
          go_simp
          (try with_reducible rfl)
        simp only [Act.put, List.setIfInBounds_toArray, List.set_cons_zero, List.set_cons_succ]
        refine wpAnyH_done (by kernel_rfl) ?_ _
        go_wp2
        go_meet
        exact ⟨by rw [HE.out]; rfl, H0.out.later hB2⟩
      · have k2 := R2.out
        simp only [show (whoA y.src y.fl y.lv && beginsA y.fr && endsA y.fr y.til) = rightA y from rfl, hry] at k2
        have k4 := I2.out hry
        simp only [show shortL (idB x.src x.fl) = idA x from rfl] at k3
        simp only [show shortL (idB y.src y.fl) = idA y from rfl] at k4
        have HE : Hid (mergeOk x y = decide (idA x = idA y)) := by show _ = _; unfold mergeOk; rw [hrx, hry]; rfl
        generalize idA x = n1 at *
        generalize idA y = n2 at *
        clear hrx hry
        refine wp_region_held_drew (S := (fun W => W.cell? ⟨w.heap.size, 0, none⟩ = some (.string x.src) ∧ W.cell? ⟨w.heap.size, 1, none⟩ = some (.slice va x.fl.length vc) ∧ W.cell? ⟨w.heap.size, 2, none⟩ = some (.int .i64 x.lv) ∧ W.cell? ⟨w.heap.size, 3, none⟩ = some (.int .u32 x.c) ∧ W.cell? ⟨w.heap.size, 4, none⟩ = some (.int .i64 x.fr) ∧ W.cell? ⟨w.heap.size, 5, none⟩ = some (.int .i64 x.til) ∧ W.cell? ⟨w.heap.size + 1, 0, none⟩ = some (.string y.src) ∧ W.cell? ⟨w.heap.size + 1, 1, none⟩ = some (.slice ua y.fl.length uc) ∧ W.cell? ⟨w.heap.size + 1, 2, none⟩ = some (.int .i64 y.lv) ∧ W.cell? ⟨w.heap.size + 1, 3, none⟩ = some (.int .u32 y.c) ∧ W.cell? ⟨w.heap.size + 1, 4, none⟩ = some (.int .i64 y.fr) ∧ W.cell? ⟨w.heap.size + 1, 5, none⟩ = some (.int .i64 y.til))) (by kernel_rfl) ⟨a0, a1, a2, a3, a4, a5, b0, b1, b2, b3, b4, b5⟩ (fun hHeld => ?_)
        refine held_take (i := 0) (v := ?_) rfl rfl (by kernel_rfl) (by kernel_rfl) (by kernel_rfl) (fun _ _ _ h => h) (by rfl) hHeld ?_ ?_
        rotate_left
        · rintro wh ⟨z0, z1, z2, z3, z4, z5, z6, z7, z8, z9, z10, z11⟩
          go_simp
          (try with_reducible rfl)
        simp only [Act.put, List.setIfInBounds_toArray, List.set_cons_zero, List.set_cons_succ]
        refine held_call (i := 1) rfl (by kernel_rfl) (by rfl) (fun K hK => ?_)
        (go_simp; go_at_call 23; refine (k1 _ (H0.out.below.trans (((Below.refl _ W0).drew : Below W0.heap.size W0 W0.drew).mono H0.out.below.size))).mono ?_; rintro e w1 ⟨rfl, hb1⟩; have hB1 := ((Below.refl _ W0).drew : Below W0.heap.size W0 W0.drew).trans (hb1.mono ((Below.refl _ W0).drew : Below W0.heap.size W0 W0.drew).size))
        refine hK.out _ _ ⟨keep_cell a0 hB1 hlt0, keep_cell a1 hB1 hlt0, keep_cell a2 hB1 hlt0, keep_cell a3 hB1 hlt0, keep_cell a4 hB1 hlt0, keep_cell a5 hB1 hlt0, keep_cell b0 hB1 hlt1, keep_cell b1 hB1 hlt1, keep_cell b2 hB1 hlt1, keep_cell b3 hB1 hlt1, keep_cell b4 hB1 hlt1, keep_cell b5 hB1 hlt1⟩ (fun hHeld => ?_)
        clear hK K
        (try simp only [Act.put, List.setIfInBounds_toArray, List.set_cons_zero, List.set_cons_succ])
        refine held_take (i := 2) (v := ?_) rfl rfl (by kernel_rfl) (by kernel_rfl) (by kernel_rfl) (fun _ _ _ h => h) (by rfl) hHeld ?_ ?_
        rotate_left
        · rintro wh ⟨z0, z1, z2, z3, z4, z5, z6, z7, z8, z9, z10, z11⟩
          go_simp
          (try with_reducible rfl)
        simp only [Act.put, List.setIfInBounds_toArray, List.set_cons_zero, List.set_cons_succ]
        refine held_take (i := 3) (v := ?_) rfl rfl (by kernel_rfl) (by kernel_rfl) (by kernel_rfl) (fun _ _ _ h => h) (by rfl) hHeld ?_ ?_
        rotate_left
        · rintro wh ⟨z0, z1, z2, z3, z4, z5, z6, z7, z8, z9, z10, z11⟩
          go_simp
          (try with_reducible rfl)
        simp only [Act.put, List.setIfInBounds_toArray, List.set_cons_zero, List.set_cons_succ]
        refine held_take (i := 4) (v := ?_) rfl rfl (by kernel_rfl) (by kernel_rfl) (by kernel_rfl) (fun _ _ _ h => h) (by rfl) hHeld ?_ ?_
        rotate_left
        · rintro wh ⟨z0, z1, z2, z3, z4, z5, z6, z7, z8, z9, z10, z11⟩
          go_simp
          (try with_reducible rfl)
        simp only [Act.put, List.setIfInBounds_toArray, List.set_cons_zero, List.set_cons_succ]
        refine held_call (i := 5) rfl (by kernel_rfl) (by rfl) (fun K hK => ?_)
        (go_simp; go_at_call 23; refine (k2 _ (H0.out.below.trans (hB1.mono H0.out.below.size))).mono ?_; rintro e w2 ⟨rfl, hb2⟩; have hB2 := hB1.trans (hb2.mono hB1.size))
        refine hK.out _ _ ⟨keep_cell a0 hB2 hlt0, keep_cell a1 hB2 hlt0, keep_cell a2 hB2 hlt0, keep_cell a3 hB2 hlt0, keep_cell a4 hB2 hlt0, keep_cell a5 hB2 hlt0, keep_cell b0 hB2 hlt1, keep_cell b1 hB2 hlt1, keep_cell b2 hB2 hlt1, keep_cell b3 hB2 hlt1, keep_cell b4 hB2 hlt1, keep_cell b5 hB2 hlt1⟩ (fun hHeld => ?_)
        clear hK K
        (try simp only [Act.put, List.setIfInBounds_toArray, List.set_cons_zero, List.set_cons_succ])
        refine held_take (i := 6) (v := ?_) rfl rfl (by kernel_rfl) (by kernel_rfl) (by kernel_rfl) (fun _ _ _ h => h) (by rfl) hHeld ?_ ?_
        rotate_left
        · rintro wh ⟨z0, z1, z2, z3, z4, z5, z6, z7, z8, z9, z10, z11⟩
          go_simp
          (try with_reducible rfl)
        simp only [Act.put, List.setIfInBounds_toArray, List.set_cons_zero, List.set_cons_succ]
        refine held_take (i := 7) (v := ?_) rfl rfl (by kernel_rfl) (by kernel_rfl) (by kernel_rfl) (fun _ _ _ h => h) (by rfl) hHeld ?_ ?_
        rotate_left
        · rintro wh ⟨z0, z1, z2, z3, z4, z5, z6, z7, z8, z9, z10, z11⟩
          go_simp
          (try with_reducible rfl)
        simp only [Act.put, List.setIfInBounds_toArray, List.set_cons_zero, List.set_cons_succ]
        refine held_take (i := 8) (v := ?_) rfl rfl (by kernel_rfl) (by kernel_rfl) (by kernel_rfl) (fun _ _ _ h => h) (by rfl) hHeld ?_ ?_
        rotate_left
        · rintro wh ⟨z0, z1, z2, z3, z4, z5, z6, z7, z8, z9, z10, z11⟩
          go_simp
          (try with_reducible rfl)
        simp only [Act.put, List.setIfInBounds_toArray, List.set_cons_zero, List.set_cons_succ]
        refine held_take (i := 9) (v := ?_) rfl rfl (by kernel_rfl) (by kernel_rfl) (by kernel_rfl) (fun _ _ _ h => h) (by rfl) hHeld ?_ ?_
        rotate_left
        · rintro wh ⟨z0, z1, z2, z3, z4, z5, z6, z7, z8, z9, z10, z11⟩
          go_simp
          (try with_reducible rfl)
        simp only [Act.put, List.setIfInBounds_toArray, List.set_cons_zero, List.set_cons_succ]
        refine held_take (i := 11) (v := ?_) rfl rfl (by kernel_rfl) (by kernel_rfl) (by kernel_rfl) (fun _ _ _ h => h) (by rfl) hHeld ?_ ?_
        rotate_left
        · rintro wh ⟨z0, z1, z2, z3, z4, z5, z6, z7, z8, z9, z10, z11⟩
          go_simp
          (try with_reducible rfl)
        simp only [Act.put, List.setIfInBounds_toArray, List.set_cons_zero, List.set_cons_succ]
        refine held_call (i := 10) rfl (by kernel_rfl) (by rfl) (fun K hK => ?_)
        (go_simp; go_at_call 31; refine (k3 _ (H0.out.below.trans (hB2.mono H0.out.below.size))).mono ?_; rintro e w3 ⟨rfl, hb3⟩; have hB3 := hB2.trans (hb3.mono hB2.size))
        refine hK.out _ _ ⟨keep_cell a0 hB3 hlt0, keep_cell a1 hB3 hlt0, keep_cell a2 hB3 hlt0, keep_cell a3 hB3 hlt0, keep_cell a4 hB3 hlt0, keep_cell a5 hB3 hlt0, keep_cell b0 hB3 hlt1, keep_cell b1 hB3 hlt1, keep_cell b2 hB3 hlt1, keep_cell b3 hB3 hlt1, keep_cell b4 hB3 hlt1, keep_cell b5 hB3 hlt1⟩ (fun hHeld => ?_)
        clear hK K
        (try simp only [Act.put, List.setIfInBounds_toArray, List.set_cons_zero, List.set_cons_succ])
        refine held_call (i := 12) rfl (by kernel_rfl) (by rfl) (fun K hK => ?_)
        (go_simp; go_at_call 31; refine (k4 _ (H0.out.below.trans (hB3.mono H0.out.below.size))).mono ?_; rintro e w4 ⟨rfl, hb4⟩; have hB4 := hB3.trans (hb4.mono hB3.size))
        refine hK.out _ _ ⟨keep_cell a0 hB4 hlt0, keep_cell a1 hB4 hlt0, keep_cell a2 hB4 hlt0, keep_cell a3 hB4 hlt0, keep_cell a4 hB4 hlt0, keep_cell a5 hB4 hlt0, keep_cell b0 hB4 hlt1, keep_cell b1 hB4 hlt1, keep_cell b2 hB4 hlt1, keep_cell b3 hB4 hlt1, keep_cell b4 hB4 hlt1, keep_cell b5 hB4 hlt1⟩ (fun hHeld => ?_)
        clear hK K
        (try simp only [Act.put, List.setIfInBounds_toArray, List.set_cons_zero, List.set_cons_succ])
        refine held_take (i := 13) (v := ?_) rfl rfl (by kernel_rfl) (by kernel_rfl) (by kernel_rfl) (fun _ _ _ h => h) (by rfl) hHeld ?_ ?_
        rotate_left
        · rintro wh ⟨z0, z1, z2, z3, z4, z5, z6, z7, z8, z9, z10, z11⟩
          go_simp
          (try with_reducible rfl)
        simp only [Act.put, List.setIfInBounds_toArray, List.set_cons_zero, List.set_cons_succ]
        refine held_take (i := 14) (v := ?_) rfl rfl (by kernel_rfl) (by kernel_rfl) (by kernel_rfl) (fun _ _ _ h => h) (by rfl) hHeld ?_ ?_
        rotate_left
        · rintro wh ⟨z0, z1, z2, z3, z4, z5, z6, z7, z8, z9, z10, z11⟩
          go_simp
          (try with_reducible rfl)
        simp only [Act.put, List.setIfInBounds_toArray, List.set_cons_zero, List.set_cons_succ]
        refine wpAnyH_done (by kernel_rfl) ?_ _
        go_wp2
        go_meet
        exact ⟨by rw [HE.out]; by_cases h : n1 = n2 <;> simp [h], H0.out.later hB4⟩
  case rest =>
    obtain ⟨rfl, hM⟩ := hcut
    have HM := Lib.hid hM
    clear hM a0 a1 a2 a3 a4 a5 b0 b1 b2 b3 b4 b5 hlt hlt0 hlt1 H0 R1 R2 I1 I2
    cases hok : mergeOk x y
    · have f0 := there_free HM.out.rth 0 (by decide)
      have f1 := there_free HM.out.rth 1 (by decide)
      have f2 := there_free HM.out.rth 2 (by decide)
      have f3 := there_free HM.out.rth 3 (by decide)
      have f4 := there_free HM.out.rth 4 (by decide)
      have f5 := there_free HM.out.rth 5 (by decide)
      obtain ⟨y0, hy0⟩ := there_cell HM.out.rth 0 (by decide)
      obtain ⟨y1, hy1⟩ := there_cell HM.out.rth 1 (by decide)
      obtain ⟨y2, hy2⟩ := there_cell HM.out.rth 2 (by decide)
      obtain ⟨y3, hy3⟩ := there_cell HM.out.rth 3 (by decide)
      obtain ⟨y4, hy4⟩ := there_cell HM.out.rth 4 (by decide)
      obtain ⟨y5, hy5⟩ := there_cell HM.out.rth 5 (by decide)
      have HOK := Lib.hid hok
      clear KC hok
      go_wp2
      refine bodyPost_ret (results_agg2 rfl _ _ (w.heap.size + 1 + 1) [.string ⟨#[]⟩, .slice none 0 0, .int .i64 0, .int .u32 0, .int .i64 0, .int .i64 0] (.struct _) rfl (World.rangeAt_setCells_same wc (w.heap.size + 1 + 1) 0 [.string ⟨#[]⟩, .slice none 0 0, .int .i64 0, .int .u32 0, .int .i64 0, .int .i64 0] HM.out.rth) Try.underlying35 rfl (by kernel_rfl)) rfl ?_
      have hbb := below_puts (g := w.heap.size + 1 + 1) (o := 0) HM.out.below (by omega) [.string ⟨#[]⟩, .slice none 0 0, .int .i64 0, .int .u32 0, .int .i64 0, .int .i64 0]
      exact ⟨.slice va x.fl.length vc, by rw [HOK.out]; rfl, HV.out.later hbb, hbb⟩
    · have hxy : rightA x = true ∧ rightA y = true := by
        unfold mergeOk at hok
        simp only [Bool.and_eq_true] at hok
        exact hok.1
      have kc := KC.out hxy.1
      obtain ⟨_, _, _, _, fx0, fx1, tx⟩ := rightA_parts hxy.1
      obtain ⟨_, _, _, _, fy0, fy1, ty⟩ := rightA_parts hxy.2
      have kj := join_any x.lv x.c y.lv y.c
      obtain ⟨J, hJ⟩ : ∃ z, joinL (x.lv, x.c) (y.lv, y.c) = z := ⟨_, rfl⟩
      simp only [hJ] at kj
      obtain ⟨j1, j2⟩ := J
      have HR : Hid (mergeA x y = ⟨x.src, x.fl, j1, j2, min x.fr y.fr, mTil x.til y.til⟩) := by show _ = _; unfold mergeA; rw [hJ]
      have KC' := Lib.hid kc
      have HOK := Lib.hid hok
      clear hxy KC kc hJ hok
      obtain ⟨a0, a1, a2, a3, a4, a5⟩ := HM.out.a
      obtain ⟨b0, b1, b2, b3, b4, b5⟩ := HM.out.b
      have hlt := HM.out.lt
      have hlt0 : w.heap.size < wc.heap.size := by omega
      have hlt1 : w.heap.size + 1 < wc.heap.size := by omega
      go_upto_region 3 with fail
      obtain ⟨mf, hmf⟩ : ∃ z, min x.fr y.fr = z := ⟨_, rfl⟩
      have HMF := Lib.hid hmf
      refine wp_region_heldS 11 (S := (fun W => W.cell? ⟨w.heap.size, 0, none⟩ = some (.string x.src) ∧ W.cell? ⟨w.heap.size, 1, none⟩ = some (.slice va x.fl.length vc) ∧ W.cell? ⟨w.heap.size, 2, none⟩ = some (.int .i64 x.lv) ∧ W.cell? ⟨w.heap.size, 3, none⟩ = some (.int .u32 x.c) ∧ W.cell? ⟨w.heap.size, 4, none⟩ = some (.int .i64 x.fr) ∧ W.cell? ⟨w.heap.size, 5, none⟩ = some (.int .i64 x.til) ∧ W.cell? ⟨w.heap.size + 1, 0, none⟩ = some (.string y.src) ∧ W.cell? ⟨w.heap.size + 1, 1, none⟩ = some (.slice ua y.fl.length uc) ∧ W.cell? ⟨w.heap.size + 1, 2, none⟩ = some (.int .i64 y.lv) ∧ W.cell? ⟨w.heap.size + 1, 3, none⟩ = some (.int .u32 y.c) ∧ W.cell? ⟨w.heap.size + 1, 4, none⟩ = some (.int .i64 y.fr) ∧ W.cell? ⟨w.heap.size + 1, 5, none⟩ = some (.int .i64 y.til))) (by kernel_rfl) ⟨a0, a1, a2, a3, a4, a5, b0, b1, b2, b3, b4, b5⟩ (fun hHeld => ?_)
      have hd : Below wc.heap.size wc wc.drew := (Below.refl _ _).drew
      refine heldS_take (i := 0) (v := ?_) rfl rfl (by kernel_rfl) (by kernel_rfl) (by kernel_rfl) (by kernel_rfl) (by rfl) (fun _ _ _ h => h) (by rfl) hHeld ?_ ?_
      rotate_left
      · rintro wh ⟨z0, z1, z2, z3, z4, z5, z6, z7, z8, z9, z10, z11⟩
        go_simp
        (try with_reducible rfl)
      simp only [Act.put, List.setIfInBounds_toArray, List.set_cons_zero, List.set_cons_succ]
      refine heldS_take (i := 1) (v := ?_) rfl rfl (by kernel_rfl) (by kernel_rfl) (by kernel_rfl) (by kernel_rfl) (by rfl) (fun _ _ _ h => h) (by rfl) hHeld ?_ ?_
      rotate_left
      · rintro wh ⟨z0, z1, z2, z3, z4, z5, z6, z7, z8, z9, z10, z11⟩
        go_simp
        (try with_reducible rfl)
      simp only [Act.put, List.setIfInBounds_toArray, List.set_cons_zero, List.set_cons_succ]
      refine heldS_take (i := 2) (v := ?_) rfl rfl (by kernel_rfl) (by kernel_rfl) (by kernel_rfl) (by kernel_rfl) (by rfl) (fun _ _ _ h => h) (by rfl) hHeld ?_ ?_
      rotate_left
      · rintro wh ⟨z0, z1, z2, z3, z4, z5, z6, z7, z8, z9, z10, z11⟩
        go_simp
        (try with_reducible rfl)
      simp only [Act.put, List.setIfInBounds_toArray, List.set_cons_zero, List.set_cons_succ]
      refine heldS_take (i := 3) (v := ?_) rfl rfl (by kernel_rfl) (by kernel_rfl) (by kernel_rfl) (by kernel_rfl) (by rfl) (fun _ _ _ h => h) (by rfl) hHeld ?_ ?_
      rotate_left
      · rintro wh ⟨z0, z1, z2, z3, z4, z5, z6, z7, z8, z9, z10, z11⟩
        go_simp
        (try with_reducible rfl)
      simp only [Act.put, List.setIfInBounds_toArray, List.set_cons_zero, List.set_cons_succ]
      refine heldS_take (i := 4) (v := ?_) rfl rfl (by kernel_rfl) (by kernel_rfl) (by kernel_rfl) (by kernel_rfl) (by rfl) (fun _ _ _ h => h) (by rfl) hHeld ?_ ?_
      rotate_left
      · rintro wh ⟨z0, z1, z2, z3, z4, z5, z6, z7, z8, z9, z10, z11⟩
        go_simp
        (try with_reducible rfl)
      simp only [Act.put, List.setIfInBounds_toArray, List.set_cons_zero, List.set_cons_succ]
      refine heldS_take (i := 5) (v := ?_) rfl rfl (by kernel_rfl) (by kernel_rfl) (by kernel_rfl) (by kernel_rfl) (by rfl) (fun _ _ _ h => h) (by rfl) hHeld ?_ ?_
      rotate_left
      · rintro wh ⟨z0, z1, z2, z3, z4, z5, z6, z7, z8, z9, z10, z11⟩
        go_simp
        (try with_reducible rfl)
      simp only [Act.put, List.setIfInBounds_toArray, List.set_cons_zero, List.set_cons_succ]
      refine heldS_take (i := 6) (v := ?_) rfl rfl (by kernel_rfl) (by kernel_rfl) (by kernel_rfl) (by kernel_rfl) (by rfl) (fun _ _ _ h => h) (by rfl) hHeld ?_ ?_
      rotate_left
      · rintro wh ⟨z0, z1, z2, z3, z4, z5, z6, z7, z8, z9, z10, z11⟩
        go_simp
        (try with_reducible rfl)
      simp only [Act.put, List.setIfInBounds_toArray, List.set_cons_zero, List.set_cons_succ]
      refine heldS_take (i := 10) (v := ?_) rfl rfl (by kernel_rfl) (by kernel_rfl) (by kernel_rfl) (by kernel_rfl) (by rfl) (fun _ _ _ h => h) (by rfl) hHeld ?_ ?_
      rotate_left
      · rintro wh ⟨z0, z1, z2, z3, z4, z5, z6, z7, z8, z9, z10, z11⟩
        go_simp
        (try with_reducible rfl)
      simp only [Act.put, List.setIfInBounds_toArray, List.set_cons_zero, List.set_cons_succ]
      refine heldS_step (i := 7) rfl (by kernel_rfl) (fun K hK => ?_)
      go_simp
      refine hK.out _ _ ⟨keep_cell a0 hd hlt0, keep_cell a1 hd hlt0, keep_cell a2 hd hlt0, keep_cell a3 hd hlt0, keep_cell a4 hd hlt0, keep_cell a5 hd hlt0, keep_cell b0 hd hlt1, keep_cell b1 hd hlt1, keep_cell b2 hd hlt1, keep_cell b3 hd hlt1, keep_cell b4 hd hlt1, keep_cell b5 hd hlt1⟩ (fun hHeld => ?_)
      clear hK K
      (try simp only [Act.put, List.setIfInBounds_toArray, List.set_cons_zero, List.set_cons_succ])
      refine heldS_step (i := 8) rfl (by kernel_rfl) (fun K hK => ?_)
      go_simp
      refine hK.out _ _ ⟨keep_cell a0 hd hlt0, keep_cell a1 hd hlt0, keep_cell a2 hd hlt0, keep_cell a3 hd hlt0, keep_cell a4 hd hlt0, keep_cell a5 hd hlt0, keep_cell b0 hd hlt1, keep_cell b1 hd hlt1, keep_cell b2 hd hlt1, keep_cell b3 hd hlt1, keep_cell b4 hd hlt1, keep_cell b5 hd hlt1⟩ (fun hHeld => ?_)
      clear hK K
      (try simp only [Act.put, List.setIfInBounds_toArray, List.set_cons_zero, List.set_cons_succ])
      refine heldS_step (i := 9) rfl (by kernel_rfl) (fun K hK => ?_)
      (go_simp; go_at_call 62; refine (kj _).mono ?_; rintro e wj ⟨rfl, hbj⟩; have hbJ := hd.trans (hbj.mono hd.size))
      refine hK.out _ _ ⟨keep_cell a0 hbJ hlt0, keep_cell a1 hbJ hlt0, keep_cell a2 hbJ hlt0, keep_cell a3 hbJ hlt0, keep_cell a4 hbJ hlt0, keep_cell a5 hbJ hlt0, keep_cell b0 hbJ hlt1, keep_cell b1 hbJ hlt1, keep_cell b2 hbJ hlt1, keep_cell b3 hbJ hlt1, keep_cell b4 hbJ hlt1, keep_cell b5 hbJ hlt1⟩ (fun hHeld => ?_)
      clear hK K
      (try simp only [Act.put, List.setIfInBounds_toArray, List.set_cons_zero, List.set_cons_succ])
      have HJ := Lib.hid (HM.out.later hbJ)
      clear a0 a1 a2 a3 a4 a5 b0 b1 b2 b3 b4 b5 hHeld hbJ hbj hd kj HM hlt hlt0 hlt1
      obtain ⟨a0, a1, a2, a3, a4, a5⟩ := HJ.out.a
      have f4 := there_free HJ.out.ath 4 (by decide)
      have f2 := there_free HJ.out.ath 2 (by decide)
      have f3 := there_free HJ.out.ath 3 (by decide)
      refine heldS_last (i := 11) rfl (by kernel_rfl) (by kernel_rfl) (fun K hK => ?_)
      go_simp
      refine hK.out _ _ ?_
      clear hK K
      (try simp only [Act.put, List.setIfInBounds_toArray, List.set_cons_zero, List.set_cons_succ])
      refine heldS_last (i := 12) rfl (by kernel_rfl) (by kernel_rfl) (fun K hK => ?_)
      go_simp
      refine hK.out _ _ ?_
      clear hK K
      (try simp only [Act.put, List.setIfInBounds_toArray, List.set_cons_zero, List.set_cons_succ])
      refine heldS_last (i := 13) rfl (by kernel_rfl) (by kernel_rfl) (fun K hK => ?_)
      go_simp
      refine hK.out _ _ ?_
      clear hK K
      (try simp only [Act.put, List.setIfInBounds_toArray, List.set_cons_zero, List.set_cons_succ])
      refine wpAnyEnd_done (by kernel_rfl) ?_ _
      go_upto_region 4 with fail
      change Code.wp _ _ _ _ (((wj.setCells w.heap.size 4 [.int .i64 mf]).setCells w.heap.size 2 [.int .i64 j1]).setCells w.heap.size 3 [.int .u32 j2])
      have H4 := Lib.hid (((HJ.out.put4 mf).put2 j1).put3 j2)
      generalize ((wj.setCells w.heap.size 4 [.int .i64 mf]).setCells w.heap.size 2 [.int .i64 j1]).setCells w.heap.size 3 [.int .u32 j2] = w4 at *
      clear a0 a1 a2 a3 a4 a5 f2 f3 f4 HJ hmf
      obtain ⟨a0, a1, a2, a3, a4, a5⟩ := H4.out.a
      obtain ⟨b0, b1, b2, b3, b4, b5⟩ := H4.out.b
      have f5 := there_free H4.out.ath 5 (by decide)
      have TX : Hid (0 ≤ x.til ∧ x.til ≤ 1099511627776) := Lib.hid (by omega)
      have TY : Hid (0 ≤ y.til ∧ y.til ≤ 1099511627776) := Lib.hid (by omega)
      clear fx0 fx1 tx fy0 fy1 ty
      go_cut [] (fun wx => ∃ p, MSt w x y (.slice va x.fl.length vc) (.slice ua y.fl.length uc) j1 j2 mf p wx ∧ MTil x.til y.til p)
      case first =>
        go_wp2
        all_goals first
          | (have h1 : 1 < (if y.til < x.til then y.til else x.til) := by assumption
             have hk : MTil x.til y.til (wrap64 (max x.til y.til * 1)) := mtil_arith TX.out TY.out (.inr (.inr ⟨rfl, by split at h1 <;> omega, by split at h1 <;> omega⟩))
             rw [Int.mul_one] at hk
             go_meet
             exact ⟨_, H4.out.put5 _, hk⟩)
          | (have h2 : y.til < x.til := by assumption
             have h1 : (if y.til < x.til then y.til else x.til) ≤ 1 := by assumption
             rw [if_pos h2] at h1
             have hk : MTil x.til y.til (wrap64 (max x.til y.til * y.til)) := mtil_arith TX.out TY.out (.inl ⟨rfl, h2, h1⟩)
             go_meet
             exact ⟨_, H4.out.put5 _, hk⟩)
          | (have h2 : x.til ≤ y.til := by assumption
             have h1 : (if y.til < x.til then y.til else x.til) ≤ 1 := by assumption
             rw [if_neg (by omega)] at h1
             have hk : MTil x.til y.til (wrap64 (max x.til y.til * x.til)) := mtil_arith TX.out TY.out (.inr (.inl ⟨rfl, h2, h1⟩))
             go_meet
             exact ⟨_, H4.out.put5 _, hk⟩)
      case rest =>
        obtain ⟨p, hG, hp⟩ := hcut
        have H5 := Lib.hid hG
        clear a0 a1 a2 a3 a4 a5 b0 b1 b2 b3 b4 b5 f5 H4 hG TX TY
        obtain ⟨a0, a1, a2, a3, a4, a5⟩ := H5.out.a
        have b5 := H5.out.b.2.2.2.2.2
        have f5 := there_free H5.out.ath 5 (by decide)
        go_upto_if 48 with fail
        go_cut [] (fun wx => MSt w x y (.slice va x.fl.length vc) (.slice ua y.fl.length uc) j1 j2 mf (mTil x.til y.til) wx)
        case first =>
          rcases hp with ⟨h1, h2⟩ | ⟨h2, h3, h4⟩
          · have hpn : (p != 0) = false := by rw [h1]; rfl
            have HE : Hid (mTil x.til y.til = p) := Lib.hid (by omega)
            clear h1 h2
            go_wp2
            go_meet
            rw [HE.out]
            exact H5.out
          · have hpn : (p != 0) = true := by rw [bne_iff_ne]; omega
            have HE : Hid (mTil x.til y.til = p) := Lib.hid (by omega)
            have hmx : max p y.til = p := h3
            clear h2 h3 h4
            go_wp2
            go_meet
            rw [HE.out]
            exact H5.out.put5 _
        case rest =>
          have H6 := Lib.hid hcut
          clear a0 a1 a2 a3 a4 a5 b5 f5 H5 hcut hp
          obtain ⟨t, ht⟩ : ∃ t, mTil x.til y.til = t := ⟨_, rfl⟩
          rw [ht] at H6
          have HTT := Lib.hid ht
          have a1 := H6.out.a.2.1
          have f1 := there_free H6.out.ath 1 (by decide)
          have kc := KC'.out _ H6.out.below
          clear ht
          go_wp2_with fail
          refine kc.mono ?_
          rintro e w7 ⟨v7, rfl, hown, hb7⟩
          obtain ⟨xa, xc, rfl, _, _⟩ := RdAt.shape (RdAt.own hown)
          have H7 := Lib.hid (H6.out.later hb7)
          have HOW : Hid (∀ q, (Value.slice xa x.fl.length xc).ownBlock = some q → wc.heap.size ≤ q) := Lib.hid (fun q hq => (hown.lt q hq).1)
          have HF7 : Hid (FldsAt w7 (.slice xa x.fl.length xc) x.fl) := Lib.hid (RdAt.own hown)
          have HLT := Lib.hid H6.out.lt
          clear a1 f1 kc hown hb7 H6 KC'
          obtain ⟨a0, a1, a2, a3, a4, a5⟩ := H7.out.a
          have f1 := there_free H7.out.ath 1 (by decide)
          go_upto_region 8 with fail
          change Code.wp _ _ _ _ (w7.setCells w.heap.size 1 [.slice xa x.fl.length xc])
          have H8 := Lib.hid (H7.out.put1 (.slice xa x.fl.length xc))
          have HF8 : Hid (FldsAt (w7.setCells w.heap.size 1 [.slice xa x.fl.length xc]) (.slice xa x.fl.length xc) x.fl) := Lib.hid (rd_puts (g := w.heap.size) (o := 1) HF7.out (fun q hq => by have := HOW.out q hq; have := HLT.out; omega) [.slice xa x.fl.length xc])
          generalize w7.setCells w.heap.size 1 [.slice xa x.fl.length xc] = w8 at *
          have HF9 : Hid (FldsAt (w8.setCells (w.heap.size + 1 + 1) 0 [.string x.src, .slice xa x.fl.length xc, .int .i64 j1, .int .u32 j2, .int .i64 mf, .int .i64 t]) (.slice xa x.fl.length xc) x.fl) := Lib.hid (rd_puts (g := w.heap.size + 1 + 1) (o := 0) HF8.out (fun q hq => by have h1 := HOW.out q hq; have h2 := HLT.out; omega) [.string x.src, .slice xa x.fl.length xc, .int .i64 j1, .int .u32 j2, .int .i64 mf, .int .i64 t])
          clear a0 a1 a2 a3 a4 a5 f1 H7 HF7
          obtain ⟨a0, a1, a2, a3, a4, a5⟩ := H8.out.a
          have f0 := there_free H8.out.rth 0 (by decide)
          have f1 := there_free H8.out.rth 1 (by decide)
          have f2 := there_free H8.out.rth 2 (by decide)
          have f3 := there_free H8.out.rth 3 (by decide)
          have f4 := there_free H8.out.rth 4 (by decide)
          have f5 := there_free H8.out.rth 5 (by decide)
          obtain ⟨y0, hy0⟩ := there_cell H8.out.rth 0 (by decide)
          obtain ⟨y1, hy1⟩ := there_cell H8.out.rth 1 (by decide)
          obtain ⟨y2, hy2⟩ := there_cell H8.out.rth 2 (by decide)
          obtain ⟨y3, hy3⟩ := there_cell H8.out.rth 3 (by decide)
          obtain ⟨y4, hy4⟩ := there_cell H8.out.rth 4 (by decide)
          obtain ⟨y5, hy5⟩ := there_cell H8.out.rth 5 (by decide)
          go_wp2
          refine bodyPost_ret (results_agg2 rfl _ _ (w.heap.size + 1 + 1) [.string x.src, .slice xa x.fl.length xc, .int .i64 j1, .int .u32 j2, .int .i64 mf, .int .i64 t] (.struct _) rfl (World.rangeAt_setCells_same w8 (w.heap.size + 1 + 1) 0 [.string x.src, .slice xa x.fl.length xc, .int .i64 j1, .int .u32 j2, .int .i64 mf, .int .i64 t] H8.out.rth) Try.underlying35 rfl (by kernel_rfl)) rfl ?_
          have hbb := below_puts (g := w.heap.size + 1 + 1) (o := 0) H8.out.below (by omega) [.string x.src, .slice xa x.fl.length xc, .int .i64 j1, .int .u32 j2, .int .i64 mf, .int .i64 t]
          refine ⟨.slice xa x.fl.length xc, ?_, HF9.out, hbb⟩
          rw [HOK.out]
          unfold mergeR
          dsimp only
          rw [HR.out, HMF.out, HTT.out]
          rfl
end Go.Proofs.Ytnmgfmmjdiephaa
