/- policy.Visible: its predicate, slices.Clone and slices.DeleteFunc at Field: contracts. -/
import Derived.Test.YtipnhpfpppblhaaGreatAlRaise
import Derived.Lib.SliceRun
import Derived.Test.YtipnhpfpppblhaaGreatHeld
namespace Go.Proofs.YtipnhpfpppblhaaGreat
open Go.RowKit

/-- a field that may be told -/
def seesL (rs : List Nmd) (f t : Int × Nat) (x : Fld) : Bool := flowsL (raisedL rs x.1 f).1 (raisedL rs x.1 f).2 t.1 t.2
set_option maxHeartbeats 1600000 in
set_option maxRecDepth 100000 in
theorem vis1_any (s0 s1 s2 s4 s5 : Option Addr × Nat × Nat) (l : List Nmd) (rv : Value) (x y : ByteArray) (bp bf bt : Nat) (fl : Int) (fc : Nat) (tl : Int) (tc : Nat) (w : World) (hv : NmdsAt w rv l) (hl : l.length ≤ maxLen)
    (hp : C6 bp (SV s0) (SV s1) (SV s2) rv (SV s4) (SV s5) w) (hf0 : w.cell? ⟨bf, 0, none⟩ = some (.int .i64 fl)) (hf1 : w.cell? ⟨bf, 1, none⟩ = some (.int .u32 fc)) (ht0 : w.cell? ⟨bt, 0, none⟩ = some (.int .i64 tl)) (ht1 : w.cell? ⟨bt, 1, none⟩ = some (.int .u32 tc)) :
    Calls Tryz.prog 73 #[.agg #[.string x, .string y], .pointer (some ⟨bp, 0, none⟩), .pointer (some ⟨bf, 0, none⟩), .pointer (some ⟨bt, 0, none⟩)] w fun e w' =>
      e = .returned (.bool (!seesL l (fl, fc) (tl, tc) (x, y))) ∧ Below w.heap.size w w' := by
  have k1 := fun W (h : Below w.heap.size w W) => raised_any s0 s1 s2 s4 s5 l rv x fl fc W (hv.later h) hl
  obtain ⟨ra, rc, rfl, _, _⟩ := RdAt.shape hv
  clear hv
  obtain ⟨a0, n0, c0⟩ := s0
  obtain ⟨a1, n1, c1⟩ := s1
  obtain ⟨a2, n2, c2⟩ := s2
  obtain ⟨a4, n4, c4⟩ := s4
  obtain ⟨a5, n5, c5⟩ := s5
  obtain ⟨p0, p1, p2, p3, p4, p5⟩ := hp
  obtain ⟨jl, hjl⟩ : ∃ z, raisedL l x (fl, fc) = z := ⟨_, rfl⟩
  have HF : Hid (seesL l (fl, fc) (tl, tc) (x, y) = flowsL jl.1 jl.2 tl tc) := by show _ = _; unfold seesL; rw [hjl]
  rw [hjl] at k1
  obtain ⟨j1, j2⟩ := jl
  have k2 := flows_any j1 j2 tl tc
  have hlp := cell_lt p0
  have hlf := cell_lt hf0
  have hlt := cell_lt ht0
  have hb0 := alloc_below w (.cells #[.string x, .string y] 90)
  have P0 := keep_cell p0 hb0 hlp
  have P1 := keep_cell p1 hb0 hlp
  have P2 := keep_cell p2 hb0 hlp
  have P3 := keep_cell p3 hb0 hlp
  have P4 := keep_cell p4 hb0 hlp
  have P5 := keep_cell p5 hb0 hlp
  have F0 := keep_cell hf0 hb0 hlf
  have F1 := keep_cell hf1 hb0 hlf
  have T0 := keep_cell ht0 hb0 hlt
  have T1 := keep_cell ht1 hb0 hlt
  have hsz := Lib.hid hb0.size
  have y0 : (w.alloc (.cells #[.string x, .string y] 90)).cell? ⟨w.heap.size, 0, none⟩ = some (.string x) := World.cell?_alloc_at _ _ _ _ rfl
  clear p0 p1 p2 p3 p4 p5 hf0 hf1 ht0 ht1 hjl
  go_enter Tryz.func73, Tryz.ntmps73
  go_upto_region 1 with fail
  change Code.wp _ _ _ _ (w.alloc (.cells #[.string x, .string y] 90))
  generalize w.alloc (.cells #[.string x, .string y] 90) = w0 at *
  have k1 : ∀ W, Below w0.heap.size w0 W → Calls Tryz.prog 74 #[.agg #[.slice a0 n0 c0, .slice a1 n1 c1, .slice a2 n2 c2, .slice ra l.length rc, .slice a4 n4 c4, .slice a5 n5 c5], .string x, Lab fl fc] W fun e w' => e = .returned (Lab j1 j2) ∧ Below w0.heap.size w0 w' := fun W h => by
    refine (k1 W (hb0.trans (h.mono hb0.size))).mono ?_
    rintro e w' ⟨rfl, hb⟩
    exact ⟨rfl, h.trans (hb.mono h.size)⟩
  have k2 : ∀ W, Below w0.heap.size w0 W → Calls Tryz.prog 29 #[Lab j1 j2, Lab tl tc] W fun e w' => e = .returned (.bool (flowsL j1 j2 tl tc)) ∧ Below w0.heap.size w0 w' := fun W h => by
    refine (k2 W).mono ?_
    rintro e w' ⟨rfl, hb⟩
    exact ⟨rfl, h.trans (hb.mono h.size)⟩
  have HB0 := Lib.hid hb0
  clear hb0
  have hS : ∀ W, Below w0.heap.size w0 W → (fun W => W.cell? ⟨bp, 0, none⟩ = some (.slice a0 n0 c0) ∧ W.cell? ⟨bp, 1, none⟩ = some (.slice a1 n1 c1) ∧ W.cell? ⟨bp, 2, none⟩ = some (.slice a2 n2 c2) ∧ W.cell? ⟨bp, 3, none⟩ = some (.slice ra l.length rc) ∧ W.cell? ⟨bp, 4, none⟩ = some (.slice a4 n4 c4) ∧ W.cell? ⟨bp, 5, none⟩ = some (.slice a5 n5 c5) ∧ W.cell? ⟨bf, 0, none⟩ = some (.int .i64 fl) ∧ W.cell? ⟨bf, 1, none⟩ = some (.int .u32 fc) ∧ W.cell? ⟨bt, 0, none⟩ = some (.int .i64 tl) ∧ W.cell? ⟨bt, 1, none⟩ = some (.int .u32 tc) ∧ W.cell? ⟨w.heap.size, 0, none⟩ = some (.string x)) W := fun W h => ⟨keep_cell P0 h (Nat.lt_of_lt_of_le hlp hsz.out), keep_cell P1 h (Nat.lt_of_lt_of_le hlp hsz.out), keep_cell P2 h (Nat.lt_of_lt_of_le hlp hsz.out), keep_cell P3 h (Nat.lt_of_lt_of_le hlp hsz.out), keep_cell P4 h (Nat.lt_of_lt_of_le hlp hsz.out), keep_cell P5 h (Nat.lt_of_lt_of_le hlp hsz.out),
    keep_cell F0 h (Nat.lt_of_lt_of_le hlf hsz.out), keep_cell F1 h (Nat.lt_of_lt_of_le hlf hsz.out), keep_cell T0 h (Nat.lt_of_lt_of_le hlt hsz.out), keep_cell T1 h (Nat.lt_of_lt_of_le hlt hsz.out), keep_cell y0 h (cell_lt y0)⟩
  refine wp_region_held_drew (S := (fun W => W.cell? ⟨bp, 0, none⟩ = some (.slice a0 n0 c0) ∧ W.cell? ⟨bp, 1, none⟩ = some (.slice a1 n1 c1) ∧ W.cell? ⟨bp, 2, none⟩ = some (.slice a2 n2 c2) ∧ W.cell? ⟨bp, 3, none⟩ = some (.slice ra l.length rc) ∧ W.cell? ⟨bp, 4, none⟩ = some (.slice a4 n4 c4) ∧ W.cell? ⟨bp, 5, none⟩ = some (.slice a5 n5 c5) ∧ W.cell? ⟨bf, 0, none⟩ = some (.int .i64 fl) ∧ W.cell? ⟨bf, 1, none⟩ = some (.int .u32 fc) ∧ W.cell? ⟨bt, 0, none⟩ = some (.int .i64 tl) ∧ W.cell? ⟨bt, 1, none⟩ = some (.int .u32 tc) ∧ W.cell? ⟨w.heap.size, 0, none⟩ = some (.string x))) (by kernel_rfl) (hS _ ((Below.refl _ _).drew)) (fun hHeld => ?_)
  refine held_take (i := 0) (v := ?_) rfl rfl (by kernel_rfl) (by kernel_rfl) (by kernel_rfl) (fun _ _ _ h => h) (by rfl) hHeld ?_ ?_
  rotate_left
  · rintro wh ⟨z0, z1, z2, z3, z4, z5, z6, z7, z8, z9, z10⟩
    go_simp
    (try with_reducible rfl)
  simp only [Act.put, List.setIfInBounds_toArray, List.set_cons_zero, List.set_cons_succ]
  refine held_take (i := 1) (v := ?_) rfl rfl (by kernel_rfl) (by kernel_rfl) (by kernel_rfl) (fun _ _ _ h => h) (by rfl) hHeld ?_ ?_
  rotate_left
  · rintro wh ⟨z0, z1, z2, z3, z4, z5, z6, z7, z8, z9, z10⟩
    go_simp
    (try with_reducible rfl)
  simp only [Act.put, List.setIfInBounds_toArray, List.set_cons_zero, List.set_cons_succ]
  refine held_take (i := 2) (v := ?_) rfl rfl (by kernel_rfl) (by kernel_rfl) (by kernel_rfl) (fun _ _ _ h => h) (by rfl) hHeld ?_ ?_
  rotate_left
  · rintro wh ⟨z0, z1, z2, z3, z4, z5, z6, z7, z8, z9, z10⟩
    go_simp
    (try with_reducible rfl)
  simp only [Act.put, List.setIfInBounds_toArray, List.set_cons_zero, List.set_cons_succ]
  refine held_take (i := 3) (v := ?_) rfl rfl (by kernel_rfl) (by kernel_rfl) (by kernel_rfl) (fun _ _ _ h => h) (by rfl) hHeld ?_ ?_
  rotate_left
  · rintro wh ⟨z0, z1, z2, z3, z4, z5, z6, z7, z8, z9, z10⟩
    go_simp
    (try with_reducible rfl)
  simp only [Act.put, List.setIfInBounds_toArray, List.set_cons_zero, List.set_cons_succ]
  refine held_take (i := 5) (v := ?_) rfl rfl (by kernel_rfl) (by kernel_rfl) (by kernel_rfl) (fun _ _ _ h => h) (by rfl) hHeld ?_ ?_
  rotate_left
  · rintro wh ⟨z0, z1, z2, z3, z4, z5, z6, z7, z8, z9, z10⟩
    go_simp
    (try with_reducible rfl)
  simp only [Act.put, List.setIfInBounds_toArray, List.set_cons_zero, List.set_cons_succ]
  refine held_call (i := 4) rfl (by kernel_rfl) (by rfl) (fun K hK => ?_)
  (go_simp; go_at_call 74; refine (k1 _ ((Below.refl _ _).drew)).mono ?_; rintro e w1 ⟨rfl, hb1⟩)
  refine hK.out _ _ (hS _ hb1) (fun hHeld => ?_)
  clear hK K
  (try simp only [Act.put, List.setIfInBounds_toArray, List.set_cons_zero, List.set_cons_succ])
  refine held_call (i := 6) rfl (by kernel_rfl) (by rfl) (fun K hK => ?_)
  (go_simp; go_at_call 29; refine (k2 _ hb1).mono ?_; rintro e w2 ⟨rfl, hb2⟩)
  refine hK.out _ _ (hS _ hb2) (fun hHeld => ?_)
  clear hK K
  (try simp only [Act.put, List.setIfInBounds_toArray, List.set_cons_zero, List.set_cons_succ])
  refine held_take (i := 7) (v := ?_) rfl rfl (by kernel_rfl) (by kernel_rfl) (by kernel_rfl) (fun _ _ _ h => h) (by rfl) hHeld ?_ ?_
  rotate_left
  · rintro wh ⟨z0, z1, z2, z3, z4, z5, z6, z7, z8, z9, z10⟩
    go_simp
    (try with_reducible rfl)
  simp only [Act.put, List.setIfInBounds_toArray, List.set_cons_zero, List.set_cons_succ]
  refine held_take (i := 8) (v := ?_) rfl rfl (by kernel_rfl) (by kernel_rfl) (by kernel_rfl) (fun _ _ _ h => h) (by rfl) hHeld ?_ ?_
  rotate_left
  · rintro wh ⟨z0, z1, z2, z3, z4, z5, z6, z7, z8, z9, z10⟩
    go_simp
    (try with_reducible rfl)
  simp only [Act.put, List.setIfInBounds_toArray, List.set_cons_zero, List.set_cons_succ]
  refine wpAnyH_done (by kernel_rfl) ?_ _
  go_wp2
  go_ret
  exact ⟨by rw [HF.out]; rfl, HB0.out.trans (hb2.mono HB0.out.size)⟩
end Go.Proofs.YtipnhpfpppblhaaGreat
