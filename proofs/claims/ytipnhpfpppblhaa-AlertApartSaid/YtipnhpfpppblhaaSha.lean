/- digest.mix.of, bits.RotateLeft32: contracts. -/
import Derived.Test.YtipnhpfpppblhaaRows
import Derived.Test.YtipnhpfpppblhaaBox
import Derived.Test.YtipnhpfpppblhaaHeld
import Derived.BigQuiet
import Derived.Deep.QuietTactic
import Derived.WalkKit
import Derived.WalkSpells
import Derived.Lib.Hide
namespace Go.Proofs.Ytipnhpfpppblhaa
open Go.RowKit

/-- a word, turned left by s -/
def rotW (x : Int) (s : Nat) : Int := bits BinOp.or .u32 (x * 2 ^ s % 4294967296) (x / 2 ^ (32 - s))
set_option maxHeartbeats 800000 in
theorem rot_any (x k : Int) (s : Nat) (w : World) (hs : s ≤ 31) (hk : bits BinOp.and IntKind.u64 (IntKind.u64.wrap k) 31 = (s : Int)) :
    Calls Try.prog 115 #[.int .u32 x, .int .i64 k] w fun e w' => e = .returned (.int .u32 (rotW x s)) ∧ w' = w := by
  have h1 : IntKind.u64.wrap (32 - (s : Int)) = ((32 - s : Nat) : Int) := by rw [IntKind.wrap_u64]; omega
  go_enter Try.func115, Try.ntmps115
  go_wp2
  go_ret
  exact ⟨rfl, rfl⟩
theorem neg_and : ∀ k : Nat, k < 32 → 0 < k → bits BinOp.and IntKind.u64 (IntKind.u64.wrap (-(k : Int))) 31 = ((32 - k : Nat) : Int) := by decide +kernel
theorem rotr_any (x : Int) (k : Nat) (w : World) (h0 : 0 < k) (hk : k < 32) :
    Calls Try.prog 115 #[.int .u32 x, .int .i64 (-(k : Int))] w fun e w' => e = .returned (.int .u32 (rotW x (32 - k))) ∧ w' = w :=
  rot_any x (-(k : Int)) (32 - k) w (by omega) (neg_and k hk h0)
/-- a word, mixed with itself -/
def mixW (a b c sh : Nat) (x : Int) : Int := bits BinOp.xor .u32 (bits BinOp.xor .u32 (rotW x (32 - a)) (rotW x (32 - b))) (if 0 < sh then x / 2 ^ sh else rotW x (32 - c))
set_option maxHeartbeats 1600000 in
set_option maxRecDepth 100000 in
theorem of_sh (a b c sh : Nat) (x : Int) (w : World) (ha : 0 < a ∧ a < 32) (hb : 0 < b ∧ b < 32) (hs : 0 < sh ∧ sh < 32) :
    Calls Try.prog 111 #[.agg #[.int .i64 a, .int .i64 b, .int .i64 c, .int .i64 sh], .int .u32 x] w fun e w' => e = .returned (.int .u32 (mixW a b c sh x)) ∧ Below w.heap.size w w' := by
  have HM : Hid (mixW a b c sh x = bits BinOp.xor .u32 (bits BinOp.xor .u32 (rotW x (32 - a)) (rotW x (32 - b))) (x / 2 ^ sh)) := by show _ = _; unfold mixW; rw [if_pos hs.1]
  have hs0 : (0 : Int) < (sh : Int) := by omega
  have hwa : IntKind.i64.wrap (-(a : Int)) = -(a : Int) := by rw [IntKind.wrap_i64]; omega
  have hwb : IntKind.i64.wrap (-(b : Int)) = -(b : Int) := by rw [IntKind.wrap_i64]; omega
  have ka := fun W => rotr_any x a W ha.1 ha.2
  have kb := fun W => rotr_any x b W hb.1 hb.2
  go_enter Try.func111, Try.ntmps111
  go_wp2
  have hc : ∀ (i : Nat), (w.alloc (.cells #[.int .i64 a, .int .i64 b, .int .i64 c, .int .i64 sh] 174)).cell? ⟨w.heap.size, i, none⟩ = (#[.int .i64 a, .int .i64 b, .int .i64 c, .int .i64 sh] : Array Value)[i]? := fun i => World.cell?_alloc_at _ _ _ _ rfl
  have a0 := hc 0
  have a1 := hc 1
  have a2 := hc 2
  have a3 := hc 3
  have hba := alloc_below w (.cells #[.int .i64 a, .int .i64 b, .int .i64 c, .int .i64 sh] 174)
  generalize w.alloc (.cells #[.int .i64 a, .int .i64 b, .int .i64 c, .int .i64 sh] 174) = wa at *
  change wa.cell? _ = some _ at a0
  change wa.cell? _ = some _ at a1
  change wa.cell? _ = some _ at a2
  change wa.cell? _ = some _ at a3
  refine wp_region_held_drew (S := (fun w' => w'.cell? ⟨w.heap.size, 0, none⟩ = some (.int .i64 a) ∧ w'.cell? ⟨w.heap.size, 1, none⟩ = some (.int .i64 b) ∧ w'.cell? ⟨w.heap.size, 2, none⟩ = some (.int .i64 c) ∧ w'.cell? ⟨w.heap.size, 3, none⟩ = some (.int .i64 sh))) (by kernel_rfl) ⟨a0, a1, a2, a3⟩ (fun hHeld => ?_)
  refine held_take (i := 0) (v := ?_) rfl rfl (by kernel_rfl) (by kernel_rfl) (by kernel_rfl) (fun _ _ _ h => h) (by rfl) hHeld ?_ ?_
  rotate_left
  · rintro wh ⟨z0, z1, z2, z3⟩
    go_simp
    (try with_reducible rfl)
  simp only [Act.put, List.setIfInBounds_toArray, List.set_cons_zero, List.set_cons_succ]
  refine held_take (i := 1) (v := ?_) rfl rfl (by kernel_rfl) (by kernel_rfl) (by kernel_rfl) (fun _ _ _ h => h) (by rfl) hHeld ?_ ?_
  rotate_left
  · rintro wh ⟨z0, z1, z2, z3⟩
    go_simp
    (try with_reducible rfl)
  simp only [Act.put, List.setIfInBounds_toArray, List.set_cons_zero, List.set_cons_succ]
  refine held_take (i := 2) (v := ?_) rfl rfl (by kernel_rfl) (by kernel_rfl) (by kernel_rfl) (fun _ _ _ h => h) (by rfl) hHeld ?_ ?_
  rotate_left
  · rintro wh ⟨z0, z1, z2, z3⟩
    go_simp
    (try with_reducible rfl)
  simp only [Act.put, List.setIfInBounds_toArray, List.set_cons_zero, List.set_cons_succ]
  refine held_take (i := 3) (v := ?_) rfl rfl (by kernel_rfl) (by kernel_rfl) (by kernel_rfl) (fun _ _ _ h => h) (by rfl) hHeld ?_ ?_
  rotate_left
  · rintro wh ⟨z0, z1, z2, z3⟩
    go_simp
    (try with_reducible rfl)
  simp only [Act.put, List.setIfInBounds_toArray, List.set_cons_zero, List.set_cons_succ]
  refine held_take (i := 5) (v := ?_) rfl rfl (by kernel_rfl) (by kernel_rfl) (by kernel_rfl) (fun _ _ _ h => h) (by rfl) hHeld ?_ ?_
  rotate_left
  · rintro wh ⟨z0, z1, z2, z3⟩
    go_simp
    (try with_reducible rfl)
  simp only [Act.put, List.setIfInBounds_toArray, List.set_cons_zero, List.set_cons_succ]
  refine held_take (i := 6) (v := ?_) rfl rfl (by kernel_rfl) (by kernel_rfl) (by kernel_rfl) (fun _ _ _ h => h) (by rfl) hHeld ?_ ?_
  rotate_left
  · rintro wh ⟨z0, z1, z2, z3⟩
    go_simp
    (try with_reducible rfl)
  simp only [Act.put, List.setIfInBounds_toArray, List.set_cons_zero, List.set_cons_succ]
  refine held_take (i := 7) (v := ?_) rfl rfl (by kernel_rfl) (by kernel_rfl) (by kernel_rfl) (fun _ _ _ h => h) (by rfl) hHeld ?_ ?_
  rotate_left
  · rintro wh ⟨z0, z1, z2, z3⟩
    go_simp
    (try with_reducible rfl)
  simp only [Act.put, List.setIfInBounds_toArray, List.set_cons_zero, List.set_cons_succ]
  refine held_take (i := 8) (v := ?_) rfl rfl (by kernel_rfl) (by kernel_rfl) (by kernel_rfl) (fun _ _ _ h => h) (by rfl) hHeld ?_ ?_
  rotate_left
  · rintro wh ⟨z0, z1, z2, z3⟩
    go_simp
    (try with_reducible rfl)
  simp only [Act.put, List.setIfInBounds_toArray, List.set_cons_zero, List.set_cons_succ]
  refine held_call (i := 4) rfl (by kernel_rfl) (by rfl) (fun K hK => ?_)
  (go_simp; go_at_call 115; refine (ka _).mono ?_; rintro e w1 ⟨rfl, rfl⟩)
  refine hK.out _ _ ⟨a0, a1, a2, a3⟩ (fun hHeld => ?_)
  clear hK K
  (try simp only [Act.put, List.setIfInBounds_toArray, List.set_cons_zero, List.set_cons_succ])
  refine held_call (i := 9) rfl (by kernel_rfl) (by rfl) (fun K hK => ?_)
  (go_simp; go_at_call 115; refine (kb _).mono ?_; rintro e w1 ⟨rfl, rfl⟩)
  refine hK.out _ _ ⟨a0, a1, a2, a3⟩ (fun hHeld => ?_)
  clear hK K
  (try simp only [Act.put, List.setIfInBounds_toArray, List.set_cons_zero, List.set_cons_succ])
  refine held_take (i := 10) (v := ?_) rfl rfl (by kernel_rfl) (by kernel_rfl) (by kernel_rfl) (fun _ _ _ h => h) (by rfl) hHeld ?_ ?_
  rotate_left
  · rintro wh ⟨z0, z1, z2, z3⟩
    go_simp
    (try with_reducible rfl)
  simp only [Act.put, List.setIfInBounds_toArray, List.set_cons_zero, List.set_cons_succ]
  refine held_take (i := 11) (v := ?_) rfl rfl (by kernel_rfl) (by kernel_rfl) (by kernel_rfl) (fun _ _ _ h => h) (by rfl) hHeld ?_ ?_
  rotate_left
  · rintro wh ⟨z0, z1, z2, z3⟩
    go_simp
    (try with_reducible rfl)
  simp only [Act.put, List.setIfInBounds_toArray, List.set_cons_zero, List.set_cons_succ]
  refine wpAnyH_done (by kernel_rfl) ?_ _
  go_wp2
  go_ret
  exact ⟨by rw [HM.out]; rfl, hba.drew⟩
set_option maxHeartbeats 1600000 in
set_option maxRecDepth 100000 in
theorem of_rot (a b c : Nat) (x : Int) (w : World) (ha : 0 < a ∧ a < 32) (hb : 0 < b ∧ b < 32) (hc : 0 < c ∧ c < 32) :
    Calls Try.prog 111 #[.agg #[.int .i64 a, .int .i64 b, .int .i64 c, .int .i64 0], .int .u32 x] w fun e w' => e = .returned (.int .u32 (mixW a b c 0 x)) ∧ Below w.heap.size w w' := by
  have HM : Hid (mixW a b c 0 x = bits BinOp.xor .u32 (bits BinOp.xor .u32 (rotW x (32 - a)) (rotW x (32 - b))) (rotW x (32 - c))) := by show _ = _; unfold mixW; rw [if_neg (Nat.lt_irrefl 0)]
  have hwc : IntKind.i64.wrap (-(c : Int)) = -(c : Int) := by rw [IntKind.wrap_i64]; omega
  have hwc' : wrap64 (-(c : Int)) = -(c : Int) := by unfold wrap64; omega
  have kc := fun W => rotr_any x c W hc.1 hc.2
  have hwa : IntKind.i64.wrap (-(a : Int)) = -(a : Int) := by rw [IntKind.wrap_i64]; omega
  have hwb : IntKind.i64.wrap (-(b : Int)) = -(b : Int) := by rw [IntKind.wrap_i64]; omega
  have ka := fun W => rotr_any x a W ha.1 ha.2
  have kb := fun W => rotr_any x b W hb.1 hb.2
  go_enter Try.func111, Try.ntmps111
  go_wp2
  have hcell : ∀ (i : Nat), (w.alloc (.cells #[.int .i64 a, .int .i64 b, .int .i64 c, .int .i64 0] 174)).cell? ⟨w.heap.size, i, none⟩ = (#[.int .i64 a, .int .i64 b, .int .i64 c, .int .i64 0] : Array Value)[i]? := fun i => World.cell?_alloc_at _ _ _ _ rfl
  have a0 := hcell 0
  have a1 := hcell 1
  have a2 := hcell 2
  have a3 := hcell 3
  have hba := alloc_below w (.cells #[.int .i64 a, .int .i64 b, .int .i64 c, .int .i64 0] 174)
  generalize w.alloc (.cells #[.int .i64 a, .int .i64 b, .int .i64 c, .int .i64 0] 174) = wa at *
  change wa.cell? _ = some _ at a0
  change wa.cell? _ = some _ at a1
  change wa.cell? _ = some _ at a2
  change wa.cell? _ = some _ at a3
  refine wp_region_held_drew (S := (fun w' => w'.cell? ⟨w.heap.size, 0, none⟩ = some (.int .i64 a) ∧ w'.cell? ⟨w.heap.size, 1, none⟩ = some (.int .i64 b) ∧ w'.cell? ⟨w.heap.size, 2, none⟩ = some (.int .i64 c) ∧ w'.cell? ⟨w.heap.size, 3, none⟩ = some (.int .i64 0))) (by kernel_rfl) ⟨a0, a1, a2, a3⟩ (fun hHeld => ?_)
  refine held_take (i := 0) (v := ?_) rfl rfl (by kernel_rfl) (by kernel_rfl) (by kernel_rfl) (fun _ _ _ h => h) (by rfl) hHeld ?_ ?_
  rotate_left
  · rintro wh ⟨z0, z1, z2, z3⟩
    go_simp
    (try with_reducible rfl)
  simp only [Act.put, List.setIfInBounds_toArray, List.set_cons_zero, List.set_cons_succ]
  refine held_take (i := 1) (v := ?_) rfl rfl (by kernel_rfl) (by kernel_rfl) (by kernel_rfl) (fun _ _ _ h => h) (by rfl) hHeld ?_ ?_
  rotate_left
  · rintro wh ⟨z0, z1, z2, z3⟩
    go_simp
    (try with_reducible rfl)
  simp only [Act.put, List.setIfInBounds_toArray, List.set_cons_zero, List.set_cons_succ]
  refine held_take (i := 2) (v := ?_) rfl rfl (by kernel_rfl) (by kernel_rfl) (by kernel_rfl) (fun _ _ _ h => h) (by rfl) hHeld ?_ ?_
  rotate_left
  · rintro wh ⟨z0, z1, z2, z3⟩
    go_simp
    (try with_reducible rfl)
  simp only [Act.put, List.setIfInBounds_toArray, List.set_cons_zero, List.set_cons_succ]
  refine held_take (i := 3) (v := ?_) rfl rfl (by kernel_rfl) (by kernel_rfl) (by kernel_rfl) (fun _ _ _ h => h) (by rfl) hHeld ?_ ?_
  rotate_left
  · rintro wh ⟨z0, z1, z2, z3⟩
    go_simp
    (try with_reducible rfl)
  simp only [Act.put, List.setIfInBounds_toArray, List.set_cons_zero, List.set_cons_succ]
  refine held_take (i := 5) (v := ?_) rfl rfl (by kernel_rfl) (by kernel_rfl) (by kernel_rfl) (fun _ _ _ h => h) (by rfl) hHeld ?_ ?_
  rotate_left
  · rintro wh ⟨z0, z1, z2, z3⟩
    go_simp
    (try with_reducible rfl)
  simp only [Act.put, List.setIfInBounds_toArray, List.set_cons_zero, List.set_cons_succ]
  refine held_take (i := 6) (v := ?_) rfl rfl (by kernel_rfl) (by kernel_rfl) (by kernel_rfl) (fun _ _ _ h => h) (by rfl) hHeld ?_ ?_
  rotate_left
  · rintro wh ⟨z0, z1, z2, z3⟩
    go_simp
    (try with_reducible rfl)
  simp only [Act.put, List.setIfInBounds_toArray, List.set_cons_zero, List.set_cons_succ]
  refine held_take (i := 7) (v := ?_) rfl rfl (by kernel_rfl) (by kernel_rfl) (by kernel_rfl) (fun _ _ _ h => h) (by rfl) hHeld ?_ ?_
  rotate_left
  · rintro wh ⟨z0, z1, z2, z3⟩
    go_simp
    (try with_reducible rfl)
  simp only [Act.put, List.setIfInBounds_toArray, List.set_cons_zero, List.set_cons_succ]
  refine held_take (i := 8) (v := ?_) rfl rfl (by kernel_rfl) (by kernel_rfl) (by kernel_rfl) (fun _ _ _ h => h) (by rfl) hHeld ?_ ?_
  rotate_left
  · rintro wh ⟨z0, z1, z2, z3⟩
    go_simp
    (try with_reducible rfl)
  simp only [Act.put, List.setIfInBounds_toArray, List.set_cons_zero, List.set_cons_succ]
  refine held_call (i := 4) rfl (by kernel_rfl) (by rfl) (fun K hK => ?_)
  (go_simp; go_at_call 115; refine (ka _).mono ?_; rintro e w1 ⟨rfl, rfl⟩)
  refine hK.out _ _ ⟨a0, a1, a2, a3⟩ (fun hHeld => ?_)
  clear hK K
  (try simp only [Act.put, List.setIfInBounds_toArray, List.set_cons_zero, List.set_cons_succ])
  refine held_call (i := 9) rfl (by kernel_rfl) (by rfl) (fun K hK => ?_)
  (go_simp; go_at_call 115; refine (kb _).mono ?_; rintro e w1 ⟨rfl, rfl⟩)
  refine hK.out _ _ ⟨a0, a1, a2, a3⟩ (fun hHeld => ?_)
  clear hK K
  (try simp only [Act.put, List.setIfInBounds_toArray, List.set_cons_zero, List.set_cons_succ])
  refine held_take (i := 10) (v := ?_) rfl rfl (by kernel_rfl) (by kernel_rfl) (by kernel_rfl) (fun _ _ _ h => h) (by rfl) hHeld ?_ ?_
  rotate_left
  · rintro wh ⟨z0, z1, z2, z3⟩
    go_simp
    (try with_reducible rfl)
  simp only [Act.put, List.setIfInBounds_toArray, List.set_cons_zero, List.set_cons_succ]
  refine held_take (i := 11) (v := ?_) rfl rfl (by kernel_rfl) (by kernel_rfl) (by kernel_rfl) (fun _ _ _ h => h) (by rfl) hHeld ?_ ?_
  rotate_left
  · rintro wh ⟨z0, z1, z2, z3⟩
    go_simp
    (try with_reducible rfl)
  simp only [Act.put, List.setIfInBounds_toArray, List.set_cons_zero, List.set_cons_succ]
  refine wpAnyH_done (by kernel_rfl) ?_ _
  go_wp2_with fail
  refine (kc _).mono ?_
  rintro e w1 ⟨rfl, rfl⟩
  go_wp2
  go_ret
  exact ⟨by rw [HM.out]; rfl, hba.drew⟩
end Go.Proofs.Ytipnhpfpppblhaa
