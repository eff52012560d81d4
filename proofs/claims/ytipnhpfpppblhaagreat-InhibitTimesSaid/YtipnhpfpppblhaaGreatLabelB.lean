/- Several parts in one: Labels, said plainly: a level and 32 teams as the bits of a number. No program in sight. label.Right and label.Flows: contracts. -/
import Derived.Test.YtipnhpfpppblhaaGreatRd
import Derived.Laws.BitsLemmas
import Derived.Test.YtipnhpfpppblhaaGreatRows
import Derived.Test.YtipnhpfpppblhaaGreatBox
import Derived.WalkKit
import Derived.WalkSpells
import Derived.Lib.Hide
namespace Go.Proofs.YtipnhpfpppblhaaGreat
open Go.RowKit

/-- a label may be -/
def rightL (l : Int) : Bool := decide (0 ≤ l ∧ l ≤ 7)
/-- the teams of a number -/
def teamsN (c n : Nat) : List Nat := (List.range n).filter fun k => c.testBit k
def subB (c d : Nat) : Bool := (List.range 32).all fun k => !c.testBit k || d.testBit k
def flowsL (l : Int) (c : Nat) (m : Int) (d : Nat) : Bool := rightL l && rightL m && decide (l ≤ m) && subB c d
/-- bits laid together -/
def sumN (l : List Nat) : Nat := l.foldl (fun a k => a + 2 ^ k) 0
theorem sumN_snoc (l : List Nat) (k : Nat) : sumN (l ++ [k]) = sumN l + 2 ^ k := by simp [sumN, List.foldl_append]
theorem sum_bits (p : Nat → Bool) (n : Nat) : sumN ((List.range n).filter p) < 2 ^ n ∧ ∀ j, (sumN ((List.range n).filter p)).testBit j = (decide (j < n) && p j) := by
  induction n with
  | zero => simp [sumN]
  | succ n ih =>
    obtain ⟨h1, h2⟩ := ih
    rw [List.range_succ, List.filter_append]
    cases hp : p n with
    | false =>
      have e : List.filter p [n] = [] := by simp [hp]
      rw [e, List.append_nil]
      refine ⟨Nat.lt_trans h1 (Nat.pow_lt_pow_right (by decide) (Nat.lt_succ_self n)), fun j => ?_⟩
      rw [h2]
      by_cases hj : j = n
      · subst hj; simp [hp]
      · by_cases h : j < n
        · simp [h, show j < n + 1 by omega]
        · simp [h, show ¬ j < n + 1 by omega]
    | true =>
      have e : List.filter p [n] = [n] := by simp [hp]
      rw [e, sumN_snoc]
      have hlt : sumN ((List.range n).filter p) + 2 ^ n < 2 ^ (n + 1) := by rw [Nat.pow_succ]; omega
      refine ⟨hlt, fun j => ?_⟩
      rcases Nat.lt_trichotomy j n with h | h | h
      · rw [Nat.add_comm, Nat.testBit_two_pow_add_gt h, h2]
        simp [h, show j < n + 1 by omega]
      · subst h
        rw [Nat.add_comm, Nat.testBit_two_pow_add_eq, h2]
        simp [hp]
      · rw [Nat.testBit_lt_two_pow (Nat.lt_of_lt_of_le hlt (Nat.pow_le_pow_right (by decide) h))]
        simp [show ¬ j < n + 1 by omega]
/-- two numbers of 32 bits with the same bits -/
theorem bits_eq {a b : Nat} (ha : a < 2 ^ 32) (hb : b < 2 ^ 32) (h : ∀ k, k < 32 → a.testBit k = b.testBit k) : a = b := by
  apply Nat.eq_of_testBit_eq
  intro k
  by_cases hk : k < 32
  · exact h k hk
  · rw [Nat.testBit_lt_two_pow (Nat.lt_of_lt_of_le ha (Nat.pow_le_pow_right (by decide) (by omega))), Nat.testBit_lt_two_pow (Nat.lt_of_lt_of_le hb (Nat.pow_le_pow_right (by decide) (by omega)))]
theorem teams_back {c : Nat} (hc : c < 2 ^ 32) : sumN (teamsN c 32) = c := by
  obtain ⟨h1, h2⟩ := sum_bits (fun k => c.testBit k) 32
  exact bits_eq h1 hc (fun k hk => by rw [teamsN, h2]; simp [hk])
theorem teams_or {c d : Nat} (hc : c < 2 ^ 32) (hd : d < 2 ^ 32) : sumN ((List.range 32).filter fun k => c.testBit k || d.testBit k) = c ||| d := by
  obtain ⟨h1, h2⟩ := sum_bits (fun k => c.testBit k || d.testBit k) 32
  exact bits_eq h1 (Nat.or_lt_two_pow hc hd) (fun k hk => by rw [h2, Nat.testBit_or]; simp [hk])
theorem teams_and {c d : Nat} (hc : c < 2 ^ 32) : sumN ((List.range 32).filter fun k => c.testBit k && d.testBit k) = c &&& d := by
  obtain ⟨h1, h2⟩ := sum_bits (fun k => c.testBit k && d.testBit k) 32
  exact bits_eq h1 (Nat.lt_of_le_of_lt Nat.and_le_left hc) (fun k hk => by rw [h2, Nat.testBit_and]; simp [hk])
theorem teams_step (c k : Nat) : teamsN c (k + 1) = teamsN c k ++ (if c / 2 ^ k % 2 = 1 then [k] else []) := by
  unfold teamsN
  rw [List.range_succ, List.filter_append]
  congr 1
  have e : c.testBit k = decide (c / 2 ^ k % 2 = 1) := Nat.testBit_eq_decide_div_mod_eq
  by_cases h : c / 2 ^ k % 2 = 1
  · simp [e, h]
  · simp [e, h]
theorem mem_teams {c n k : Nat} : k ∈ teamsN c n ↔ k < n ∧ c.testBit k = true := by simp [teamsN]
theorem sub_iff {c d : Nat} : subB c d = true ↔ ∀ k ∈ teamsN c 32, k ∈ teamsN d 32 := by
  unfold subB
  rw [List.all_eq_true]
  constructor
  · intro h k hk
    obtain ⟨h1, h2⟩ := mem_teams.1 hk
    have := h k (List.mem_range.2 h1)
    rw [h2] at this
    exact mem_teams.2 ⟨h1, by simpa using this⟩
  · intro h k hk
    have hk' := List.mem_range.1 hk
    cases hc : c.testBit k with
    | false => simp
    | true =>
      have := (mem_teams.1 (h k (mem_teams.2 ⟨hk', hc⟩))).2
      simp [this]
/-- c &^ d: nothing is left just where c's bits are d's -/
theorem andNot_zero {c d : Nat} : (BitVec.ofNat 32 c &&& ~~~ BitVec.ofNat 32 d).toNat = 0 ↔ subB c d = true := by
  unfold subB
  rw [List.all_eq_true]
  have hz : (BitVec.ofNat 32 c &&& ~~~ BitVec.ofNat 32 d).toNat = 0 ↔ (BitVec.ofNat 32 c &&& ~~~ BitVec.ofNat 32 d) = 0#32 := by
    constructor
    · intro h; exact BitVec.eq_of_toNat_eq (by simpa using h)
    · intro h; rw [h]; rfl
  rw [hz]
  have hg : ∀ (x k : Nat) (_ : k < 32), (BitVec.ofNat 32 x).getLsbD k = x.testBit k := fun x k hk => by rw [BitVec.getLsbD_ofNat]; simp [hk]
  constructor
  · intro h k hk
    have hk' := List.mem_range.1 hk
    have h1 := congrArg (fun x => x.getLsbD k) h
    simp only [BitVec.getLsbD_and, BitVec.getLsbD_not, hg _ _ hk', hk', decide_true, Bool.true_and] at h1
    revert h1
    cases c.testBit k <;> cases d.testBit k <;> simp
  · intro h
    apply BitVec.eq_of_getLsbD_eq
    intro k hk
    have h1 := h k (List.mem_range.2 hk)
    simp only [BitVec.getLsbD_and, BitVec.getLsbD_not, hg _ _ hk, hk, decide_true, Bool.true_and]
    revert h1
    cases c.testBit k <;> cases d.testBit k <;> simp
end Go.Proofs.YtipnhpfpppblhaaGreat
namespace Go.Proofs.YtipnhpfpppblhaaGreat
open Go.RowKit

/-- a label as a value -/
abbrev Lab (l : Int) (c : Nat) : Value := .agg #[.int .i64 l, .int .u32 c]
set_option maxHeartbeats 400000 in
theorem right_any (l : Int) (c : Nat) (w : World) :
    Calls Tryz.prog 48 #[Lab l c] w fun e w' => e = .returned (.bool (rightL l)) ∧ Below w.heap.size w w' := by
  rcases (show l < 0 ∨ (0 ≤ l ∧ l ≤ 7) ∨ 7 < l by omega) with h | ⟨h, h'⟩ | h
  all_goals
    go_enter Tryz.func48, Tryz.ntmps48
    go_wp2
    go_ret
    refine ⟨?_, by first | exact Below.refl _ _ | exact bl_drewN (Below.refl _ _) _ | exact ((Below.refl _ _).alloc (Nat.le_refl _) _)⟩
    first
      | rfl
      | (rw [show rightL l = true from decide_eq_true ⟨by omega, by omega⟩]; simp; omega)
      | (rw [show rightL l = false from decide_eq_false (by omega)]; simp; omega)
      | (rw [show rightL l = false from decide_eq_false (by omega)]; rfl)
      | (rw [show rightL l = true from decide_eq_true ⟨by omega, by omega⟩]; rfl)
theorem bits_andNot_zero (c d : Nat) : (bits BinOp.andNot IntKind.u32 (c : Int) (d : Int) == 0) = subB c d := by
  have h0 := andNot_zero (c := c) (d := d)
  have e : bits BinOp.andNot IntKind.u32 (c : Int) (d : Int) = (((BitVec.ofNat 32 c &&& ~~~ BitVec.ofNat 32 d).toNat : Nat) : Int) := by
    show IntKind.u32.wrap ((BitVec.ofInt 32 (c : Int) &&& ~~~BitVec.ofInt 32 (d : Int)).toNat : Int) = _
    rw [BitVec.ofInt_natCast, BitVec.ofInt_natCast, IntKind.wrap_u32']
    have := (BitVec.ofNat 32 c &&& ~~~ BitVec.ofNat 32 d).isLt
    omega
  rw [e, Bool.eq_iff_iff, ← h0, beq_iff_eq]
  omega
set_option maxHeartbeats 400000 in
theorem flows_any (l : Int) (c : Nat) (m : Int) (d : Nat) (w : World) :
    Calls Tryz.prog 29 #[Lab l c, Lab m d] w fun e w' => e = .returned (.bool (flowsL l c m d)) ∧ Below w.heap.size w w' := by
  have k1 := right_any l c
  have k2 := right_any m d
  have e0 : rightL l = false ∨ rightL m = false ∨ ¬ l ≤ m → flowsL l c m d = false := by
    unfold flowsL
    rintro (h | h | h)
    · rw [h]; rfl
    · rw [h, Bool.and_false]; rfl
    · rw [decide_eq_false h, Bool.and_false]; rfl
  cases h1 : rightL l
  · rw [h1] at k1
    have HF : Hid (flowsL l c m d = false) := e0 (.inl h1)
    clear e0 h1
    go_enter Tryz.func29, Tryz.ntmps29
    go_wp2_with fail
    refine (k1 _).mono ?_
    rintro e w1 ⟨rfl, hb1⟩
    obtain ⟨_, _, _, hB1⟩ := box_two hb1
    go_wp2
    go_ret
    exact ⟨by rw [HF.out]; rfl, hB1⟩
  · rw [h1] at k1
    cases h2 : rightL m
    · rw [h2] at k2
      have HF : Hid (flowsL l c m d = false) := e0 (.inr (.inl h2))
      clear e0 h1 h2
      go_enter Tryz.func29, Tryz.ntmps29
      go_wp2_with fail
      refine (k1 _).mono ?_
      rintro e w1 ⟨rfl, hb1⟩
      obtain ⟨x0, x1, y0, y1, hlt1, hB1⟩ := box22 hb1
      clear hb1
      go_wp2_with fail
      refine (k2 _).mono ?_
      rintro e w2 ⟨rfl, hb2⟩
      have x0' := keep_cell x0 hb2 (by omega)
      have x1' := keep_cell x1 hb2 (by omega)
      have y0' := keep_cell y0 hb2 (by omega)
      have y1' := keep_cell y1 hb2 (by omega)
      have hB2 := hB1.trans (hb2.mono hB1.size)
      clear x0 x1 y0 y1 hb2 hB1
      go_wp2
      go_ret
      exact ⟨by rw [HF.out]; rfl, hB2⟩
    · rw [h2] at k2
      by_cases h3 : l ≤ m
      · have HF : Hid (flowsL l c m d = subB c d) := by
          show _ = _
          unfold flowsL; rw [h1, h2, decide_eq_true h3]; rfl
        clear e0 h1 h2
        go_enter Tryz.func29, Tryz.ntmps29
        go_wp2_with fail
        refine (k1 _).mono ?_
        rintro e w1 ⟨rfl, hb1⟩
        obtain ⟨x0, x1, y0, y1, hlt1, hB1⟩ := box22 hb1
        clear hb1
        go_wp2_with fail
        refine (k2 _).mono ?_
        rintro e w2 ⟨rfl, hb2⟩
        have x0' := keep_cell x0 hb2 (by omega)
        have x1' := keep_cell x1 hb2 (by omega)
        have y0' := keep_cell y0 hb2 (by omega)
        have y1' := keep_cell y1 hb2 (by omega)
        have hB2 := hB1.trans (hb2.mono hB1.size)
        clear x0 x1 y0 y1 hb2 hB1
        go_wp2
        go_ret
        exact ⟨by rw [HF.out, bits_andNot_zero]; rfl, hB2⟩
      · have HF : Hid (flowsL l c m d = false) := e0 (.inr (.inr h3))
        have h4 : m < l := by omega
        clear e0 h1 h2 h3
        go_enter Tryz.func29, Tryz.ntmps29
        go_wp2_with fail
        refine (k1 _).mono ?_
        rintro e w1 ⟨rfl, hb1⟩
        obtain ⟨x0, x1, y0, y1, hlt1, hB1⟩ := box22 hb1
        clear hb1
        go_wp2_with fail
        refine (k2 _).mono ?_
        rintro e w2 ⟨rfl, hb2⟩
        have x0' := keep_cell x0 hb2 (by omega)
        have x1' := keep_cell x1 hb2 (by omega)
        have y0' := keep_cell y0 hb2 (by omega)
        have y1' := keep_cell y1 hb2 (by omega)
        have hB2 := hB1.trans (hb2.mono hB1.size)
        clear x0 x1 y0 y1 hb2 hB1
        go_wp2
        go_ret
        exact ⟨by rw [HF.out]; rfl, hB2⟩
end Go.Proofs.YtipnhpfpppblhaaGreat
