/- label.Right and label.Flows: contracts. -/
import Derived.Test.YtnmgfmmjdiephaaRows
import Derived.Test.YtnmgfmmjdiephaaLabelLaw
import Derived.Test.YtnmgfmmjdiephaaBox
import Derived.WalkKit
import Derived.WalkSpells
import Derived.Lib.Hide
namespace Go.Proofs.Ytnmgfmmjdiephaa
open Go.RowKit

/-- a label as a value -/
abbrev Lab (l : Int) (c : Nat) : Value := .agg #[.int .i64 l, .int .u32 c]
set_option maxHeartbeats 400000 in
theorem right_any (l : Int) (c : Nat) (w : World) :
    Calls Try.prog 51 #[Lab l c] w fun e w' => e = .returned (.bool (rightL l)) ∧ Below w.heap.size w w' := by
  rcases (show l < 0 ∨ (0 ≤ l ∧ l ≤ 7) ∨ 7 < l by omega) with h | ⟨h, h'⟩ | h
  all_goals
    go_enter Try.func51, Try.ntmps51
    go_wp2
    go_ret
    refine ⟨?_, by first | exact Below.refl _ _ | exact bl_drewN (Below.refl _ _) _ | exact ((Below.refl _ _).alloc (Nat.le_refl _) _)⟩
    first
      | rfl
      | (rw [show rightL l = true from decide_eq_true ⟨by omega, by omega⟩]; simp; omega)
      | (rw [show rightL l = false from decide_eq_false (by omega)]; simp; omega)
      | (rw [show rightL l = false from decide_eq_false (by omega)]; rfl)
      | (rw [show rightL l = true from decide_eq_true ⟨by omega, by omega⟩]; rfl)
theorem bits_andNot_zero (c d : Nat) : (bits BinOp.andNot IntKind.u32 (c : Int) (d : Int) == 0) = subB c d := by
  have h0 := andNot_zero (c := c) (d := d)
  have e : bits BinOp.andNot IntKind.u32 (c : Int) (d : Int) = (((BitVec.ofNat 32 c &&& ~~~ BitVec.ofNat 32 d).toNat : Nat) : Int) := by
    show IntKind.u32.wrap ((BitVec.ofInt 32 (c : Int) &&& ~~~BitVec.ofInt 32 (d : Int)).toNat : Int) = _
    rw [BitVec.ofInt_natCast, BitVec.ofInt_natCast, IntKind.wrap_u32']
    have := (BitVec.ofNat 32 c &&& ~~~ BitVec.ofNat 32 d).isLt
    omega
  rw [e, Bool.eq_iff_iff, ← h0, beq_iff_eq]
  omega
set_option maxHeartbeats 400000 in
theorem flows_any (l : Int) (c : Nat) (m : Int) (d : Nat) (w : World) :
    Calls Try.prog 38 #[Lab l c, Lab m d] w fun e w' => e = .returned (.bool (flowsL l c m d)) ∧ Below w.heap.size w w' := by
  have k1 := right_any l c
  have k2 := right_any m d
  have e0 : rightL l = false ∨ rightL m = false ∨ ¬ l ≤ m → flowsL l c m d = false := by
    unfold flowsL
    rintro (h | h | h)
    · rw [h]; rfl
    · rw [h, Bool.and_false]; rfl
    · rw [decide_eq_false h, Bool.and_false]; rfl
  cases h1 : rightL l
  · rw [h1] at k1
    have HF : Hid (flowsL l c m d = false) := e0 (.inl h1)
    clear e0 h1
    go_enter Try.func38, Try.ntmps38
    go_wp2_with fail
    refine (k1 _).mono ?_
    rintro e w1 ⟨rfl, hb1⟩
    obtain ⟨_, _, _, hB1⟩ := box_two hb1
    go_wp2
    go_ret
    exact ⟨by rw [HF.out]; rfl, hB1⟩
  · rw [h1] at k1
    cases h2 : rightL m
    · rw [h2] at k2
      have HF : Hid (flowsL l c m d = false) := e0 (.inr (.inl h2))
      clear e0 h1 h2
      go_enter Try.func38, Try.ntmps38
      go_wp2_with fail
      refine (k1 _).mono ?_
      rintro e w1 ⟨rfl, hb1⟩
      obtain ⟨x0, x1, y0, y1, hlt1, hB1⟩ := box22 hb1
      clear hb1
      go_wp2_with fail
      refine (k2 _).mono ?_
      rintro e w2 ⟨rfl, hb2⟩
      have x0' := keep_cell x0 hb2 (by omega)
      have x1' := keep_cell x1 hb2 (by omega)
      have y0' := keep_cell y0 hb2 (by omega)
      have y1' := keep_cell y1 hb2 (by omega)
      have hB2 := hB1.trans (hb2.mono hB1.size)
      clear x0 x1 y0 y1 hb2 hB1
      go_wp2
      go_ret
      exact ⟨by rw [HF.out]; rfl, hB2⟩
    · rw [h2] at k2
      by_cases h3 : l ≤ m
      · have HF : Hid (flowsL l c m d = subB c d) := by
          show _ = _
          unfold flowsL; rw [h1, h2, decide_eq_true h3]; rfl
        clear e0 h1 h2
        go_enter Try.func38, Try.ntmps38
        go_wp2_with fail
        refine (k1 _).mono ?_
        rintro e w1 ⟨rfl, hb1⟩
        obtain ⟨x0, x1, y0, y1, hlt1, hB1⟩ := box22 hb1
        clear hb1
        go_wp2_with fail
        refine (k2 _).mono ?_
        rintro e w2 ⟨rfl, hb2⟩
        have x0' := keep_cell x0 hb2 (by omega)
        have x1' := keep_cell x1 hb2 (by omega)
        have y0' := keep_cell y0 hb2 (by omega)
        have y1' := keep_cell y1 hb2 (by omega)
        have hB2 := hB1.trans (hb2.mono hB1.size)
        clear x0 x1 y0 y1 hb2 hB1
        go_wp2
        go_ret
        exact ⟨by rw [HF.out, bits_andNot_zero]; rfl, hB2⟩
      · have HF : Hid (flowsL l c m d = false) := e0 (.inr (.inr h3))
        have h4 : m < l := by omega
        clear e0 h1 h2 h3
        go_enter Try.func38, Try.ntmps38
        go_wp2_with fail
        refine (k1 _).mono ?_
        rintro e w1 ⟨rfl, hb1⟩
        obtain ⟨x0, x1, y0, y1, hlt1, hB1⟩ := box22 hb1
        clear hb1
        go_wp2_with fail
        refine (k2 _).mono ?_
        rintro e w2 ⟨rfl, hb2⟩
        have x0' := keep_cell x0 hb2 (by omega)
        have x1' := keep_cell x1 hb2 (by omega)
        have y0' := keep_cell y0 hb2 (by omega)
        have y1' := keep_cell y1 hb2 (by omega)
        have hB2 := hB1.trans (hb2.mono hB1.size)
        clear x0 x1 y0 y1 hb2 hB1
        go_wp2
        go_ret
        exact ⟨by rw [HF.out]; rfl, hB2⟩
end Go.Proofs.Ytnmgfmmjdiephaa
