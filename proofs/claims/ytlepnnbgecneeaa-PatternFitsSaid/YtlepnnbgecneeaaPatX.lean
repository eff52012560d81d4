/- two sets of bytes, compared. -/
import Derived.Test.YtlepnnbgecneeaaRows
import Derived.Test.YtlepnnbgecneeaaPatB
import Derived.WalkKit
import Derived.ChangeKeysEq
import Derived.Laws.StructEq
namespace Go.Proofs.Ytlepnnbgecneeaa
open Go.RowKit

theorem run_eq_set (w : World) (a0 a1 a2 a3 : Nat) :
    (Op.equalIn 10000 88 (.agg #[.int .u64 a0, .int .u64 a1, .int .u64 a2, .int .u64 a3]) (.agg #[.int .u64 0, .int .u64 0, .int .u64 0, .int .u64 0])).run Try.prog w = .ok (decide ([a0, a1, a2, a3] = [0, 0, 0, 0])) w := by
  obtain ⟨i, hi, hs⟩ : ∃ i, Try.prog.info? 86 = some i ∧ i.size = 1 := by
    have h : (Try.prog.info? 86).map (·.size) = some 1 := by kernel_rfl
    cases hq : Try.prog.info? 86 with
    | none => rw [hq] at h; cases h
    | some i => rw [hq] at h; exact ⟨i, rfl, Option.some.inj h⟩
  have hc : Try.prog.cellsOf 86 = 1 := by unfold Program.cellsOf; rw [hi]; simp [hs]
  have h : ∀ d : Nat, (Op.equalIn (d + 1 + 1) 88 (.agg #[.int .u64 a0, .int .u64 a1, .int .u64 a2, .int .u64 a3]) (.agg #[.int .u64 0, .int .u64 0, .int .u64 0, .int .u64 0])).run Try.prog w = .ok (decide ([a0, a1, a2, a3] = [0, 0, 0, 0])) w := fun d => by
    rw [run_equalIn_array w (d + 1) _ _ Try.underlying88 hi, hc]
    have hk : ∀ (x : Nat) (w : World), (Op.equalIn (d + 1) 86 (.int .u64 (x : Int)) (.int .u64 0)).run Try.prog w = .ok (decide (x = 0)) w := fun x w => by
      have e := run_equalIn_int (P := Try.prog) w d 86 .u64 .u64 (x : Int) 0 Try.underlying86
      have e2 : ((x : Int) == 0) = decide (x = 0) := by rw [Bool.eq_iff_iff]; simp
      rw [e2] at e
      exact e
    simp [Op.eqItems, part, List.range_succ, hk]
    by_cases h0 : a0 = 0 <;> by_cases h1 : a1 = 0 <;> by_cases h2 : a2 = 0 <;> by_cases h3 : a3 = 0 <;> simp [h0, h1, h2, h3]
  exact h 9998
end Go.Proofs.Ytlepnnbgecneeaa
