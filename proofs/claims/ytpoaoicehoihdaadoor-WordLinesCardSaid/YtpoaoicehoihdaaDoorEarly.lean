/- lychgatelaw07.early: a contract. -/
import Derived.Test.YtpoaoicehoihdaaDoorRows
import Derived.Test.YtpoaoicehoihdaaDoorBase
import Derived.Lib.Strings
namespace Go.Proofs.YtpoaoicehoihdaaDoor
open Go.RowKit

set_option maxHeartbeats 400000 in
theorem early_any (s : ByteArray) (w : World) (hs : s.size ≤ maxLen) :
    Calls Tryd.prog 13 #[.string s] w fun e w' => ∃ t : ByteArray, e = .returned (.string t) ∧ t.size ≤ 500 ∧ B t = (B s).take 500 ∧ w = w' := by
  unfold maxLen at hs
  go_enter Tryd.func13, Tryd.ntmps13
  go_wp2
  · go_ret
    exact ⟨_, rfl, by rw [ByteArray.size_extract]; omega, by show (s.extract 0 500).data.toList = _; rw [Lib.extract_data]; simp [B], rfl⟩
  · go_ret
    exact ⟨s, rfl, by omega, (List.take_of_length_le (by rw [len_B]; omega)).symm, rfl⟩
end Go.Proofs.YtpoaoicehoihdaaDoor
