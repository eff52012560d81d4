/- pattern's builder: peek, fail: contracts. -/
import Derived.Test.YtipnhpfpppblhaaRows
import Derived.Test.YtipnhpfpppblhaaPatB
import Derived.WalkKit
import Derived.WalkSpells
import Derived.WalkLawsBesides
import Derived.BigQuiet
import Derived.Deep.QuietTactic
import Derived.Lib.Hide
namespace Go.Proofs.Ytipnhpfpppblhaa
open Go.RowKit

theorem peekM_of {s : ByteArray} {b : Bs} (he : b.err = 0) (hp : b.pos < s.size) : peekM s b = some (byteM s b.pos) := by unfold peekM; rw [if_pos ⟨he, hp⟩]
theorem byteM_at (s : ByteArray) (k : Nat) (h : k < s.size) : ((s[k]'h).toNat : Int) = (byteM s k : Int) := by unfold byteM; rw [dif_pos h]
end Go.Proofs.Ytipnhpfpppblhaa
