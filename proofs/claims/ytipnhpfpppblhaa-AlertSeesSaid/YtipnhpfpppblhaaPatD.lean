/- pattern's builder: node, free, one: contracts. -/
import Derived.Test.YtipnhpfpppblhaaPatC
import Derived.Test.YtipnhpfpppblhaaHeldS
import Derived.Deep.RegionHeldLaw
import Derived.StillTailTactics
namespace Go.Proofs.Ytipnhpfpppblhaa
open Go.RowKit

theorem info_intP : (Try.prog.info? 3).map (fun i => (i.zero, i.size, i.bytes)) = some (some (.int .i64 0), 1, 8) := by kernel_rfl
end Go.Proofs.Ytipnhpfpppblhaa
