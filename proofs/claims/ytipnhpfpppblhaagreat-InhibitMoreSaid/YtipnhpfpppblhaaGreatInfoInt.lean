/- The element of a list of int. -/
import Derived.Test.YtipnhpfpppblhaaGreatInts
namespace Go.Proofs.YtipnhpfpppblhaaGreat
open Go.RowKit

theorem info_int : (Tryz.prog.info? 3).map (fun i => (i.zero, i.size, i.bytes)) = some (some (.int .i64 0), 1, 8) := by kernel_rfl
end Go.Proofs.YtipnhpfpppblhaaGreat
