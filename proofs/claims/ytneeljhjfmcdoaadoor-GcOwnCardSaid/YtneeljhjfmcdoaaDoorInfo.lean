/- Facts of the types of integers. -/
import Derived.Test.YtneeljhjfmcdoaaDoorRows
import Derived.Test.YtneeljhjfmcdoaaDoorLib
namespace Go.Proofs.YtneeljhjfmcdoaaDoor
open Go.RowKit

theorem Tryd.infoInt : (Tryd.prog.info? 3).map (fun i => (i.zero, i.size, i.bytes)) = some (some (.int .i64 0), 1, 8) := by kernel_rfl
theorem Tryd.infoLong : (Tryd.prog.info? 2).map (fun i => (i.zero, i.size, i.bytes)) = some (some (.int .i64 0), 1, 8) := by kernel_rfl

end Go.Proofs.YtneeljhjfmcdoaaDoor
