/- A closed fact of the row WatchNil. -/
import Derived.Test.YtklkahckkelglaaGreatRows
import Derived.KernelRfl
namespace Go.Proofs.YtklkahckkelglaaGreat.watchNil
theorem inPlace : (Rows.watchNilRow.inPlace == Tryz.prog.inPlace 4) = true := by kernel_rfl
end Go.Proofs.YtklkahckkelglaaGreat.watchNil
