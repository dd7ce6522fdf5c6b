/- A closed fact of the row WatchNil. -/
import Derived.Test.YtklkahckkelglaaGreatRows
import Derived.KernelRfl
namespace Go.Proofs.YtklkahckkelglaaGreat.watchNil
theorem named : (Rows.watchNilRow.named == Tryz.prog.varsNamed 4) = true := by kernel_rfl
end Go.Proofs.YtklkahckkelglaaGreat.watchNil
