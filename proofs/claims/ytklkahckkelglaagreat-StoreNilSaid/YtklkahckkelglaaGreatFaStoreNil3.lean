/- A closed fact of the row StoreNil. -/
import Derived.Test.YtklkahckkelglaaGreatRows
import Derived.KernelRfl
namespace Go.Proofs.YtklkahckkelglaaGreat.storeNil
theorem recurses : (Rows.storeNilRow.recurses == Tryz.prog.recurses 3) = true := by kernel_rfl
end Go.Proofs.YtklkahckkelglaaGreat.storeNil
