/- A closed fact of the row StoreNil. -/
import Derived.Test.YtklkahckkelglaaGreatRows
import Derived.KernelRfl
namespace Go.Proofs.YtklkahckkelglaaGreat.storeNil
theorem named : (Rows.storeNilRow.named == Tryz.prog.varsNamed 3) = true := by kernel_rfl
end Go.Proofs.YtklkahckkelglaaGreat.storeNil
