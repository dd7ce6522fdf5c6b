/- A closed fact of the row DumpNil. -/
import Derived.Test.YtklkahckkelglaaGreatRows
import Derived.KernelRfl
namespace Go.Proofs.YtklkahckkelglaaGreat.dumpNil
theorem named : (Rows.dumpNilRow.named == Tryz.prog.varsNamed 6) = true := by kernel_rfl
end Go.Proofs.YtklkahckkelglaaGreat.dumpNil
