/- A closed fact of the program: its maps have rows. -/
import Derived.Test.YtklkahckkelglaaGreatRows
import Derived.KernelRfl
namespace Go.Proofs.YtklkahckkelglaaGreat.facts
theorem mapsRowed : (mapsRowed Tryz.prog) = true := by kernel_rfl
end Go.Proofs.YtklkahckkelglaaGreat.facts
