/- A closed fact of the program: its types are laid out. -/
import Derived.Test.YtklkahckkelglaaGreatRows
import Derived.KernelRfl
namespace Go.Proofs.YtklkahckkelglaaGreat.facts
theorem laidOut : (laidOutB Tryz.prog) = true := by kernel_rfl
end Go.Proofs.YtklkahckkelglaaGreat.facts
