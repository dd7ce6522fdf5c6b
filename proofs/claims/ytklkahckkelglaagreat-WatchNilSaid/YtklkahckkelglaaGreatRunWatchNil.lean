/- The law WatchNil's own run, by the kernel: its answer does not depend on its argument. -/
import Derived.Test.YtklkahckkelglaaGreatTabW
import Derived.KernelRfl
namespace Go.Aev
open Go Go.Proofs
theorem runWatchNil : isTQ (evQ (LitW.tab (sortT Tryz.prog 124).prim) 2000 (.fn 4 #[.agg (Array.replicate 8 (.chan none))]) AHeap.empty) = true := by kernel_rfl
end Go.Aev
