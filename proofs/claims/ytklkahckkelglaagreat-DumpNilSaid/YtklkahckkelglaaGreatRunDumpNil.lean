/- The law DumpNil's own run, by the kernel: its answer does not depend on its argument. -/
import Derived.Test.YtklkahckkelglaaGreatPrimC
import Derived.KernelRfl
namespace Go.Aev
open Go Go.Proofs
theorem runDumpNil : isTQ (evQ (buildT Tryz.prog) 2000 (.fn 6 (Array.replicate 1 undef)) AHeap.empty) = true := by kernel_rfl
end Go.Aev
