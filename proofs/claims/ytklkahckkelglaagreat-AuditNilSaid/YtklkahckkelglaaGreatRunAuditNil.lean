/- The law AuditNil's own run, by the kernel: its answer does not depend on its arguments. -/
import Derived.Test.YtklkahckkelglaaGreatProg
import Derived.Test.YtklkahckkelglaaGreatAevV
import Derived.KernelRfl
namespace Go.Aev
open Go Go.Proofs
theorem runAuditNil : isTQ (evQ (plainT Tryz.prog) 2000 (.fn 5 (Array.replicate 2 undef)) AHeap.empty) = true := by kernel_rfl
end Go.Aev
