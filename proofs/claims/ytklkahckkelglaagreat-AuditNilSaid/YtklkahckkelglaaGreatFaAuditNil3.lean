/- A closed fact of the row AuditNil. -/
import Derived.Test.YtklkahckkelglaaGreatRows
import Derived.KernelRfl
namespace Go.Proofs.YtklkahckkelglaaGreat.auditNil
theorem recurses : (Rows.auditNilRow.recurses == Tryz.prog.recurses 5) = true := by kernel_rfl
end Go.Proofs.YtklkahckkelglaaGreat.auditNil
