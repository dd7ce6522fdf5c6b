/- The closed facts of the row AuditNil, together. -/
import Derived.Test.YtklkahckkelglaaGreatFaP1
import Derived.Test.YtklkahckkelglaaGreatFaP2
import Derived.Test.YtklkahckkelglaaGreatFaAuditNil1
import Derived.Test.YtklkahckkelglaaGreatFaAuditNil2
import Derived.Test.YtklkahckkelglaaGreatFaAuditNil3
import Derived.Test.YtklkahckkelglaaGreatFaAuditNil4
import Derived.ProofKit
namespace Go.Proofs.YtklkahckkelglaaGreat.auditNil
theorem closed : joinedFacts Tryz.prog 5 Tryz.f5 Rows.auditNilSpec Rows.auditNilRow = true := by
  unfold joinedFacts
  rw [facts.laidOut, facts.mapsRowed, inPlace, unfollowed, recurses, named]
  kernel_rfl
theorem wrapped : Tryz.f5.isWrapper Tryz.prog Rows.auditNilRow.wrapper Rows.auditNilRow.mainSum := by unfold Func.isWrapper; first | (rw [if_pos (by decide +kernel)]; kernel_rfl) | (rw [if_neg (by decide +kernel)]; exact ⟨rfl, rfl⟩)
theorem over (h : ∀ os : Os, os.Started → ∀ (H : Type) (enc : TypeId × Value → H), ReturnsInHanded {} Tryz.checked os 5 .any (Rows.auditNilSpec.pre6 enc Tryz.prog Tryz.f5 Rows.auditNilRow.domain false) (Rows.auditNilSpec.post enc Tryz.prog Tryz.f5 false true false false)) :
    Rows.auditNilRow.holds Tryz.pinned (OpenSpec.ofChange Rows.auditNilSpec) :=
  OpenClaim.holds_of_wide 5 Tryz.f5 rfl rfl rfl rfl rfl rfl rfl ⟨rfl, rfl, rfl, rfl, rfl⟩ rfl rfl rfl rfl rfl (by kernel_rfl) Tryz.func5 closed
    (of_decide_eq_true (by kernel_rfl)) wrapped (fun os started H enc _ => h os started H enc)
end Go.Proofs.YtklkahckkelglaaGreat.auditNil
