/- The closed facts of the row DumpNil, together. -/
import Derived.Test.YtklkahckkelglaaGreatFaP1
import Derived.Test.YtklkahckkelglaaGreatFaP2
import Derived.Test.YtklkahckkelglaaGreatFaDumpNil1
import Derived.Test.YtklkahckkelglaaGreatFaDumpNil2
import Derived.Test.YtklkahckkelglaaGreatFaDumpNil3
import Derived.Test.YtklkahckkelglaaGreatFaDumpNil4
import Derived.ProofKit
namespace Go.Proofs.YtklkahckkelglaaGreat.dumpNil
theorem closed : joinedFacts Tryz.prog 6 Tryz.f6 Rows.dumpNilSpec Rows.dumpNilRow = true := by
  unfold joinedFacts
  rw [facts.laidOut, facts.mapsRowed, inPlace, unfollowed, recurses, named]
  kernel_rfl
theorem wrapped : Tryz.f6.isWrapper Tryz.prog Rows.dumpNilRow.wrapper Rows.dumpNilRow.mainSum := by unfold Func.isWrapper; first | (rw [if_pos (by decide +kernel)]; kernel_rfl) | (rw [if_neg (by decide +kernel)]; exact ⟨rfl, rfl⟩)
theorem over (h : ∀ os : Os, os.Started → ∀ (H : Type) (enc : TypeId × Value → H), ReturnsInHanded {} Tryz.checked os 6 .any (Rows.dumpNilSpec.pre6 enc Tryz.prog Tryz.f6 Rows.dumpNilRow.domain false) (Rows.dumpNilSpec.post enc Tryz.prog Tryz.f6 false true false false)) :
    Rows.dumpNilRow.holds Tryz.pinned (OpenSpec.ofChange Rows.dumpNilSpec) :=
  OpenClaim.holds_of_wide 6 Tryz.f6 rfl rfl rfl rfl rfl rfl rfl ⟨rfl, rfl, rfl, rfl, rfl⟩ rfl rfl rfl rfl rfl (by kernel_rfl) Tryz.func6 closed
    (of_decide_eq_true (by kernel_rfl)) wrapped (fun os started H enc _ => h os started H enc)
end Go.Proofs.YtklkahckkelglaaGreat.dumpNil
