/- The closed facts of the row WatchNil, together. -/
import Derived.Test.YtklkahckkelglaaGreatFaP1
import Derived.Test.YtklkahckkelglaaGreatFaP2
import Derived.Test.YtklkahckkelglaaGreatFaWatchNil1
import Derived.Test.YtklkahckkelglaaGreatFaWatchNil2
import Derived.Test.YtklkahckkelglaaGreatFaWatchNil3
import Derived.Test.YtklkahckkelglaaGreatFaWatchNil4
import Derived.ProofKit
namespace Go.Proofs.YtklkahckkelglaaGreat.watchNil
theorem closed : joinedFacts Tryz.prog 4 Tryz.f4 Rows.watchNilSpec Rows.watchNilRow = true := by
  unfold joinedFacts
  rw [facts.laidOut, facts.mapsRowed, inPlace, unfollowed, recurses, named]
  kernel_rfl
theorem wrapped : Tryz.f4.isWrapper Tryz.prog Rows.watchNilRow.wrapper Rows.watchNilRow.mainSum := by unfold Func.isWrapper; first | (rw [if_pos (by decide +kernel)]; kernel_rfl) | (rw [if_neg (by decide +kernel)]; exact ⟨rfl, rfl⟩)
theorem over (h : ∀ os : Os, os.Started → ∀ (H : Type) (enc : TypeId × Value → H), ReturnsInHanded {} Tryz.checked os 4 .any (Rows.watchNilSpec.pre6 enc Tryz.prog Tryz.f4 Rows.watchNilRow.domain false) (Rows.watchNilSpec.post enc Tryz.prog Tryz.f4 false true false false)) :
    Rows.watchNilRow.holds Tryz.pinned (OpenSpec.ofChange Rows.watchNilSpec) :=
  OpenClaim.holds_of_wide 4 Tryz.f4 rfl rfl rfl rfl rfl rfl rfl ⟨rfl, rfl, rfl, rfl, rfl⟩ rfl rfl rfl rfl rfl (by kernel_rfl) Tryz.func4 closed
    (of_decide_eq_true (by kernel_rfl)) wrapped (fun os started H enc _ => h os started H enc)
end Go.Proofs.YtklkahckkelglaaGreat.watchNil
