/- The closed facts of the row StoreNil, together. -/
import Derived.Test.YtklkahckkelglaaGreatFaP1
import Derived.Test.YtklkahckkelglaaGreatFaP2
import Derived.Test.YtklkahckkelglaaGreatFaStoreNil1
import Derived.Test.YtklkahckkelglaaGreatFaStoreNil2
import Derived.Test.YtklkahckkelglaaGreatFaStoreNil3
import Derived.Test.YtklkahckkelglaaGreatFaStoreNil4
import Derived.ProofKit
namespace Go.Proofs.YtklkahckkelglaaGreat.storeNil
theorem closed : joinedFacts Tryz.prog 3 Tryz.f3 Rows.storeNilSpec Rows.storeNilRow = true := by
  unfold joinedFacts
  rw [facts.laidOut, facts.mapsRowed, inPlace, unfollowed, recurses, named]
  kernel_rfl
theorem wrapped : Tryz.f3.isWrapper Tryz.prog Rows.storeNilRow.wrapper Rows.storeNilRow.mainSum := by unfold Func.isWrapper; first | (rw [if_pos (by decide +kernel)]; kernel_rfl) | (rw [if_neg (by decide +kernel)]; exact ⟨rfl, rfl⟩)
theorem over (h : ∀ os : Os, os.Started → ∀ (H : Type) (enc : TypeId × Value → H), ReturnsInHanded {} Tryz.checked os 3 .any (Rows.storeNilSpec.pre6 enc Tryz.prog Tryz.f3 Rows.storeNilRow.domain false) (Rows.storeNilSpec.post enc Tryz.prog Tryz.f3 false true false false)) :
    Rows.storeNilRow.holds Tryz.pinned (OpenSpec.ofChange Rows.storeNilSpec) :=
  OpenClaim.holds_of_wide 3 Tryz.f3 rfl rfl rfl rfl rfl rfl rfl ⟨rfl, rfl, rfl, rfl, rfl⟩ rfl rfl rfl rfl rfl (by kernel_rfl) Tryz.func3 closed
    (of_decide_eq_true (by kernel_rfl)) wrapped (fun os started H enc _ => h os started H enc)
end Go.Proofs.YtklkahckkelglaaGreat.storeNil
