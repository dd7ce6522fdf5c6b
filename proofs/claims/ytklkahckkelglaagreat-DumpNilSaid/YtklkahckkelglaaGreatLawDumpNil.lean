/- For every text the law DumpNil of package haycroftlaw31 returns true, never panics, and its argument reads behind the call as it read before. There are no conditions. -/
import Derived.Test.YtklkahckkelglaaGreatRows
import Derived.Test.YtklkahckkelglaaGreatRunDumpNil
import Derived.Test.YtklkahckkelglaaGreatFaDumpNil5
import Derived.KernelRfl
import Derived.ProofKit
import Derived.OpenShut
namespace Go.Proofs.YtklkahckkelglaaGreat.dumpNil
open Go.ChangeShapes Go.WideShapes Go.ChangeAt Go.RowKit

theorem own : ownKnob Tryz.prog.godebug = none := by kernel_rfl
theorem mixed : Tryz.prog.follows .mixedOrders = true := by kernel_rfl

set_option maxRecDepth 100000 in
theorem lifted (os : Os) (started : os.Started) (H : Type) (enc : TypeId × Value → H) :
    ReturnsInHanded {} Tryz.checked os 6 .any (Rows.dumpNilSpec.pre6 enc Tryz.prog Tryz.f6 Rows.dumpNilRow.domain false) (Rows.dumpNilSpec.post enc Tryz.prog Tryz.f6 false true false false) := by
  refine returnsInHanded_of_change (C := Tryz.checked) own started (by kernel_rfl) Tryz.func6
    (ChangeSpec.witness6 (enc := enc) (C := Tryz.checked) false ⟨#[], #[.string ByteArray.empty], []⟩ 8 (by kernel_rfl) (by kernel_rfl) (by kernel_rfl) (by kernel_rfl)) ?_
  intro W base args ds gs before hval0 hW hcnd _
  have hW' := hW
  obtain ⟨p, q, hA0, hV, rfl, hfz, hnd⟩ := hW
  have hA : DataW.TrodAll enc Tryz.prog W 0 (fun _ => true) true Tryz.f6.params.toList args.toList ds p := hA0
  rw [Tryz.params6] at hA
  obtain ⟨v0, vs0, d0, ds0, p0, q0, hargs, rfl, rfl, h0, r0⟩ := trodAll_cons hA
  obtain ⟨rfl, rfl, rfl⟩ := trodAll_nil r0
  obtain rfl : args = #[v0] := by cases args; simp_all
  obtain ⟨rfl, rfl⟩ := trodVars_none hV
  have k0 := h0
  have lt0 : ∀ x ∈ p0, x.block < W.heap.size := by obtain ⟨m, hm⟩ := k0; exact DataW.trod_lt m _ _ _ hm
  clear hA0 hval0
  refine (Aev.calls_trueQ mixed Aev.buildT_ok Aev.runDumpNil (args := #[v0]) rfl W).mono fun e W' ⟨he, bel⟩ => ?_
  subst he
  exact ⟨_, rfl, _, _, _, [], _, [], hW', trodAll_mk1 (shut_bool Tryz.underlying4 _),
    (trodAll_cons_mk (Below.trod facts.laidOut (by kernel_rfl) (of_decide_eq_true (by kernel_rfl)) k0 bel lt0) trodAll_mk0),
    rfl, bel.frame _, fun h => by cases h⟩

theorem proved : Rows.DumpNilSaid := over lifted
#print axioms proved
end Go.Proofs.YtklkahckkelglaaGreat.dumpNil
namespace Go.Proofs.YtklkahckkelglaaGreat
/-- The row, under a short name, for the claim. -/
theorem dumpNil_holds : Rows.DumpNilSaid := dumpNil.proved
end Go.Proofs.YtklkahckkelglaaGreat
