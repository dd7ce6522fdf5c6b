/- For every step the law WatchNil of package haycroftlaw26 returns true, never panics, and its argument reads behind the call as it read before. There are no conditions. -/
import Derived.Test.YtklkahckkelglaaGreatRows
import Derived.Test.YtklkahckkelglaaGreatRunWatchNil
import Derived.Test.YtklkahckkelglaaGreatFaWatchNil5
import Derived.KernelRfl
import Derived.ProofKit
import Derived.OpenShut
namespace Go.Proofs.YtklkahckkelglaaGreat.watchNil
open Go.ChangeShapes Go.WideShapes Go.ChangeAt Go.RowKit

theorem own : ownKnob Tryz.prog.godebug = none := by kernel_rfl
theorem mixed : Tryz.prog.follows .mixedOrders = true := by kernel_rfl

set_option maxRecDepth 100000 in
theorem lifted (os : Os) (started : os.Started) (H : Type) (enc : TypeId × Value → H) :
    ReturnsInHanded {} Tryz.checked os 4 .any (Rows.watchNilSpec.pre6 enc Tryz.prog Tryz.f4 Rows.watchNilRow.domain false) (Rows.watchNilSpec.post enc Tryz.prog Tryz.f4 false true false false) := by
  refine returnsInHanded_of_change (C := Tryz.checked) own started (by kernel_rfl) Tryz.func4
    (ChangeSpec.witness6 (enc := enc) (C := Tryz.checked) false ⟨#[], #[.agg #[.int .i64 0, .int .i64 0, .int .i64 0, .int .i64 0, .string ByteArray.empty, .string ByteArray.empty, .int .u64 0, .slice none 0 0]], []⟩ 8 (by kernel_rfl) (by kernel_rfl) (by kernel_rfl) (by kernel_rfl)) ?_
  intro W base args ds gs before hval0 hW hcnd _
  have hval : ∀ (j : Nat) t v, Tryz.f4.params[j]? = some t → args[j]? = some v → Value.okWide Tryz.prog W .any base t v := hval0
  have hW' := hW
  obtain ⟨p, q, hA0, hV, rfl, hfz, hnd⟩ := hW
  have hA : DataW.TrodAll enc Tryz.prog W 0 (fun _ => true) true Tryz.f4.params.toList args.toList ds p := hA0
  rw [Tryz.params4] at hA hval
  obtain ⟨v0, vs0, d0, ds0, p0, q0, hargs, rfl, rfl, h0, r0⟩ := trodAll_cons hA
  obtain ⟨rfl, rfl, rfl⟩ := trodAll_nil r0
  obtain rfl : args = #[v0] := by cases args; simp_all
  obtain ⟨rfl, rfl⟩ := trodVars_none hV
  obtain ⟨cs, rfl, hcs, hrow⟩ := Aev.okWide_row Tryz.underlying29 (hval 0 29 v0 rfl rfl)
  have hn : cs.size = 8 := hcs.trans (by kernel_rfl)
  have hvr := Aev.VRs.cons (Aev.anyc_agg (ρ := fun _ => none) (ts := [3, 3, 3, 3, 9, 9, 24, 27]) (by kernel_rfl) (by kernel_rfl) hrow hn) (xs := []) (ys := []) Aev.VRs.nil
  have k0 := h0
  have lt0 : ∀ x ∈ p0, x.block < W.heap.size := by obtain ⟨m, hm⟩ := k0; exact DataW.trod_lt m _ _ _ hm
  clear hA0 hval0
  refine (Aev.calls_trueA mixed (Aev.LitW.tab_ok Aev.sortT_ok) Aev.runWatchNil hvr W).mono fun e W' ⟨he, bel⟩ => ?_
  subst he
  exact ⟨_, rfl, _, _, _, [], _, [], hW', trodAll_mk1 (shut_bool Tryz.underlying4 _),
    (trodAll_cons_mk (Below.trod facts.laidOut (by kernel_rfl) (of_decide_eq_true (by kernel_rfl)) k0 bel lt0) trodAll_mk0),
    rfl, bel.frame _, fun h => by cases h⟩

theorem proved : Rows.WatchNilSaid := over lifted
#print axioms proved
end Go.Proofs.YtklkahckkelglaaGreat.watchNil
namespace Go.Proofs.YtklkahckkelglaaGreat
/-- The row, under a short name, for the claim. -/
theorem watchNil_holds : Rows.WatchNilSaid := watchNil.proved
end Go.Proofs.YtklkahckkelglaaGreat
