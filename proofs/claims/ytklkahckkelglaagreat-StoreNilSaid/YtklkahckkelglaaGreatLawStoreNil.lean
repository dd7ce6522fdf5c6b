/- For every config and every step the law StoreNil of package haycroftlaw24 returns true, never panics, and its arguments read behind the call as they read before. There are no conditions. -/
import Derived.Test.YtklkahckkelglaaGreatRows
import Derived.Test.YtklkahckkelglaaGreatNilF
import Derived.Test.YtklkahckkelglaaGreatFaStoreNil5
import Derived.KernelRfl
import Derived.ProofKit
import Derived.OpenShut
namespace Go.Proofs.YtklkahckkelglaaGreat.storeNil
open Go.ChangeShapes Go.WideShapes Go.ChangeAt Go.RowKit
set_option linter.unusedSimpArgs false
set_option linter.unusedVariables false

theorem own : ownKnob Tryz.prog.godebug = none := by kernel_rfl
theorem mixed : Tryz.prog.follows .mixedOrders = true := by kernel_rfl

theorem int_okWide {P : Program} {w : World} {r : Reach} {base : Nat} {u : TypeId} {v : Value} {k : IntKind} (hu : P.underlying u = some (.int k)) (h : Cell.okWide P w r base u v) : ∃ n, v = .int k n := by
  unfold Cell.okWide at h
  rw [hu] at h
  cases v <;> simp_all [Cell.ok]
set_option maxRecDepth 100000 in
theorem cfg_row {w : World} {r : Reach} {base : Nat} {cs : Array Value} (h : Row.okWide Tryz.prog w r base 23 cs) (hn : cs.size = 6) : ∃ b f s k p c, cs = Aev.cfg b f s k p c := by
  obtain ⟨ts, h1, _, h3⟩ := h
  rw [show Tryz.prog.cellTypes Tryz.prog.depth 23 = some [3, 3, 3, 3, 3, 3] by kernel_rfl] at h1
  obtain rfl := Option.some.inj h1
  have key : ∀ i, i < 6 → ∃ n, cs[i]? = some (.int .i64 n) := by
    intro i hi
    obtain ⟨u, hu, hok⟩ := h3 i cs[i] (Array.getElem?_eq_getElem (by omega))
    have : u = 3 := by
      rw [show i % [3, 3, 3, 3, 3, 3].length = i from Nat.mod_eq_of_lt (by simpa using hi)] at hu
      have hm := List.mem_of_getElem? hu
      simpa using hm
    subst this
    obtain ⟨n, hv⟩ := int_okWide Tryz.underlying3 hok
    exact ⟨n, by rw [Array.getElem?_eq_getElem (by omega), hv]⟩
  obtain ⟨a0, k0⟩ := key 0 (by omega)
  obtain ⟨a1, k1⟩ := key 1 (by omega)
  obtain ⟨a2, k2⟩ := key 2 (by omega)
  obtain ⟨a3, k3⟩ := key 3 (by omega)
  obtain ⟨a4, k4⟩ := key 4 (by omega)
  obtain ⟨a5, k5⟩ := key 5 (by omega)
  refine ⟨a0, a1, a2, a3, a4, a5, ?_⟩
  apply Array.ext_getElem?
  intro i
  match i with
  | 0 => exact k0
  | 1 => exact k1
  | 2 => exact k2
  | 3 => exact k3
  | 4 => exact k4
  | 5 => exact k5
  | i + 6 => rw [Array.getElem?_eq_none (by omega)]; rfl
set_option maxRecDepth 100000 in
/-- A step: two of its numbers are looked at. -/
theorem step_row {w : World} {r : Reach} {base : Nat} {cs : Array Value} (h : Row.okWide Tryz.prog w r base 29 cs) (hn : cs.size = 8) :
    ∃ kd sn, Aev.VR (fun _ => none) (.agg (Value.int .i64 kd :: .int .i64 sn :: .chan none :: List.replicate 5 (.chan none)).toArray) (.agg cs) := by
  obtain ⟨ts, h1, _, h3⟩ := h
  rw [show Tryz.prog.cellTypes Tryz.prog.depth 29 = some [3, 3, 3, 3, 9, 9, 24, 27] by kernel_rfl] at h1
  obtain rfl := Option.some.inj h1
  have hb : [3, 3, 3, 3, 9, 9, 24, 27].all (Aev.cellT Tryz.prog) = true := by kernel_rfl
  have key : ∀ i, i < 8 → ∃ u, [3, 3, 3, 3, 9, 9, 24, 27][i]? = some u ∧ Cell.okWide Tryz.prog w r base u (cs.getD i (.bool true)) := by
    intro i hi
    obtain ⟨u, hu, hok⟩ := h3 i cs[i] (Array.getElem?_eq_getElem (by omega))
    rw [show i % [3, 3, 3, 3, 9, 9, 24, 27].length = i from Nat.mod_eq_of_lt (by simpa using hi)] at hu
    refine ⟨u, hu, ?_⟩
    rw [Array.getD_eq_getD_getElem?, Array.getElem?_eq_getElem (by omega)]
    exact hok
  obtain ⟨u0, hu0, ok0⟩ := key 0 (by omega)
  obtain ⟨u1, hu1, ok1⟩ := key 1 (by omega)
  obtain rfl : 3 = u0 := by simpa using hu0
  obtain rfl : 3 = u1 := by simpa using hu1
  obtain ⟨kd, e0⟩ := int_okWide Tryz.underlying3 ok0
  obtain ⟨sn, e1⟩ := int_okWide Tryz.underlying3 ok1
  have hvs : Aev.VRs (fun _ => none) (Value.int .i64 kd :: .int .i64 sn :: .chan none :: List.replicate 5 (.chan none)).toArray cs := by
    refine .mk (by simp [hn]) fun i x y hx hy => ?_
    have hi : i < 8 := by rw [← hn]; exact (Array.getElem?_eq_some_iff.1 hy).1
    have hd : cs.getD i (.bool true) = y := by rw [Array.getD_eq_getD_getElem?, hy]; rfl
    match i with
    | 0 =>
      rw [hd] at e0
      have : x = .int .i64 kd := by simpa using hx.symm
      rw [this, e0]
      exact .int _ _
    | 1 =>
      rw [hd] at e1
      have : x = .int .i64 sn := by simpa using hx.symm
      rw [this, e1]
      exact .int _ _
    | i + 2 =>
      obtain ⟨u, hu, hok⟩ := key (i + 2) hi
      rw [hd] at hok
      have hc := Aev.isCell_okWide (List.all_eq_true.1 hb u (List.mem_of_getElem? hu)) hok
      have : x = .chan none := by
        simp only [List.getElem?_toArray, List.getElem?_cons_succ] at hx
        cases i with
        | zero => simpa using hx.symm
        | succ i =>
          simp only [List.getElem?_cons_succ, List.getElem?_replicate] at hx
          split at hx
          · exact (Option.some.inj hx).symm
          · cases hx
      rw [this]
      exact .anyc hc
  exact ⟨kd, sn, .agg hvs.1 hvs.2⟩

set_option maxRecDepth 100000 in
theorem lifted (os : Os) (started : os.Started) (H : Type) (enc : TypeId × Value → H) :
    ReturnsInHanded {} Tryz.checked os 3 .any (Rows.storeNilSpec.pre6 enc Tryz.prog Tryz.f3 Rows.storeNilRow.domain false) (Rows.storeNilSpec.post enc Tryz.prog Tryz.f3 false true false false) := by
  refine returnsInHanded_of_change (C := Tryz.checked) own started (by kernel_rfl) Tryz.func3
    (ChangeSpec.witness6 (enc := enc) (C := Tryz.checked) false ⟨#[], #[.agg #[.int .i64 0, .int .i64 0, .int .i64 0, .int .i64 0, .int .i64 0, .int .i64 0], .agg #[.int .i64 0, .int .i64 0, .int .i64 0, .int .i64 0, .string ByteArray.empty, .string ByteArray.empty, .int .u64 0, .slice none 0 0]], []⟩ 8 (by kernel_rfl) (by kernel_rfl) (by kernel_rfl) (by kernel_rfl)) ?_
  intro W base args ds gs before hval0 hW hcnd _
  have hval : ∀ (j : Nat) t v, Tryz.f3.params[j]? = some t → args[j]? = some v → Value.okWide Tryz.prog W .any base t v := hval0
  have hW' := hW
  obtain ⟨p, q, hA0, hV, rfl, hfz, hnd⟩ := hW
  have hA : DataW.TrodAll enc Tryz.prog W 0 (fun _ => true) true Tryz.f3.params.toList args.toList ds p := hA0
  rw [Tryz.params3] at hA hval
  obtain ⟨v0, vs0, d0, ds0, p0, q0, hargs, rfl, rfl, h0, r0⟩ := trodAll_cons hA
  obtain ⟨v1, vs1, d1, ds1, p1, q1, rfl, rfl, rfl, h1, r1⟩ := trodAll_cons r0
  obtain ⟨rfl, rfl, rfl⟩ := trodAll_nil r1
  obtain rfl : args = #[v0, v1] := by cases args; simp_all
  obtain ⟨rfl, rfl⟩ := trodVars_none hV
  obtain ⟨cs, rfl, hcs, hrow⟩ := Aev.okWide_row Tryz.underlying23 (hval 0 23 v0 rfl rfl)
  obtain ⟨xs, rfl, hxs, xrow⟩ := Aev.okWide_row Tryz.underlying29 (hval 1 29 v1 rfl rfl)
  obtain ⟨b, f, s, k, pp, c, rfl⟩ := cfg_row hrow (hcs.trans (by kernel_rfl))
  obtain ⟨kd, sn, hvx⟩ := step_row xrow (hxs.trans (by kernel_rfl))
  have hvc : Aev.VR (fun _ => none) (.agg (Aev.cfg b f s k pp c)) (.agg (Aev.cfg b f s k pp c)) := by
    have hvs : Aev.VRs (fun _ => none) (Aev.cfg b f s k pp c) (Aev.cfg b f s k pp c) :=
      Aev.VRs.cons (.int _ _) (Aev.VRs.cons (.int _ _) (Aev.VRs.cons (.int _ _) (Aev.VRs.cons (.int _ _) (Aev.VRs.cons (.int _ _) (Aev.VRs.cons (.int _ _) (xs := []) (ys := []) Aev.VRs.nil)))))
    exact .agg hvs.1 hvs.2
  have k0 := h0
  have k1 := h1
  have lt0 : ∀ x ∈ p0, x.block < W.heap.size := by obtain ⟨m, hm⟩ := k0; exact DataW.trod_lt m _ _ _ hm
  have lt1 : ∀ x ∈ p1, x.block < W.heap.size := by obtain ⟨m, hm⟩ := k1; exact DataW.trod_lt m _ _ _ hm
  clear hA0 hval0
  obtain ⟨fuel, v, H', hev, rfl⟩ := Aev.storeNil_ok (b := b) (f := f) (s := s) (k := k) (p := pp) (c := c) (kd := kd) (sn := sn) (n := .chan none) (r := List.replicate 5 (.chan none)) (by kernel_rfl) rfl rfl rfl
  have hok := ((Aev.evN_sound Aev.T_ok (Aev.draws_ok mixed) fuel).1 _ _ _ _ _ hev).2
  refine (hok (fun _ => none) W _ (Aev.rel_empty _ W) (fun _ _ h => (nomatch h)) (Aev.VRs.cons hvc (Aev.VRs.cons hvx (xs := []) (ys := []) Aev.VRs.nil))).mono fun e W' ⟨v', ρ', he, hv, hp⟩ => ?_
  cases hv
  subst he
  have bel : Below W.heap.size W W' := ⟨hp.os, hp.tape, hp.output, hp.size, fun r hr => hp.frame r hr fun _ _ h => (nomatch h)⟩
  exact ⟨_, rfl, _, _, _, [], _, [], hW', trodAll_mk1 (shut_bool Tryz.underlying4 _),
    (trodAll_cons_mk (Below.trod facts.laidOut (by kernel_rfl) (of_decide_eq_true (by kernel_rfl)) k0 bel lt0) (trodAll_cons_mk (Below.trod facts.laidOut (by kernel_rfl) (of_decide_eq_true (by kernel_rfl)) k1 bel lt1) trodAll_mk0)),
    rfl, bel.frame _, fun h => by cases h⟩

theorem proved : Rows.StoreNilSaid := over lifted
#print axioms proved
end Go.Proofs.YtklkahckkelglaaGreat.storeNil
namespace Go.Proofs.YtklkahckkelglaaGreat
/-- The row, under a short name, for the claim. -/
theorem storeNil_holds : Rows.StoreNilSaid := storeNil.proved
end Go.Proofs.YtklkahckkelglaaGreat
