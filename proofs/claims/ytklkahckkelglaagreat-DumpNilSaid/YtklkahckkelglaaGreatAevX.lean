/- From the twin's answer to the model's call, at structs whose fields are not looked at. -/
import Derived.Test.YtklkahckkelglaaGreatAevV
namespace Go.Aev
open Go Go.RowKit

theorem calls_trueA {P : Program} (hmix : P.follows .mixedOrders = true) {T : Table} (hT : TableOK P T) {k : Nat} {f : FuncId} {as : Array Value} (h : isTQ (evQ T k (.fn f as) AHeap.empty) = true) {args : Array Value} (hv : VRs (fun _ => none) as args) (w : World) :
    Calls P f args w fun e w' => e = .returned (.bool true) ∧ Below w.heap.size w w' := by
  obtain ⟨H', h⟩ := isT_inv (isTQ_isT h)
  have hok := ((evN_sound hT (draws_ok hmix) k).1 f _ _ _ _ h).2
  refine (hok (fun _ => none) w args (rel_empty P w) (fun _ _ h => (nomatch h)) hv).mono ?_
  rintro e w' ⟨v', ρ', rfl, hv, hp⟩
  cases hv
  exact ⟨rfl, hp.os, hp.tape, hp.output, hp.size, fun r hr => hp.frame r hr fun _ _ h => (nomatch h)⟩

/-- A row of undefs stands for any struct of that size. -/
theorem undef_agg {ρ : Ren} {n : Nat} {cs : Array Value} (h : cs.size = n) : VR ρ (.agg (Array.replicate n undef)) (.agg cs) := by
  refine .agg (by simp [h]) fun i => ?_
  have : (Array.replicate n undef).getD i (.tuple #[]) = .tuple #[] := by
    rw [Array.getD_eq_getD_getElem?, Array.getElem?_replicate]
    split <;> rfl
  rw [this]
  exact .undef _
theorem VRs.nil {ρ : Ren} : VRs ρ #[] #[] := ⟨rfl, fun i => by simp; exact .undef _⟩
theorem VRs.cons {ρ : Ren} {x y : Value} {xs ys : List Value} (h : VR ρ x y) (hs : VRs ρ xs.toArray ys.toArray) : VRs ρ (x :: xs).toArray (y :: ys).toArray := by
  refine .mk (by have := hs.1; simpa using this) fun i a b ha hb => ?_
  cases i with
  | zero => simp at ha hb; exact ha ▸ hb ▸ h
  | succ i =>
    obtain ⟨z, hz, hr⟩ := hs.get (i := i) (x := a) (by simpa using ha)
    have : some b = some z := by rw [← hb, ← hz]; simp
    exact Option.some.inj this ▸ hr
def cellT (P : Program) (u : TypeId) : Bool :=
  match P.underlying u with
  | some (.bool) | some (.int _) | some (.string) | some (.slice _) | some (.pointer _) | some (.map _ _) => true
  | _ => false
theorem isCell_okWide {P : Program} {w : World} {r : Reach} {base : Nat} {u : TypeId} {v : Value} (hu : cellT P u = true) (h : Cell.okWide P w r base u v) : isCell v = true := by
  unfold cellT at hu
  unfold Cell.okWide at h
  cases v <;> simp_all [Cell.ok, isCell] <;> split at hu <;> simp_all
/-- A row of unknown cells stands for any struct of such cells. -/
theorem anyc_agg {P : Program} {ρ : Ren} {w : World} {r : Reach} {base n : Nat} {t : TypeId} {ts : List TypeId} {cs : Array Value} (hts : P.cellTypes P.depth t = some ts) (hb : ts.all (cellT P) = true)
    (h : Row.okWide P w r base t cs) (hn : cs.size = n) : VR ρ (.agg (Array.replicate n (.chan none))) (.agg cs) := by
  obtain ⟨ts', h1, _, h3⟩ := h
  rw [hts] at h1
  obtain rfl := Option.some.inj h1
  have hvs : VRs ρ (Array.replicate n (.chan none)) cs := by
    refine .mk (by simp [hn]) fun i x y hx hy => ?_
    obtain ⟨u, hu, hok⟩ := h3 i y hy
    have hx' : x = .chan none := by
      rw [Array.getElem?_replicate] at hx
      split at hx
      · exact (Option.some.inj hx).symm
      · cases hx
    subst hx'
    exact .anyc (isCell_okWide (List.all_eq_true.1 hb u (List.mem_of_getElem? hu)) hok)
  exact .agg hvs.1 hvs.2
theorem okWide_row {P : Program} {w : World} {r : Reach} {base : Nat} {t : TypeId} {v : Value} {fs : Array Field} (ht : P.underlying t = some (.struct fs)) (h : Value.okWide P w r base t v) : ∃ cs, v = .agg cs ∧ cs.size = P.cellsOf t ∧ Row.okWide P w r base t cs := by
  simp only [Value.okWide, ht] at h
  exact h
end Go.Aev
