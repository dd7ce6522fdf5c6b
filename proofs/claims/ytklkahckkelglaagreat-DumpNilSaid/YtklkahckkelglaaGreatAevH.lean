/- Each operation of the abstract evaluator does what the model's operation does: calls, words that are tried, append, make, literals, lengths. -/
import Derived.Test.YtklkahckkelglaaGreatAevG
import Derived.Laws.LoneSync
import Derived.Laws.AppendOwn
import Derived.KernelRfl
namespace Go.Aev
open Go

section
variable {P : Program} {ρ : Ren} {H : AHeap} {w : World} {o : Oper} {a : Act} {env : Env} {res : Res}

theorem map_VRs {xs : List Operand} (hx : ∀ x ∈ xs, okOpd x = true) (hE : EnvR ρ env a.tmps) : VRs ρ (xs.map (ev1 env)).toArray (xs.toArray.map a.eval) := by
  refine .mk (by simp) fun i x y h1 h2 => ?_
  simp only [List.getElem?_toArray, List.getElem?_map, Option.map_eq_some_iff] at h1
  obtain ⟨z, hz, rfl⟩ := h1
  simp only [List.map_toArray, List.getElem?_toArray, List.getElem?_map, hz, Option.map_some, Option.some.injEq] at h2
  subst h2
  exact hE.eval (hx z (List.mem_of_getElem? hz))

theorem VRs.append {xs ys xs' ys' : Array Value} (h : VRs ρ xs xs') (h' : VRs ρ ys ys') : VRs ρ (xs ++ ys) (xs' ++ ys') := by
  refine .mk (by simp [h.1, h'.1]) fun i x y hx hy => ?_
  rw [Array.getElem?_append] at hx hy
  rw [h.1] at hx
  split at hx
  · rename_i hlt
    rw [if_pos hlt] at hy
    obtain ⟨z, hz, hr⟩ := h.get hx
    rw [hy] at hz
    obtain rfl : y = z := by simpa using hz
    exact hr
  · rename_i hlt
    rw [if_neg hlt] at hy
    obtain ⟨z, hz, hr⟩ := h'.get hx
    rw [hy] at hz
    obtain rfl : y = z := by simpa using hz
    exact hr

/-- A function that there is, with a body. -/
def HasBody (P : Program) (f : FuncId) : Prop := ∃ fn : Func, P.funcs[f]? = some fn ∧ fn.body.isSome = true ∧ (fn.name == "runtime.NumGoroutine") = false
theorem run_callFunc_body {f : FuncId} (h : HasBody P f) (args : Array Value) : (callFunc f args).run P w = .ok (.enter f args) w := by
  obtain ⟨fn, hf, hb, hn⟩ := h
  obtain ⟨c, hc⟩ := Option.isSome_iff_exists.1 hb
  have hn' : fn.name ≠ "runtime.NumGoroutine" := by simpa using hn
  simp [callFunc, hf, hn', hc]

theorem s_call {f : FuncId} {c : Call} (ho : o.op = .call c) (hc : c.callee = .value (.func f)) (hf : HasBody P f)
    (hx : ∀ x ∈ c.args.toList, okOpd x = true) (hE : EnvR ρ env a.tmps) (hs : aStep env H (.call f c.args.toList) = some res) : StepR P ρ H w o a res := by
  simp only [aStep, Option.some.injEq] at hs
  subst hs
  have hv := map_VRs hx hE
  simp only [Array.toArray_toList] at hv
  refine .call ?_ hv
  simp [execOp, ho, resolve, hc, Act.eval, Deferred.ofValue, invoke, run_callFunc_body hf]

theorem s_callV {x : Operand} {c : Call} (ho : o.op = .call c) (hc : c.callee = .value x) (hxx : okOpd x = true)
    (hx : ∀ x ∈ c.args.toList, okOpd x = true) (hE : EnvR ρ env a.tmps) (hs : aStep env H (.callV x c.args.toList) = some res)
    (hb : ∀ f args, res = .call f args → HasBody P f) : StepR P ρ H w o a res := by
  have h1 := hE.eval hxx
  generalize he : a.eval x = xv at h1
  simp only [aStep] at hs
  split at hs
  · rename_i f' first captured hx'
    simp only [Option.some.injEq] at hs
    subst hs
    rw [hx'] at h1
    cases h1 with
    | func h1 h2 h3 h4 =>
      rename_i first' captured'
      have hv := map_VRs hx hE
      simp only [Array.toArray_toList] at hv
      refine .call (args' := first' ++ c.args.map a.eval ++ captured') ?_ (VRs.append (VRs.append ⟨h1, h3⟩ hv) ⟨h2, h4⟩)
      simp [execOp, ho, resolve, hc, he, Deferred.ofValue, invoke, run_callFunc_body (hb _ _ rfl)]
  · cases hs

/-! words that are read and written at once -/
theorem next_none (fn : Func) (h : fn.name = "sync/atomic.LoadUint64" ∨ fn.name = "sync/atomic.StoreUint64" ∨ fn.name = "sync/atomic.CompareAndSwapUint64" ∨ fn.name = "sync/atomic.AddUint64" ∨ fn.name = "sync/atomic.AddInt64" ∨ fn.name = "sync/atomic.LoadInt64")
    (ho : fn.origin = "") : Extern.findNext fn = none := by
  unfold Extern.findNext; rw [ho]
  rcases h with h | h | h | h | h | h <;> (rw [h]; kernel_rfl)
theorem find_loadU (fn : Func) (h : fn.name = "sync/atomic.LoadUint64") : Extern.find fn = some (Extern.Atomic.loadT (.int .u64)) := by
  unfold Extern.find; rw [h]; kernel_rfl
theorem find_loadI (fn : Func) (h : fn.name = "sync/atomic.LoadInt64") : Extern.find fn = some (Extern.Atomic.loadT (.int .i64)) := by
  unfold Extern.find; rw [h]; kernel_rfl
theorem find_store (fn : Func) (h : fn.name = "sync/atomic.StoreUint64") : Extern.find fn = some Extern.Atomic.storeT := by
  unfold Extern.find; rw [h]; kernel_rfl
theorem find_cas (fn : Func) (h : fn.name = "sync/atomic.CompareAndSwapUint64") : Extern.find fn = some (Extern.Atomic.casT (.int .u64)) := by
  unfold Extern.find; rw [h]; kernel_rfl
theorem find_addU (fn : Func) (h : fn.name = "sync/atomic.AddUint64") : Extern.find fn = some (Extern.Atomic.update (Op.intArith .add) .u64 true) := by
  unfold Extern.find; rw [h]; kernel_rfl
theorem find_addI (fn : Func) (h : fn.name = "sync/atomic.AddInt64") : Extern.find fn = some (Extern.Atomic.update (Op.intArith .add) .i64 true) := by
  unfold Extern.find; rw [h]; kernel_rfl

/-- The model's call of such a function. -/
theorem run_atomic {f : FuncId} {c : Call} (ho : o.op = .call c) (hc : c.callee = .value (.func f)) : (execOp a.eval o).run P w = (callFunc f (c.args.map a.eval)).run P w := by
  simp [execOp, ho, resolve, hc, Act.eval, Deferred.ofValue, invoke]

theorem wr1 {H' : AHeap} {p p' : Value} {k : IntKind} {n : Int} (hR : Rel P ρ H.get w) (hD : Dom ρ H.next) (hp : VR ρ p p') (h : wr H #[.int k n] p = some H') :
    ∃ r off, p' = .pointer (some ⟨r, off, none⟩) ∧ (∃ u, w.cell? ⟨r, off, none⟩ = some u) ∧ w.frozen? ⟨r, off, none⟩ = false ∧ Post P ρ H w ρ H' (w.setCell ⟨r, off, none⟩ (.int k n)) := by
  unfold wr at h
  split at h
  · rename_i b off
    cases hp with
    | ptr hb =>
      rename_i l
      obtain ⟨bk, hk, hbr⟩ := hR.blk b l hb
      split at h
      · rename_i c e hk'
        split at h
        · rename_i hc
          simp only [Bool.and_eq_true, decide_eq_true_eq] at hc
          obtain rfl : _ = H' := by simpa using h
          rw [hk] at hk'
          obtain rfl : bk = _ := by simpa using hk'
          obtain ⟨c', e', he', hg, h1, h2, h3, h4, hr⟩ := hbr
          have hoff : off < c'.size := by have := hc.1; simp at this; omega
          refine ⟨l.blk, l.base + off, rfl, ?_, frozen_of_row w l.blk _ c' e' hg, ?_⟩
          · rw [h1, Nat.zero_add]
            exact ⟨c'[off], by rw [cell_of_heap hg, Array.getElem?_eq_getElem hoff]⟩
          · rw [h1, Nat.zero_add, setCell_eq_setRow w l.blk off c' e' (0, 0) _ hg]
            refine Post.set hR hD hb (by rw [hk]; rfl) (Turned.setRow w _ _) ⟨_, e', he', setRow_heap w l.blk c' _ e' (0, 0) hg, h1, by simpa using h2, h3, by simpa [size_wrL] using h4, ?_⟩
            intro i x hx
            have hset := VRs.set (ρ := ρ) (xs := c) (ys := c.mapIdx fun i _ => c'.getD i undef) ⟨by simp, fun j => ?_⟩ (.int k n) off
            · simp only [wrL] at hx
              obtain ⟨y, hy, hvr⟩ := hset.get hx
              rw [Array.getElem?_setIfInBounds] at hy ⊢
              by_cases hji : off = i
              · subst hji
                rw [if_pos rfl] at hy ⊢
                rw [if_pos hoff]
                split at hy
                · exact ⟨y, hy, hvr⟩
                · cases hy
              · rw [if_neg hji] at hy ⊢
                have hi : i < c.size := by
                  have := (Array.getElem?_eq_some_iff.1 hy).1
                  simpa using this
                have hi' : i < c'.size := by omega
                refine ⟨c'[i], Array.getElem?_eq_getElem hi', ?_⟩
                simp [hi, Array.getElem?_eq_getElem hi'] at hy
                rw [hy]; exact hvr
            · by_cases hj : j < c.size
              · obtain ⟨y, hy, hvr⟩ := hr j _ (Array.getElem?_eq_getElem hj)
                simp only [Array.getD_eq_getD_getElem?, Array.getElem?_eq_getElem hj, Option.getD_some, Array.getElem?_mapIdx, Option.map_some, hy]
                exact hvr
              · simp only [Array.getD_eq_getD_getElem?, Array.getElem?_eq_none (Nat.le_of_not_lt hj), Option.getD_none]
                exact .undef _
        · cases h
      · cases h
  · cases h

end
end Go.Aev
