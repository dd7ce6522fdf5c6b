/- From the evaluator's answer to the model's call. -/
import Derived.Test.YtklkahckkelglaaGreatAevR
import Derived.Below
namespace Go.Aev
open Go Go.RowKit

/-- All functions by their translation, none by a law of its own. -/
def plainFn (P : Program) (f : FuncId) : Option AFun :=
  match P.funcs[f]? with
  | some fn => if fn.name == "runtime.NumGoroutine" then none else compileFun P [] f
  | none => none
def plainT (P : Program) : Table := { fn := plainFn P, prim := fun _ => none }

theorem plainFn_ok {P : Program} {f : FuncId} {af : AFun} (h : plainFn P f = some af) : HasBody P f ∧ ∃ hs, compileFun P hs f = some af := by
  unfold plainFn at h
  split at h
  · rename_i fn hf
    split at h
    · cases h
    · rename_i hn
      refine ⟨⟨fn, hf, ?_, by simpa using hn⟩, [], h⟩
      unfold compileFun at h
      rw [hf] at h
      simp only at h
      split at h
      · cases h
      · rename_i c hc
        rw [hc]
        rfl
  · cases h

theorem plainT_ok (P : Program) : TableOK P (plainT P) := ⟨fun f af h => plainFn_ok h, fun f p h => by cases h⟩

def isT : Option (Out × AHeap) → Bool
  | some (.val (.bool true), _) => true
  | _ => false
theorem isT_inv {r : Option (Out × AHeap)} (h : isT r = true) : ∃ H, r = some (.val (.bool true), H) := by
  unfold isT at h
  split at h
  · exact ⟨_, rfl⟩
  · cases h

theorem rel_empty (P : Program) (w : World) : Rel P (fun _ => none) AHeap.empty.get w := ⟨fun _ _ h => (nomatch h), fun _ _ _ _ h => (nomatch h)⟩

/-- A call whose answer does not depend on its arguments. -/
theorem calls_true {P : Program} (hmix : P.follows .mixedOrders = true) {T : Table} (hT : TableOK P T) {k : Nat} {f : FuncId} {n : Nat} (h : isT (evN T k (.fn f (Array.replicate n undef)) AHeap.empty) = true) {args : Array Value} (hs : args.size = n) (w : World) :
    Calls P f args w fun e w' => e = .returned (.bool true) ∧ Below w.heap.size w w' := by
  obtain ⟨H', h⟩ := isT_inv h
  have hok := ((evN_sound hT (draws_ok hmix) k).1 f _ _ _ _ h).2
  have hargs : VRs (fun _ => none) (Array.replicate n undef) args := by
    refine ⟨by simp [hs], fun i => ?_⟩
    have : (Array.replicate n undef).getD i (.tuple #[]) = .tuple #[] := by
      rw [Array.getD_eq_getD_getElem?, Array.getElem?_replicate]
      split <;> rfl
    rw [this]
    exact .undef _
  refine (hok (fun _ => none) w args (rel_empty P w) (fun _ _ h => (nomatch h)) hargs).mono ?_
  rintro e w' ⟨v', ρ', rfl, hv, hp⟩
  cases hv
  exact ⟨rfl, hp.os, hp.tape, hp.output, hp.size, fun r hr => hp.frame r hr fun _ _ h => (nomatch h)⟩

/-- A text by its bytes. -/
def strB (l : List Nat) : ByteArray := ⟨(l.map UInt8.ofNat).toArray⟩
end Go.Aev
