/- From the twin's answer to the model's call. -/
import Derived.Test.YtklkahckkelglaaGreatAevU
namespace Go.Aev
open Go Go.RowKit

def isTQ : Option (OutQ × AHeap) → Bool
  | some (.val (.bool true), _) => true
  | _ => false
theorem isTQ_isT {T : Table} {k : Nat} {f : FuncId} {args : Array Value} {H : AHeap} (h : isTQ (evQ T k (.fn f args) H) = true) : isT (evN T k (.fn f args) H) = true := by
  cases hr : evQ T k (.fn f args) H with
  | none => rw [hr] at h; cases h
  | some r =>
    obtain ⟨o, H'⟩ := r
    rw [hr] at h
    cases o with
    | exit e q => cases h
    | val v =>
      rw [(evQ_ok T k).fn _ _ _ _ _ hr]
      cases v with
      | bool b => cases b <;> first | rfl | cases h
      | _ => cases h

/-- A call whose answer does not depend on its arguments. -/
theorem calls_trueQ {P : Program} (hmix : P.follows .mixedOrders = true) {T : Table} (hT : TableOK P T) {k : Nat} {f : FuncId} {n : Nat} (h : isTQ (evQ T k (.fn f (Array.replicate n undef)) AHeap.empty) = true) {args : Array Value} (hs : args.size = n) (w : World) :
    Calls P f args w fun e w' => e = .returned (.bool true) ∧ Below w.heap.size w w' := calls_true hmix hT (isTQ_isT h) hs w

end Go.Aev
