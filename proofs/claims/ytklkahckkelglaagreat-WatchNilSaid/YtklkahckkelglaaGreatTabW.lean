/- The table of these functions, and of those that a law of their own tells of. -/
import Derived.Test.YtklkahckkelglaaGreatLitW0
import Derived.Test.YtklkahckkelglaaGreatLitW1
import Derived.Test.YtklkahckkelglaaGreatLitW2
import Derived.Test.YtklkahckkelglaaGreatLitW3
import Derived.Test.YtklkahckkelglaaGreatPrimS
namespace Go.Aev.LitW
open Go Go.Aev Go.Proofs
def lookA : List (Nat × AFun) → Nat → Option AFun
  | [], _ => none
  | (i, a) :: r, f => bif Nat.beq f i then some a else lookA r f
theorem lookA_mem : ∀ (l : List (Nat × AFun)) (f : Nat) (a : AFun), lookA l f = some a → (f, a) ∈ l
  | [], f, a, h => by cases h
  | (i, b) :: r, f, a, h => by
    unfold lookA at h
    cases e : Nat.beq f i with
    | true =>
      rw [e] at h
      obtain rfl := Nat.eq_of_beq_eq_true e
      obtain rfl := Option.some.inj h
      exact List.mem_cons_self
    | false => rw [e] at h; exact List.mem_cons_of_mem _ (lookA_mem r f a h)
noncomputable def tab (prim : FuncId → Option (Array Value → AHeap → Option (Value × AHeap))) : Table := { fn := lookA ((L0 ++ (L1 ++ (L2 ++ L3)))), prim := prim }
set_option maxRecDepth 100000 in
theorem tab_ok {T : Table} (h : TableOK Tryz.prog T) : TableOK Tryz.prog (tab T.prim) := by
  refine ⟨fun f af hf => plainFn_ok ?_, h.prim⟩
  have := lookA_mem _ _ _ hf
  simp only [List.mem_append] at this
  rcases this with h0 | h1 | h2 | h3
  · exact L0_ok (f, af) h0
  · exact L1_ok (f, af) h1
  · exact L2_ok (f, af) h2
  · exact L3_ok (f, af) h3
end Go.Aev.LitW
