/- The table of the program's functions, with what their loops keep. -/
import Derived.Test.YtklkahckkelglaaGreatProg
import Derived.Test.YtklkahckkelglaaGreatAevW
import Derived.Test.YtklkahckkelglaaGreatPrimS
import Derived.KernelRfl
namespace Go.Aev
open Go Go.Proofs
def hintL : List (Nat × List (List Nat)) := [
  (12, [[0, 1, 16, 17, 18]]),
  (63, [[0, 3]])]
def hintOf : List (Nat × List (List Nat)) → Nat → List (List Nat)
  | [], _ => []
  | (i, l) :: r, f => bif Nat.beq i f then l else hintOf r f
/-- The program's functions. -/
noncomputable def T : Table where
  fn f := match Tryz.prog.funcs[f]? with
    | some fn => if fn.name == "runtime.NumGoroutine" then none else compileFun Tryz.prog (hintOf hintL f) f
    | none => none
  prim := (sortT Tryz.prog 124).prim
theorem T_ok : TableOK Tryz.prog T := by
  refine ⟨fun f af h => ?_, sortT_ok.prim⟩
  simp only [T] at h
  split at h
  · rename_i fn hf
    split at h
    · cases h
    · rename_i hn
      refine ⟨⟨fn, hf, ?_, by simpa using hn⟩, hintOf hintL f, h⟩
      unfold compileFun at h
      rw [hf] at h
      simp only at h
      split at h
      · cases h
      · rename_i c hc
        rw [hc]
        rfl
  · cases h
end Go.Aev
