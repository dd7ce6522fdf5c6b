/- Functions of the program, as the evaluator takes them. -/
import Derived.Test.YtklkahckkelglaaGreatProg
import Derived.Test.YtklkahckkelglaaGreatAevX
import Derived.KernelRfl
namespace Go.Aev.LitW
open Go Go.Aev Go.Proofs
set_option maxRecDepth 100000
-- haycroft/place.Fits
noncomputable def a_476 : AFun := ⟨16,
(.seq
 (.region [⟨(some 6), .move (.const (.bool false)), none⟩])
 (.seq
 (.region [⟨(some 7), .move (.tmp 2), none⟩,
⟨(some 8), .bin .geq (.tmp 7) (.const (.int .i64 1)), none⟩,
⟨(some 9), .move (.tmp 8), none⟩,
⟨(some 10), .move (.tmp 2), (some (9, true))⟩,
⟨(some 11), .move (.tmp 0), (some (9, true))⟩,
⟨(some 12), .move (.tmp 1), (some (9, true))⟩,
⟨(some 13), .call 483 [(.tmp 11), (.tmp 12)], (some (9, true))⟩,
⟨(some 14), .bin .leq (.tmp 10) (.tmp 13), (some (9, true))⟩,
⟨(some 15), .pick (.tmp 9) (.tmp 14) (.const (.bool false)), none⟩,
⟨(some 6), .move (.tmp 15), none⟩])
 .ret
)
)
, [.tmp 6]⟩
theorem c_476 : plainFn Tryz.prog 476 = some a_476 := by kernel_rfl
-- haycroft/entry.To
noncomputable def a_481 : AFun := ⟨23,
(.seq
 (.region [⟨(some 4), .move (.const (.int .u64 0)), none⟩,
⟨(some 5), .move (.const (.int .i64 0)), none⟩])
 (.seq
 (.region [⟨(some 9), .move (.tmp 0), none⟩,
⟨(some 10), .call 88 [(.tmp 9)], none⟩,
⟨(some 8), .move (.tmp 10), none⟩,
⟨(some 11), .extract (.tmp 8) 0, none⟩,
⟨(some 12), .extract (.tmp 8) 1, none⟩,
⟨(some 6), .new 157 #[(.int .u64 0), (.int .u64 0), (.bool false)], none⟩,
⟨none, .store 3 (.tmp 6) (.tmp 11), none⟩,
⟨(some 7), .move (.tmp 12), none⟩])
 (.seq
 (.seq
 (.region [⟨(some 13), .move (.tmp 7), none⟩,
⟨(some 14), .bin .neq (.tmp 13) (.const (.int .i64 0)), none⟩])
 (.cond (.tmp 14)
 (.seq
 (.region [⟨(some 15), .move (.tmp 7), none⟩,
⟨(some 4), .move (.const (.int .u64 0)), none⟩,
⟨(some 5), .move (.tmp 15), none⟩])
 .ret
)
 .skip
)
)
 (.seq
 (.region [⟨(some 16), .move (.tmp 1), none⟩,
⟨(some 17), .off 0 (.tmp 6), none⟩,
⟨none, .store 1 (.tmp 17) (.tmp 16), none⟩,
⟨(some 18), .off 2 (.tmp 6), none⟩,
⟨none, .store 1 (.tmp 18) (.const (.bool false)), none⟩])
 (.seq
 (.region [⟨(some 19), .loadN 3 (.tmp 6), none⟩,
⟨(some 20), .call 482 [(.tmp 19)], none⟩,
⟨(some 21), .extract (.tmp 20) 0, none⟩,
⟨(some 22), .extract (.tmp 20) 1, none⟩,
⟨(some 4), .move (.tmp 21), none⟩,
⟨(some 5), .move (.tmp 22), none⟩])
 .ret
)
)
)
)
)
, [.tmp 4, .tmp 5]⟩
theorem c_481 : plainFn Tryz.prog 481 = some a_481 := by kernel_rfl
-- haycroft/entry.Pack
noncomputable def a_482 : AFun := ⟨25,
(.seq
 (.region [⟨(some 1), .box 157 (.tmp 0), none⟩,
⟨(some 2), .move (.const (.int .u64 0)), none⟩,
⟨(some 3), .move (.const (.int .i64 0)), none⟩])
 (.seq
 (.seq
 (.region [⟨(some 6), .loadN 3 (.tmp 1), none⟩,
⟨(some 7), .call 164 [(.tmp 6)], none⟩,
⟨(some 8), .un .not (.tmp 7), none⟩])
 (.cond (.tmp 8)
 (.seq
 (.region [⟨(some 2), .move (.const (.int .u64 0)), none⟩,
⟨(some 3), .move (.const (.int .i64 1)), none⟩])
 .ret
)
 .skip
)
)
 (.seq
 (.region [⟨(some 10), .off 0 (.tmp 1), none⟩,
⟨(some 11), .load (.tmp 10), none⟩,
⟨(some 12), .off 1 (.tmp 1), none⟩,
⟨(some 13), .load (.tmp 12), none⟩,
⟨(some 14), .buildSlice 24 1 2 #[(.int .u64 0), (.int .u64 0)] [(0, (.tmp 11)), (1, (.tmp 13))], none⟩,
⟨(some 15), .buildSlice 3 1 2 #[(.int .i64 0), (.int .i64 0)] [(0, (.const (.int .i64 48))), (1, (.const (.int .i64 14)))], none⟩,
⟨(some 16), .call 334 [(.tmp 14), (.tmp 15)], none⟩,
⟨(some 9), .move (.tmp 16), none⟩,
⟨(some 17), .extract (.tmp 9) 0, none⟩,
⟨(some 18), .extract (.tmp 9) 1, none⟩,
⟨(some 4), .move (.tmp 17), none⟩,
⟨(some 5), .move (.tmp 18), none⟩])
 (.seq
 (.region [⟨(some 19), .move (.tmp 4), none⟩,
⟨(some 20), .off 2 (.tmp 1), none⟩,
⟨(some 21), .load (.tmp 20), none⟩,
⟨(some 22), .call 491 [(.tmp 19), (.const (.int .i64 62)), (.tmp 21)], none⟩,
⟨(some 23), .call 491 [(.tmp 22), (.const (.int .i64 63)), (.const (.bool true))], none⟩,
⟨(some 24), .move (.tmp 5), none⟩,
⟨(some 2), .move (.tmp 23), none⟩,
⟨(some 3), .move (.tmp 24), none⟩])
 .ret
)
)
)
)
, [.tmp 2, .tmp 3]⟩
theorem c_482 : plainFn Tryz.prog 482 = some a_482 := by kernel_rfl
-- haycroft/place.Room
noncomputable def a_483 : AFun := ⟨18,
(.seq
 (.region [⟨(some 4), .move (.const (.int .i64 0)), none⟩])
 (.seq
 (.seq
 (.region [⟨(some 5), .move (.tmp 0), none⟩,
⟨(some 6), .call 119 [(.tmp 5)], none⟩,
⟨(some 7), .un .not (.tmp 6), none⟩,
⟨(some 8), .move (.tmp 7), none⟩,
⟨(some 9), .move (.tmp 1), (some (8, false))⟩,
⟨(some 10), .bin .gtr (.tmp 9) (.const (.int .u64 281474976710655)), (some (8, false))⟩,
⟨(some 11), .pick (.tmp 8) (.const (.bool true)) (.tmp 10), none⟩])
 (.cond (.tmp 11)
 (.seq
 (.region [⟨(some 4), .move (.const (.int .i64 0)), none⟩])
 .ret
)
 .skip
)
)
 (.seq
 (.region [⟨(some 12), .move (.tmp 0), none⟩,
⟨(some 13), .call 134 [(.tmp 12)], none⟩,
⟨(some 14), .move (.tmp 0), none⟩,
⟨(some 15), .move (.tmp 1), none⟩,
⟨(some 16), .call 75 [(.tmp 14), (.tmp 15)], none⟩,
⟨(some 17), .bin .sub (.tmp 13) (.tmp 16), none⟩,
⟨(some 4), .move (.tmp 17), none⟩])
 .ret
)
)
)
, [.tmp 4]⟩
theorem c_483 : plainFn Tryz.prog 483 = some a_483 := by kernel_rfl
-- haycroft/field.Set
noncomputable def a_491 : AFun := ⟨22,
(.seq
 (.region [⟨(some 6), .move (.const (.int .u64 0)), none⟩])
 (.seq
 (.region [⟨(some 7), .move (.const (.int .u64 0)), none⟩])
 (.seq
 (.seq
 (.region [⟨(some 10), .move (.tmp 2), none⟩])
 (.cond (.tmp 10)
 (.region [⟨(some 7), .move (.const (.int .u64 1)), none⟩])
 .skip
)
)
 (.seq
 (.region [⟨(some 12), .move (.tmp 0), none⟩,
⟨(some 13), .move (.tmp 1), none⟩,
⟨(some 14), .move (.tmp 7), none⟩,
⟨(some 15), .call 405 [(.tmp 12), (.tmp 13), (.const (.int .i64 1)), (.tmp 14)], none⟩,
⟨(some 11), .move (.tmp 15), none⟩,
⟨(some 16), .extract (.tmp 11) 0, none⟩,
⟨(some 17), .extract (.tmp 11) 1, none⟩,
⟨(some 8), .move (.tmp 16), none⟩,
⟨(some 9), .move (.tmp 17), none⟩])
 (.seq
 (.seq
 (.region [⟨(some 18), .move (.tmp 9), none⟩,
⟨(some 19), .bin .neq (.tmp 18) (.const (.int .i64 0)), none⟩])
 (.cond (.tmp 19)
 (.seq
 (.region [⟨(some 20), .move (.tmp 0), none⟩,
⟨(some 6), .move (.tmp 20), none⟩])
 .ret
)
 .skip
)
)
 (.seq
 (.region [⟨(some 21), .move (.tmp 8), none⟩,
⟨(some 6), .move (.tmp 21), none⟩])
 .ret
)
)
)
)
)
)
, [.tmp 6]⟩
theorem c_491 : plainFn Tryz.prog 491 = some a_491 := by kernel_rfl
noncomputable def L3 : List (Nat × AFun) := [(476, a_476), (481, a_481), (482, a_482), (483, a_483), (491, a_491)]
theorem L3_ok : ∀ p ∈ L3, plainFn Tryz.prog p.1 = some p.2 := List.forall_mem_cons.2 ⟨c_476, List.forall_mem_cons.2 ⟨c_481, List.forall_mem_cons.2 ⟨c_482, List.forall_mem_cons.2 ⟨c_483, List.forall_mem_cons.2 ⟨c_491, fun _ h => (nomatch h)⟩⟩⟩⟩⟩
end Go.Aev.LitW
