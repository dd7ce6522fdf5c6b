/- Functions of the program, as the evaluator takes them. -/
import Derived.Test.YtklkahckkelglaaGreatProg
import Derived.Test.YtklkahckkelglaaGreatAevX
import Derived.KernelRfl
namespace Go.Aev.LitW
open Go Go.Aev Go.Proofs
set_option maxRecDepth 100000
-- (*haycroft/task.Task).look
noncomputable def a_271 : AFun := ⟨76,
(.seq
 (.region [⟨(some 2), .move (.const (.int .i64 0)), none⟩,
⟨(some 3), .move (.const (.int .i64 0)), none⟩])
 (.seq
 (.draw [⟨(some 7), .move (.tmp 0), none⟩,
⟨(some 8), .nilCheck (.tmp 7), none⟩,
⟨(some 9), .off 1 (.tmp 8), none⟩,
⟨(some 10), .load (.tmp 9), none⟩,
⟨(some 11), .move (.tmp 0), none⟩,
⟨(some 12), .nilCheck (.tmp 11), none⟩,
⟨(some 13), .off 7 (.tmp 12), none⟩,
⟨(some 14), .load (.tmp 13), none⟩,
⟨(some 15), .call 86 [(.tmp 10), (.tmp 14)], none⟩,
⟨(some 6), .move (.tmp 15), none⟩,
⟨(some 16), .extract (.tmp 6) 0, none⟩,
⟨(some 17), .extract (.tmp 6) 1, none⟩,
⟨(some 4), .new 160 #[(.int .i64 0), (.int .i64 0), (.int .u64 0), (.int .i64 0)], none⟩,
⟨none, .store 4 (.tmp 4) (.tmp 16), none⟩,
⟨(some 5), .move (.tmp 17), none⟩] [[], [], [], [], [], [], [], [], [], [], [], [], [8], [], []])
 (.seq
 (.seq
 (.region [⟨(some 18), .move (.tmp 5), none⟩,
⟨(some 19), .bin .neq (.tmp 18) (.const (.int .i64 0)), none⟩])
 (.cond (.tmp 19)
 (.seq
 (.region [⟨(some 20), .move (.tmp 5), none⟩,
⟨(some 21), .call 182 [(.tmp 20)], none⟩,
⟨(some 22), .extract (.tmp 21) 0, none⟩,
⟨(some 23), .extract (.tmp 21) 1, none⟩,
⟨(some 2), .move (.tmp 22), none⟩,
⟨(some 3), .move (.tmp 23), none⟩])
 .ret
)
 .skip
)
)
 (.seq
 (.seq
 (.region [⟨(some 24), .off 0 (.tmp 4), none⟩,
⟨(some 25), .load (.tmp 24), none⟩,
⟨(some 26), .bin .neq (.tmp 25) (.const (.int .i64 1)), none⟩])
 (.cond (.tmp 26)
 (.seq
 (.region [⟨(some 27), .move (.tmp 0), none⟩,
⟨(some 28), .loadN 4 (.tmp 4), none⟩,
⟨(some 29), .call 354 [(.tmp 27), (.tmp 28)], none⟩,
⟨(some 30), .extract (.tmp 29) 0, none⟩,
⟨(some 31), .extract (.tmp 29) 1, none⟩,
⟨(some 2), .move (.tmp 30), none⟩,
⟨(some 3), .move (.tmp 31), none⟩])
 .ret
)
 .skip
)
)
 (.seq
 (.draw [⟨(some 32), .move (.tmp 0), none⟩,
⟨(some 33), .move (.tmp 0), none⟩,
⟨(some 34), .off 1 (.tmp 4), none⟩,
⟨(some 35), .load (.tmp 34), none⟩,
⟨(some 36), .off 2 (.tmp 4), none⟩,
⟨(some 37), .load (.tmp 36), none⟩,
⟨(some 38), .nilCheck (.tmp 32), none⟩,
⟨(some 39), .off 9 (.tmp 38), none⟩,
⟨none, .store 1 (.tmp 39) (.tmp 35), none⟩,
⟨(some 40), .nilCheck (.tmp 33), none⟩,
⟨(some 41), .off 10 (.tmp 40), none⟩,
⟨none, .store 1 (.tmp 41) (.tmp 37), none⟩] [[], [], [], [], [], [8], [], [], [], [], [], []])
 (.seq
 (.region [⟨(some 42), .move (.tmp 0), none⟩,
⟨(some 43), .off 2 (.tmp 4), none⟩,
⟨(some 44), .load (.tmp 43), none⟩,
⟨(some 45), .call 162 [(.tmp 44), (.const (.int .i64 0)), (.const (.int .i64 48))], none⟩,
⟨(some 46), .nilCheck (.tmp 42), none⟩,
⟨(some 47), .off 13 (.tmp 46), none⟩,
⟨none, .store 1 (.tmp 47) (.tmp 45), none⟩])
 (.seq
 (.region [⟨(some 48), .move (.tmp 0), none⟩,
⟨(some 49), .move (.tmp 0), none⟩,
⟨(some 50), .nilCheck (.tmp 49), none⟩,
⟨(some 51), .off 13 (.tmp 50), none⟩,
⟨(some 52), .load (.tmp 51), none⟩,
⟨(some 53), .nilCheck (.tmp 48), none⟩,
⟨(some 54), .off 14 (.tmp 53), none⟩,
⟨none, .store 1 (.tmp 54) (.tmp 52), none⟩])
 (.seq
 (.block 0
 (.seq
 (.region [⟨(some 56), .move (.tmp 0), none⟩,
⟨(some 57), .nilCheck (.tmp 56), none⟩,
⟨(some 58), .off 13 (.tmp 57), none⟩,
⟨(some 59), .load (.tmp 58), none⟩,
⟨(some 60), .bin .eql (.tmp 59) (.const (.int .u64 0)), none⟩,
⟨(some 55), .move (.tmp 60), none⟩])
 (.cond (.tmp 55)
 (.seq
 (.region [⟨(some 61), .move (.tmp 0), none⟩,
⟨(some 62), .call 355 [(.tmp 61)], none⟩,
⟨(some 63), .extract (.tmp 62) 0, none⟩,
⟨(some 64), .extract (.tmp 62) 1, none⟩,
⟨(some 2), .move (.tmp 63), none⟩,
⟨(some 3), .move (.tmp 64), none⟩])
 .ret
)
 (.seq
 (.region [⟨(some 66), .move (.tmp 0), none⟩,
⟨(some 67), .call 278 [(.tmp 66), (.const (.int .i64 4))], none⟩,
⟨(some 65), .move (.tmp 67), none⟩])
 (.cond (.tmp 65)
 (.seq
 (.region [⟨(some 68), .move (.tmp 0), none⟩,
⟨(some 69), .call 280 [(.tmp 68), (.func 281)], none⟩,
⟨(some 70), .extract (.tmp 69) 0, none⟩,
⟨(some 71), .extract (.tmp 69) 1, none⟩,
⟨(some 2), .move (.tmp 70), none⟩,
⟨(some 3), .move (.tmp 71), none⟩])
 .ret
)
 .skip
)
)
)
)
)
 (.seq
 (.region [⟨(some 72), .move (.tmp 0), none⟩,
⟨(some 73), .call 280 [(.tmp 72), (.func 356)], none⟩,
⟨(some 74), .extract (.tmp 73) 0, none⟩,
⟨(some 75), .extract (.tmp 73) 1, none⟩,
⟨(some 2), .move (.tmp 74), none⟩,
⟨(some 3), .move (.tmp 75), none⟩])
 .ret
)
)
)
)
)
)
)
)
)
, [.tmp 2, .tmp 3]⟩
theorem c_271 : plainFn Tryz.prog 271 = some a_271 := by kernel_rfl
-- (*haycroft/cell.Row).Len
noncomputable def a_272 : AFun := ⟨10,
(.seq
 (.region [⟨(some 2), .move (.const (.int .i64 0)), none⟩])
 (.seq
 (.seq
 (.region [⟨(some 3), .move (.tmp 0), none⟩,
⟨(some 4), .eq false .pointer (.tmp 3) (.const (.pointer none)), none⟩])
 (.cond (.tmp 4)
 (.seq
 (.region [⟨(some 2), .move (.const (.int .i64 0)), none⟩])
 .ret
)
 .skip
)
)
 (.seq
 (.region [⟨(some 5), .move (.tmp 0), none⟩,
⟨(some 6), .nilCheck (.tmp 5), none⟩,
⟨(some 7), .off 0 (.tmp 6), none⟩,
⟨(some 8), .load (.tmp 7), none⟩,
⟨(some 9), .lenSl (.tmp 8), none⟩,
⟨(some 2), .move (.tmp 9), none⟩])
 .ret
)
)
)
, [.tmp 2]⟩
theorem c_272 : plainFn Tryz.prog 272 = some a_272 := by kernel_rfl
-- (*haycroft/cell.Row).Store
noncomputable def a_273 : AFun := ⟨22,
(.seq
 (.region [⟨(some 6), .move (.const (.int .i64 0)), none⟩])
 (.seq
 (.region [⟨(some 8), .move (.tmp 0), none⟩,
⟨(some 9), .move (.tmp 1), none⟩,
⟨(some 10), .call 357 [(.tmp 8), (.tmp 9)], none⟩,
⟨(some 7), .move (.tmp 10), none⟩])
 (.seq
 (.seq
 (.region [⟨(some 11), .move (.tmp 7), none⟩,
⟨(some 12), .bin .eql (.tmp 11) (.const (.int .i64 0)), none⟩])
 (.cond (.tmp 12)
 (.region [⟨(some 13), .move (.tmp 0), none⟩,
⟨(some 14), .nilCheck (.tmp 13), none⟩,
⟨(some 15), .off 0 (.tmp 14), none⟩,
⟨(some 16), .load (.tmp 15), none⟩,
⟨(some 17), .move (.tmp 1), none⟩,
⟨(some 18), .ixSl 1 (.tmp 16) (.tmp 17), none⟩,
⟨(some 19), .move (.tmp 2), none⟩,
⟨(some 20), .call 358 [(.tmp 18), (.tmp 19)], none⟩])
 .skip
)
)
 (.seq
 (.region [⟨(some 21), .move (.tmp 7), none⟩,
⟨(some 6), .move (.tmp 21), none⟩])
 .ret
)
)
)
)
, [.tmp 6]⟩
theorem c_273 : plainFn Tryz.prog 273 = some a_273 := by kernel_rfl
-- (*haycroft/epoch.Table).In
noncomputable def a_274 : AFun := ⟨19,
(.seq
 (.region [⟨(some 2), .move (.const (.slice none 0 0)), none⟩])
 (.seq
 (.region [⟨(some 3), .move (.const (.slice none 0 0)), none⟩])
 (.seq
 (.seq
 (.region [⟨(some 4), .move (.const (.int .i64 0)), none⟩])
 (.block 0
 (.loop none
 (.seq
 (.seq
 (.region [⟨(some 5), .move (.tmp 0), none⟩,
⟨(some 6), .move (.tmp 4), none⟩,
⟨(some 7), .call 179 [(.tmp 5), (.tmp 6)], none⟩])
 (.cond (.tmp 7)
 .skip
 (.exit 0)
)
)
 (.seq
 (.block 1
 (.seq
 (.region [⟨(some 10), .move (.tmp 0), none⟩,
⟨(some 11), .move (.tmp 4), none⟩,
⟨(some 12), .call 97 [(.tmp 10), (.tmp 11)], none⟩,
⟨(some 13), .bin .gtr (.tmp 12) (.const (.int .u64 0)), none⟩])
 (.cond (.tmp 13)
 (.region [⟨(some 14), .move (.tmp 3), none⟩,
⟨(some 15), .move (.tmp 4), none⟩,
⟨(some 16), .buildSlice 3 1 1 #[(.int .i64 0)] [(0, (.tmp 15))], none⟩,
⟨(some 17), .append 3 1 8 (.tmp 14) (.tmp 16), none⟩,
⟨(some 3), .move (.tmp 17), none⟩])
 .skip
)
)
)
 (.region [⟨(some 8), .move (.tmp 4), none⟩,
⟨(some 9), .bin .add (.tmp 8) (.const (.int .i64 1)), none⟩,
⟨(some 4), .move (.tmp 9), none⟩])
)
)
)
)
)
 (.seq
 (.region [⟨(some 18), .move (.tmp 3), none⟩,
⟨(some 2), .move (.tmp 18), none⟩])
 .ret
)
)
)
)
, [.tmp 2]⟩
theorem c_274 : plainFn Tryz.prog 274 = some a_274 := by kernel_rfl
-- (*haycroft/task.Task).is
noncomputable def a_278 : AFun := ⟨12,
(.seq
 (.region [⟨(some 4), .move (.const (.bool false)), none⟩])
 (.seq
 (.region [⟨(some 5), .move (.tmp 0), none⟩,
⟨(some 6), .nilCheck (.tmp 5), none⟩,
⟨(some 7), .off 3 (.tmp 6), none⟩,
⟨(some 8), .off 0 (.tmp 7), none⟩,
⟨(some 9), .load (.tmp 8), none⟩,
⟨(some 10), .move (.tmp 1), none⟩,
⟨(some 11), .bin .eql (.tmp 9) (.tmp 10), none⟩,
⟨(some 4), .move (.tmp 11), none⟩])
 .ret
)
)
, [.tmp 4]⟩
theorem c_278 : plainFn Tryz.prog 278 = some a_278 := by kernel_rfl
-- (*haycroft/task.Task).ends
noncomputable def a_279 : AFun := ⟨17,
(.seq
 (.region [⟨(some 6), .move (.const (.int .i64 0)), none⟩,
⟨(some 7), .move (.const (.int .i64 0)), none⟩])
 (.seq
 (.region [⟨(some 8), .move (.tmp 0), none⟩,
⟨(some 9), .move (.tmp 0), none⟩,
⟨(some 10), .move (.tmp 1), none⟩,
⟨(some 11), .move (.tmp 2), none⟩,
⟨(some 12), .build #[(.int .i64 0), (.string (strB []))] #[(0, 1), (1, 1)] [(0, (.tmp 10)), (1, (.tmp 11))], none⟩,
⟨(some 13), .nilCheck (.tmp 8), none⟩,
⟨(some 14), .off 20 (.tmp 13), none⟩,
⟨none, .store 1 (.tmp 14) (.const (.bool true)), none⟩,
⟨(some 15), .nilCheck (.tmp 9), none⟩,
⟨(some 16), .off 21 (.tmp 15), none⟩,
⟨none, .store 2 (.tmp 16) (.tmp 12), none⟩])
 (.seq
 (.region [⟨(some 6), .move (.const (.int .i64 2)), none⟩,
⟨(some 7), .move (.const (.int .i64 0)), none⟩])
 .ret
)
)
)
, [.tmp 6, .tmp 7]⟩
theorem c_279 : plainFn Tryz.prog 279 = some a_279 := by kernel_rfl
-- (*haycroft/task.Task).more
noncomputable def a_280 : AFun := ⟨10,
(.seq
 (.region [⟨(some 4), .move (.const (.int .i64 0)), none⟩,
⟨(some 5), .move (.const (.int .i64 0)), none⟩])
 (.seq
 (.region [⟨(some 6), .move (.tmp 0), none⟩,
⟨(some 7), .move (.tmp 1), none⟩,
⟨(some 8), .nilCheck (.tmp 6), none⟩,
⟨(some 9), .off 8 (.tmp 8), none⟩,
⟨none, .store 1 (.tmp 9) (.tmp 7), none⟩])
 (.seq
 (.region [⟨(some 4), .move (.const (.int .i64 1)), none⟩,
⟨(some 5), .move (.const (.int .i64 0)), none⟩])
 .ret
)
)
)
, [.tmp 4, .tmp 5]⟩
theorem c_280 : plainFn Tryz.prog 280 = some a_280 := by kernel_rfl
-- (*haycroft/task.Task).take
noncomputable def a_281 : AFun := ⟨59,
(.seq
 (.region [⟨(some 2), .move (.const (.int .i64 0)), none⟩,
⟨(some 3), .move (.const (.int .i64 0)), none⟩])
 (.seq
 (.region [⟨(some 8), .move (.tmp 0), none⟩,
⟨(some 9), .call 359 [(.tmp 8)], none⟩,
⟨(some 4), .new 67 #[(.int .u64 0), (.bool false), (.bool false), (.string (strB [])), (.string (strB []))], none⟩,
⟨none, .store 5 (.tmp 4) (.tmp 9), none⟩])
 (.seq
 (.draw [⟨(some 11), .move (.tmp 0), none⟩,
⟨(some 12), .nilCheck (.tmp 11), none⟩,
⟨(some 13), .off 0 (.tmp 12), none⟩,
⟨(some 14), .load (.tmp 13), none⟩,
⟨(some 15), .off 3 (.tmp 4), none⟩,
⟨(some 16), .load (.tmp 15), none⟩,
⟨(some 17), .lenStr (.tmp 16), none⟩,
⟨(some 18), .off 4 (.tmp 4), none⟩,
⟨(some 19), .load (.tmp 18), none⟩,
⟨(some 20), .lenStr (.tmp 19), none⟩,
⟨(some 21), .call 137 [(.tmp 17), (.tmp 20)], none⟩,
⟨(some 22), .call 360 [(.tmp 14), (.tmp 21)], none⟩,
⟨(some 10), .move (.tmp 22), none⟩,
⟨(some 23), .extract (.tmp 10) 0, none⟩,
⟨(some 24), .extract (.tmp 10) 1, none⟩,
⟨(some 25), .extract (.tmp 10) 2, none⟩,
⟨(some 5), .move (.tmp 23), none⟩,
⟨(some 6), .move (.tmp 24), none⟩,
⟨(some 7), .move (.tmp 25), none⟩] [[], [], [], [10], [], [], [], [], [], [], [], [], [], [], [], [], [], [], []])
 (.seq
 (.seq
 (.region [⟨(some 26), .move (.tmp 7), none⟩,
⟨(some 27), .bin .neq (.tmp 26) (.const (.int .i64 0)), none⟩])
 (.cond (.tmp 27)
 (.seq
 (.region [⟨(some 28), .move (.tmp 7), none⟩,
⟨(some 29), .call 182 [(.tmp 28)], none⟩,
⟨(some 30), .extract (.tmp 29) 0, none⟩,
⟨(some 31), .extract (.tmp 29) 1, none⟩,
⟨(some 2), .move (.tmp 30), none⟩,
⟨(some 3), .move (.tmp 31), none⟩])
 .ret
)
 .skip
)
)
 (.seq
 (.seq
 (.region [⟨(some 32), .move (.tmp 6), none⟩])
 (.block 0
 (.seq
 (.region [⟨(some 34), .bin .eql (.tmp 32) (.const (.int .i64 1)), none⟩,
⟨(some 33), .move (.tmp 34), none⟩])
 (.cond (.tmp 33)
 (.seq
 (.region [⟨(some 35), .move (.tmp 0), none⟩,
⟨(some 36), .move (.tmp 5), none⟩,
⟨(some 37), .nilCheck (.tmp 35), none⟩,
⟨(some 38), .off 15 (.tmp 37), none⟩,
⟨none, .store 1 (.tmp 38) (.tmp 36), none⟩])
 (.seq
 (.region [⟨(some 39), .move (.tmp 0), none⟩,
⟨(some 40), .call 280 [(.tmp 39), (.func 361)], none⟩,
⟨(some 41), .extract (.tmp 40) 0, none⟩,
⟨(some 42), .extract (.tmp 40) 1, none⟩,
⟨(some 2), .move (.tmp 41), none⟩,
⟨(some 3), .move (.tmp 42), none⟩])
 .ret
)
)
 (.seq
 (.region [⟨(some 44), .bin .eql (.tmp 32) (.const (.int .i64 2)), none⟩,
⟨(some 43), .move (.tmp 44), none⟩])
 (.cond (.tmp 43)
 (.seq
 (.region [⟨(some 45), .move (.tmp 0), none⟩,
⟨(some 46), .call 280 [(.tmp 45), (.func 362)], none⟩,
⟨(some 47), .extract (.tmp 46) 0, none⟩,
⟨(some 48), .extract (.tmp 46) 1, none⟩,
⟨(some 2), .move (.tmp 47), none⟩,
⟨(some 3), .move (.tmp 48), none⟩])
 .ret
)
 (.seq
 (.region [⟨(some 50), .bin .eql (.tmp 32) (.const (.int .i64 4)), none⟩,
⟨(some 49), .move (.tmp 50), none⟩])
 (.cond (.tmp 49)
 (.seq
 (.region [⟨(some 51), .move (.tmp 0), none⟩,
⟨(some 52), .call 279 [(.tmp 51), (.const (.int .i64 9)), (.const (.string (strB [])))], none⟩,
⟨(some 53), .extract (.tmp 52) 0, none⟩,
⟨(some 54), .extract (.tmp 52) 1, none⟩,
⟨(some 2), .move (.tmp 53), none⟩,
⟨(some 3), .move (.tmp 54), none⟩])
 .ret
)
 .skip
)
)
)
)
)
)
)
)
 (.seq
 (.region [⟨(some 55), .move (.tmp 0), none⟩,
⟨(some 56), .call 363 [(.tmp 55), (.func 281)], none⟩,
⟨(some 57), .extract (.tmp 56) 0, none⟩,
⟨(some 58), .extract (.tmp 56) 1, none⟩,
⟨(some 2), .move (.tmp 57), none⟩,
⟨(some 3), .move (.tmp 58), none⟩])
 .ret
)
)
)
)
)
)
, [.tmp 2, .tmp 3]⟩
theorem c_281 : plainFn Tryz.prog 281 = some a_281 := by kernel_rfl
-- (*haycroft/cell.Row).Add
noncomputable def a_284 : AFun := ⟨25,
(.seq
 (.region [⟨(some 6), .move (.const (.int .u64 0)), none⟩,
⟨(some 7), .move (.const (.int .i64 0)), none⟩])
 (.seq
 (.seq
 (.region [⟨(some 9), .move (.tmp 0), none⟩,
⟨(some 10), .move (.tmp 1), none⟩,
⟨(some 11), .call 357 [(.tmp 9), (.tmp 10)], none⟩,
⟨(some 8), .move (.tmp 11), none⟩])
 (.seq
 (.region [⟨(some 12), .move (.tmp 8), none⟩,
⟨(some 13), .bin .neq (.tmp 12) (.const (.int .i64 0)), none⟩])
 (.cond (.tmp 13)
 (.seq
 (.region [⟨(some 14), .move (.tmp 8), none⟩,
⟨(some 6), .move (.const (.int .u64 0)), none⟩,
⟨(some 7), .move (.tmp 14), none⟩])
 .ret
)
 .skip
)
)
)
 (.seq
 (.region [⟨(some 15), .move (.tmp 0), none⟩,
⟨(some 16), .nilCheck (.tmp 15), none⟩,
⟨(some 17), .off 0 (.tmp 16), none⟩,
⟨(some 18), .load (.tmp 17), none⟩,
⟨(some 19), .move (.tmp 1), none⟩,
⟨(some 20), .ixSl 1 (.tmp 18) (.tmp 19), none⟩,
⟨(some 21), .move (.tmp 2), none⟩,
⟨(some 22), .call 365 [(.tmp 20), (.tmp 21)], none⟩,
⟨(some 23), .move (.tmp 2), none⟩,
⟨(some 24), .bin .sub (.tmp 22) (.tmp 23), none⟩,
⟨(some 6), .move (.tmp 24), none⟩,
⟨(some 7), .move (.const (.int .i64 0)), none⟩])
 .ret
)
)
)
, [.tmp 6, .tmp 7]⟩
theorem c_284 : plainFn Tryz.prog 284 = some a_284 := by kernel_rfl
-- haycroft/pages.mark
noncomputable def a_288 : AFun := ⟨6,
(.seq
 (.region [⟨(some 2), .move (.const (.int .u64 0)), none⟩])
 (.seq
 (.region [⟨(some 3), .move (.tmp 0), none⟩,
⟨(some 4), .toInt .u64 (.tmp 3), none⟩,
⟨(some 5), .bin .add (.tmp 4) (.const (.int .u64 1)), none⟩,
⟨(some 2), .move (.tmp 5), none⟩])
 .ret
)
)
, [.tmp 2]⟩
theorem c_288 : plainFn Tryz.prog 288 = some a_288 := by kernel_rfl
-- (*haycroft/cell.Row).within
noncomputable def a_289 : AFun := ⟨25,
(.seq
 (.region [⟨(some 6), .move (.const (.int .i64 0)), none⟩])
 (.seq
 (.block 0
 (.seq
 (.region [⟨(some 8), .move (.tmp 0), none⟩,
⟨(some 9), .eq false .pointer (.tmp 8) (.const (.pointer none)), none⟩,
⟨(some 7), .move (.tmp 9), none⟩])
 (.cond (.tmp 7)
 (.seq
 (.region [⟨(some 6), .move (.const (.int .i64 2)), none⟩])
 .ret
)
 (.seq
 (.seq
 (.region [⟨(some 11), .move (.tmp 2), none⟩,
⟨(some 12), .bin .lss (.tmp 11) (.const (.int .i64 0)), none⟩,
⟨(some 10), .move (.tmp 12), none⟩])
 (.cond (.tmp 10)
 .skip
 (.seq
 (.region [⟨(some 13), .move (.tmp 1), none⟩,
⟨(some 14), .bin .lss (.tmp 13) (.const (.int .i64 0)), none⟩,
⟨(some 10), .move (.tmp 14), none⟩])
 (.cond (.tmp 10)
 .skip
 (.seq
 (.region [⟨(some 15), .move (.tmp 2), none⟩,
⟨(some 16), .move (.tmp 0), none⟩,
⟨(some 17), .call 272 [(.tmp 16)], none⟩,
⟨(some 18), .bin .gtr (.tmp 15) (.tmp 17), none⟩,
⟨(some 10), .move (.tmp 18), none⟩])
 (.cond (.tmp 10)
 .skip
 (.region [⟨(some 19), .move (.tmp 1), none⟩,
⟨(some 20), .move (.tmp 0), none⟩,
⟨(some 21), .call 272 [(.tmp 20)], none⟩,
⟨(some 22), .move (.tmp 2), none⟩,
⟨(some 23), .bin .sub (.tmp 21) (.tmp 22), none⟩,
⟨(some 24), .bin .gtr (.tmp 19) (.tmp 23), none⟩,
⟨(some 10), .move (.tmp 24), none⟩])
)
)
)
)
)
)
 (.cond (.tmp 10)
 (.seq
 (.region [⟨(some 6), .move (.const (.int .i64 1)), none⟩])
 .ret
)
 .skip
)
)
)
)
)
 (.seq
 (.region [⟨(some 6), .move (.const (.int .i64 0)), none⟩])
 .ret
)
)
)
, [.tmp 6]⟩
theorem c_289 : plainFn Tryz.prog 289 = some a_289 := by kernel_rfl
-- slices.stableCmpFunc[haycroft/api.Commit]
noncomputable def a_311 : AFun := ⟨63,
(.seq
 (.region [⟨(some 6), .move (.const (.int .i64 20)), none⟩])
 (.seq
 (.region [⟨(some 10), .move (.tmp 6), none⟩,
⟨(some 7), .move (.const (.int .i64 0)), none⟩,
⟨(some 8), .move (.tmp 10), none⟩])
 (.seq
 (.block 0
 (.loop none
 (.seq
 (.seq
 (.region [⟨(some 11), .move (.tmp 8), none⟩,
⟨(some 12), .move (.tmp 1), none⟩,
⟨(some 13), .bin .leq (.tmp 11) (.tmp 12), none⟩])
 (.cond (.tmp 13)
 .skip
 (.exit 0)
)
)
 (.block 1
 (.seq
 (.region [⟨(some 14), .move (.tmp 0), none⟩,
⟨(some 15), .move (.tmp 7), none⟩,
⟨(some 16), .move (.tmp 8), none⟩,
⟨(some 17), .move (.tmp 2), none⟩,
⟨(some 18), .call 376 [(.tmp 14), (.tmp 15), (.tmp 16), (.tmp 17)], none⟩])
 (.seq
 (.region [⟨(some 19), .move (.tmp 8), none⟩,
⟨(some 7), .move (.tmp 19), none⟩])
 (.region [⟨(some 20), .move (.tmp 8), none⟩,
⟨(some 21), .move (.tmp 6), none⟩,
⟨(some 22), .bin .add (.tmp 20) (.tmp 21), none⟩,
⟨(some 8), .move (.tmp 22), none⟩])
)
)
)
)
)
)
 (.seq
 (.region [⟨(some 23), .move (.tmp 0), none⟩,
⟨(some 24), .move (.tmp 7), none⟩,
⟨(some 25), .move (.tmp 1), none⟩,
⟨(some 26), .move (.tmp 2), none⟩,
⟨(some 27), .call 376 [(.tmp 23), (.tmp 24), (.tmp 25), (.tmp 26)], none⟩])
 (.block 2
 (.loop none
 (.seq
 (.seq
 (.region [⟨(some 28), .move (.tmp 6), none⟩,
⟨(some 29), .move (.tmp 1), none⟩,
⟨(some 30), .bin .lss (.tmp 28) (.tmp 29), none⟩])
 (.cond (.tmp 30)
 .skip
 (.exit 2)
)
)
 (.block 3
 (.seq
 (.region [⟨(some 31), .move (.tmp 6), none⟩,
⟨(some 32), .bin .mul (.const (.int .i64 2)) (.tmp 31), none⟩,
⟨(some 7), .move (.const (.int .i64 0)), none⟩,
⟨(some 8), .move (.tmp 32), none⟩])
 (.seq
 (.block 4
 (.loop none
 (.seq
 (.seq
 (.region [⟨(some 33), .move (.tmp 8), none⟩,
⟨(some 34), .move (.tmp 1), none⟩,
⟨(some 35), .bin .leq (.tmp 33) (.tmp 34), none⟩])
 (.cond (.tmp 35)
 .skip
 (.exit 4)
)
)
 (.block 5
 (.seq
 (.region [⟨(some 36), .move (.tmp 0), none⟩,
⟨(some 37), .move (.tmp 7), none⟩,
⟨(some 38), .move (.tmp 7), none⟩,
⟨(some 39), .move (.tmp 6), none⟩,
⟨(some 40), .bin .add (.tmp 38) (.tmp 39), none⟩,
⟨(some 41), .move (.tmp 8), none⟩,
⟨(some 42), .move (.tmp 2), none⟩,
⟨(some 43), .call 377 [(.tmp 36), (.tmp 37), (.tmp 40), (.tmp 41), (.tmp 42)], none⟩])
 (.seq
 (.region [⟨(some 44), .move (.tmp 8), none⟩,
⟨(some 7), .move (.tmp 44), none⟩])
 (.region [⟨(some 45), .move (.tmp 8), none⟩,
⟨(some 46), .move (.tmp 6), none⟩,
⟨(some 47), .bin .mul (.const (.int .i64 2)) (.tmp 46), none⟩,
⟨(some 48), .bin .add (.tmp 45) (.tmp 47), none⟩,
⟨(some 8), .move (.tmp 48), none⟩])
)
)
)
)
)
)
 (.seq
 (.seq
 (.region [⟨(some 49), .move (.tmp 7), none⟩,
⟨(some 50), .move (.tmp 6), none⟩,
⟨(some 51), .bin .add (.tmp 49) (.tmp 50), none⟩,
⟨(some 9), .move (.tmp 51), none⟩])
 (.seq
 (.region [⟨(some 52), .move (.tmp 9), none⟩,
⟨(some 53), .move (.tmp 1), none⟩,
⟨(some 54), .bin .lss (.tmp 52) (.tmp 53), none⟩])
 (.cond (.tmp 54)
 (.region [⟨(some 55), .move (.tmp 0), none⟩,
⟨(some 56), .move (.tmp 7), none⟩,
⟨(some 57), .move (.tmp 9), none⟩,
⟨(some 58), .move (.tmp 1), none⟩,
⟨(some 59), .move (.tmp 2), none⟩,
⟨(some 60), .call 377 [(.tmp 55), (.tmp 56), (.tmp 57), (.tmp 58), (.tmp 59)], none⟩])
 .skip
)
)
)
 (.region [⟨(some 61), .move (.tmp 6), none⟩,
⟨(some 62), .bin .mul (.tmp 61) (.const (.int .i64 2)), none⟩,
⟨(some 6), .move (.tmp 62), none⟩])
)
)
)
)
)
)
)
)
)
)
)
, []⟩
theorem c_311 : plainFn Tryz.prog 311 = some a_311 := by kernel_rfl
-- haycroft/tail.New
noncomputable def a_319 : AFun := ⟨35,
(.seq
 (.region [⟨(some 4), .move (.const (.pointer none)), none⟩,
⟨(some 5), .move (.const (.int .i64 0)), none⟩])
 (.seq
 (.seq
 (.region [⟨(some 9), .move (.tmp 0), none⟩,
⟨(some 10), .call 119 [(.tmp 9)], none⟩,
⟨(some 11), .un .not (.tmp 10), none⟩,
⟨(some 12), .move (.tmp 11), none⟩,
⟨(some 13), .move (.tmp 1), (some (12, false))⟩,
⟨(some 14), .bin .lss (.tmp 13) (.const (.int .i64 1)), (some (12, false))⟩,
⟨(some 15), .pick (.tmp 12) (.const (.bool true)) (.tmp 14), none⟩,
⟨(some 16), .move (.tmp 15), none⟩,
⟨(some 17), .move (.tmp 1), (some (16, false))⟩,
⟨(some 18), .bin .gtr (.tmp 17) (.const (.int .i64 64)), (some (16, false))⟩,
⟨(some 19), .pick (.tmp 16) (.const (.bool true)) (.tmp 18), none⟩])
 (.cond (.tmp 19)
 (.seq
 (.region [⟨(some 4), .move (.const (.pointer none)), none⟩,
⟨(some 5), .move (.const (.int .i64 1)), none⟩])
 .ret
)
 .skip
)
)
 (.seq
 (.region [⟨(some 21), .call 325 [(.const (.int .i64 1))], none⟩,
⟨(some 20), .move (.tmp 21), none⟩,
⟨(some 22), .extract (.tmp 20) 0, none⟩,
⟨(some 23), .extract (.tmp 20) 1, none⟩,
⟨(some 6), .move (.tmp 22), none⟩,
⟨(some 7), .move (.tmp 23), none⟩])
 (.seq
 (.seq
 (.region [⟨(some 24), .move (.tmp 7), none⟩,
⟨(some 25), .bin .neq (.tmp 24) (.const (.int .i64 0)), none⟩])
 (.cond (.tmp 25)
 (.seq
 (.region [⟨(some 26), .move (.tmp 7), none⟩,
⟨(some 4), .move (.const (.pointer none)), none⟩,
⟨(some 5), .move (.tmp 26), none⟩])
 .ret
)
 .skip
)
)
 (.seq
 (.region [⟨(some 27), .move (.tmp 0), none⟩,
⟨(some 28), .move (.tmp 1), none⟩,
⟨(some 29), .move (.tmp 6), none⟩,
⟨(some 30), .build #[(.int .i64 0), (.int .i64 0), (.pointer none)] #[(0, 1), (1, 1), (2, 1)] [(0, (.tmp 27)), (1, (.tmp 28)), (2, (.tmp 29))], none⟩,
⟨(some 31), .box 450 (.tmp 30), none⟩,
⟨(some 8), .move (.tmp 31), none⟩])
 (.seq
 (.region [⟨(some 32), .move (.tmp 8), none⟩,
⟨(some 33), .move (.tmp 8), none⟩,
⟨(some 34), .call 380 [(.tmp 33), (.const (.int .i64 0))], none⟩,
⟨(some 4), .move (.tmp 32), none⟩,
⟨(some 5), .move (.tmp 34), none⟩])
 .ret
)
)
)
)
)
)
, [.tmp 4, .tmp 5]⟩
theorem c_319 : plainFn Tryz.prog 319 = some a_319 := by kernel_rfl
-- haycroft/pages.New
noncomputable def a_320 : AFun := ⟨44,
(.seq
 (.region [⟨(some 4), .move (.const (.pointer none)), none⟩,
⟨(some 5), .move (.const (.int .i64 0)), none⟩])
 (.seq
 (.seq
 (.region [⟨(some 9), .move (.tmp 0), none⟩,
⟨(some 10), .call 119 [(.tmp 9)], none⟩,
⟨(some 11), .un .not (.tmp 10), none⟩,
⟨(some 12), .move (.tmp 11), none⟩,
⟨(some 13), .move (.tmp 1), (some (12, false))⟩,
⟨(some 14), .bin .lss (.tmp 13) (.const (.int .i64 2)), (some (12, false))⟩,
⟨(some 15), .pick (.tmp 12) (.const (.bool true)) (.tmp 14), none⟩,
⟨(some 16), .move (.tmp 15), none⟩,
⟨(some 17), .move (.tmp 1), (some (16, false))⟩,
⟨(some 18), .bin .gtr (.tmp 17) (.const (.int .i64 8)), (some (16, false))⟩,
⟨(some 19), .pick (.tmp 16) (.const (.bool true)) (.tmp 18), none⟩])
 (.cond (.tmp 19)
 (.seq
 (.region [⟨(some 4), .move (.const (.pointer none)), none⟩,
⟨(some 5), .move (.const (.int .i64 1)), none⟩])
 .ret
)
 .skip
)
)
 (.seq
 (.region [⟨(some 21), .move (.tmp 1), none⟩,
⟨(some 22), .move (.tmp 0), none⟩,
⟨(some 23), .call 134 [(.tmp 22)], none⟩,
⟨(some 24), .bin .mul (.tmp 21) (.tmp 23), none⟩,
⟨(some 25), .call 325 [(.tmp 24)], none⟩,
⟨(some 20), .move (.tmp 25), none⟩,
⟨(some 26), .extract (.tmp 20) 0, none⟩,
⟨(some 27), .extract (.tmp 20) 1, none⟩,
⟨(some 6), .move (.tmp 26), none⟩,
⟨(some 7), .move (.tmp 27), none⟩])
 (.seq
 (.seq
 (.region [⟨(some 28), .move (.tmp 7), none⟩,
⟨(some 29), .bin .neq (.tmp 28) (.const (.int .i64 0)), none⟩])
 (.cond (.tmp 29)
 (.seq
 (.region [⟨(some 30), .move (.tmp 7), none⟩,
⟨(some 4), .move (.const (.pointer none)), none⟩,
⟨(some 5), .move (.tmp 30), none⟩])
 .ret
)
 .skip
)
)
 (.seq
 (.region [⟨(some 32), .move (.tmp 1), none⟩,
⟨(some 33), .call 325 [(.tmp 32)], none⟩,
⟨(some 31), .move (.tmp 33), none⟩,
⟨(some 34), .extract (.tmp 31) 0, none⟩,
⟨(some 35), .extract (.tmp 31) 1, none⟩,
⟨(some 8), .move (.tmp 34), none⟩,
⟨(some 7), .move (.tmp 35), none⟩])
 (.seq
 (.seq
 (.region [⟨(some 36), .move (.tmp 7), none⟩,
⟨(some 37), .bin .neq (.tmp 36) (.const (.int .i64 0)), none⟩])
 (.cond (.tmp 37)
 (.seq
 (.region [⟨(some 38), .move (.tmp 7), none⟩,
⟨(some 4), .move (.const (.pointer none)), none⟩,
⟨(some 5), .move (.tmp 38), none⟩])
 .ret
)
 .skip
)
)
 (.seq
 (.region [⟨(some 39), .move (.tmp 0), none⟩,
⟨(some 40), .move (.tmp 6), none⟩,
⟨(some 41), .move (.tmp 8), none⟩,
⟨(some 42), .build #[(.int .i64 0), (.pointer none), (.pointer none)] #[(0, 1), (1, 1), (2, 1)] [(0, (.tmp 39)), (1, (.tmp 40)), (2, (.tmp 41))], none⟩,
⟨(some 43), .box 303 (.tmp 42), none⟩,
⟨(some 4), .move (.tmp 43), none⟩,
⟨(some 5), .move (.const (.int .i64 0)), none⟩])
 .ret
)
)
)
)
)
)
)
, [.tmp 4, .tmp 5]⟩
theorem c_320 : plainFn Tryz.prog 320 = some a_320 := by kernel_rfl
-- haycroft/epoch.New
noncomputable def a_321 : AFun := ⟨26,
(.seq
 (.region [⟨(some 2), .move (.const (.pointer none)), none⟩,
⟨(some 3), .move (.const (.int .i64 0)), none⟩])
 (.seq
 (.seq
 (.region [⟨(some 6), .move (.tmp 0), none⟩,
⟨(some 7), .bin .lss (.tmp 6) (.const (.int .i64 1)), none⟩,
⟨(some 8), .move (.tmp 7), none⟩,
⟨(some 9), .move (.tmp 0), (some (8, false))⟩,
⟨(some 10), .bin .gtr (.tmp 9) (.const (.int .i64 8)), (some (8, false))⟩,
⟨(some 11), .pick (.tmp 8) (.const (.bool true)) (.tmp 10), none⟩])
 (.cond (.tmp 11)
 (.seq
 (.region [⟨(some 2), .move (.const (.pointer none)), none⟩,
⟨(some 3), .move (.const (.int .i64 1)), none⟩])
 .ret
)
 .skip
)
)
 (.seq
 (.region [⟨(some 13), .move (.tmp 0), none⟩,
⟨(some 14), .bin .add (.const (.int .i64 1)) (.tmp 13), none⟩,
⟨(some 15), .call 325 [(.tmp 14)], none⟩,
⟨(some 12), .move (.tmp 15), none⟩,
⟨(some 16), .extract (.tmp 12) 0, none⟩,
⟨(some 17), .extract (.tmp 12) 1, none⟩,
⟨(some 4), .move (.tmp 16), none⟩,
⟨(some 5), .move (.tmp 17), none⟩])
 (.seq
 (.seq
 (.region [⟨(some 18), .move (.tmp 5), none⟩,
⟨(some 19), .bin .neq (.tmp 18) (.const (.int .i64 0)), none⟩])
 (.cond (.tmp 19)
 (.seq
 (.region [⟨(some 20), .move (.tmp 5), none⟩,
⟨(some 2), .move (.const (.pointer none)), none⟩,
⟨(some 3), .move (.tmp 20), none⟩])
 .ret
)
 .skip
)
)
 (.seq
 (.region [⟨(some 21), .move (.tmp 4), none⟩,
⟨(some 22), .call 273 [(.tmp 21), (.const (.int .i64 0)), (.const (.int .u64 1))], none⟩])
 (.seq
 (.region [⟨(some 23), .move (.tmp 4), none⟩,
⟨(some 24), .build #[(.pointer none)] #[(0, 1)] [(0, (.tmp 23))], none⟩,
⟨(some 25), .box 280 (.tmp 24), none⟩,
⟨(some 2), .move (.tmp 25), none⟩,
⟨(some 3), .move (.const (.int .i64 0)), none⟩])
 .ret
)
)
)
)
)
)
, [.tmp 2, .tmp 3]⟩
theorem c_321 : plainFn Tryz.prog 321 = some a_321 := by kernel_rfl
-- haycroft/marks.New
noncomputable def a_322 : AFun := ⟨10,
(.seq
 (.region [⟨(some 0), .move (.const (.pointer none)), none⟩])
 (.seq
 (.region [⟨(some 4), .call 325 [(.const (.int .i64 5))], none⟩,
⟨(some 3), .move (.tmp 4), none⟩,
⟨(some 5), .extract (.tmp 3) 0, none⟩,
⟨(some 6), .extract (.tmp 3) 1, none⟩,
⟨(some 1), .move (.tmp 5), none⟩,
⟨(some 2), .move (.tmp 6), none⟩])
 (.seq
 (.region [⟨(some 7), .move (.tmp 1), none⟩,
⟨(some 8), .build #[(.pointer none)] #[(0, 1)] [(0, (.tmp 7))], none⟩,
⟨(some 9), .box 300 (.tmp 8), none⟩,
⟨(some 0), .move (.tmp 9), none⟩])
 .ret
)
)
)
, [.tmp 0]⟩
theorem c_322 : plainFn Tryz.prog 322 = some a_322 := by kernel_rfl
-- haycroft/drain.New
noncomputable def a_323 : AFun := ⟨3,
(.seq
 (.region [⟨(some 0), .move (.const (.pointer none)), none⟩])
 (.seq
 (.region [⟨(some 1), .build #[(.slice none 0 0)] #[(0, 1)] [], none⟩,
⟨(some 2), .box 388 (.tmp 1), none⟩,
⟨(some 0), .move (.tmp 2), none⟩])
 .ret
)
)
, [.tmp 0]⟩
theorem c_323 : plainFn Tryz.prog 323 = some a_323 := by kernel_rfl
-- (*haycroft/pages.Buffer).Open
noncomputable def a_324 : AFun := ⟨50,
(.seq
 (.region [⟨(some 4), .move (.const (.int .i64 0)), none⟩])
 (.seq
 (.block 0
 (.seq
 (.region [⟨(some 10), .move (.tmp 0), none⟩,
⟨(some 11), .eq false .pointer (.tmp 10) (.const (.pointer none)), none⟩,
⟨(some 9), .move (.tmp 11), none⟩])
 (.cond (.tmp 9)
 (.seq
 (.region [⟨(some 4), .move (.const (.int .i64 2)), none⟩])
 .ret
)
 (.seq
 (.region [⟨(some 13), .move (.tmp 1), none⟩,
⟨(some 14), .bin .lss (.tmp 13) (.const (.int .i64 0)), none⟩,
⟨(some 12), .move (.tmp 14), none⟩])
 (.cond (.tmp 12)
 (.seq
 (.region [⟨(some 4), .move (.const (.int .i64 1)), none⟩])
 .ret
)
 (.seq
 (.region [⟨(some 16), .move (.tmp 0), none⟩,
⟨(some 17), .move (.tmp 1), none⟩,
⟨(some 18), .call 197 [(.tmp 16), (.tmp 17)], none⟩,
⟨(some 15), .move (.tmp 18), none⟩])
 (.cond (.tmp 15)
 (.seq
 (.region [⟨(some 4), .move (.const (.int .i64 8)), none⟩])
 .ret
)
 .skip
)
)
)
)
)
)
)
 (.seq
 (.region [⟨(some 19), .move (.tmp 0), none⟩,
⟨(some 20), .move (.tmp 1), none⟩,
⟨(some 21), .call 199 [(.tmp 19), (.tmp 20)], none⟩,
⟨(some 5), .move (.tmp 21), none⟩])
 (.seq
 (.draw [⟨(some 23), .move (.tmp 0), none⟩,
⟨(some 24), .nilCheck (.tmp 23), none⟩,
⟨(some 25), .off 2 (.tmp 24), none⟩,
⟨(some 26), .load (.tmp 25), none⟩,
⟨(some 27), .move (.tmp 5), none⟩,
⟨(some 28), .move (.tmp 1), none⟩,
⟨(some 29), .call 288 [(.tmp 28)], none⟩,
⟨(some 30), .call 383 [(.tmp 26), (.tmp 27), (.const (.int .u64 0)), (.tmp 29)], none⟩,
⟨(some 22), .move (.tmp 30), none⟩,
⟨(some 31), .extract (.tmp 22) 0, none⟩,
⟨(some 32), .extract (.tmp 22) 1, none⟩,
⟨(some 6), .move (.tmp 31), none⟩,
⟨(some 7), .move (.tmp 32), none⟩] [[], [], [], [6], [], [], [], [], [], [], [], [], []])
 (.seq
 (.seq
 (.region [⟨(some 33), .move (.tmp 6), none⟩,
⟨(some 34), .un .not (.tmp 33), none⟩])
 (.cond (.tmp 34)
 (.seq
 (.region [⟨(some 4), .move (.const (.int .i64 10)), none⟩])
 .ret
)
 .skip
)
)
 (.seq
 (.region [⟨(some 35), .move (.tmp 0), none⟩,
⟨(some 36), .nilCheck (.tmp 35), none⟩,
⟨(some 37), .off 0 (.tmp 36), none⟩,
⟨(some 38), .load (.tmp 37), none⟩,
⟨(some 39), .call 134 [(.tmp 38)], none⟩,
⟨(some 8), .move (.tmp 39), none⟩])
 (.seq
 (.draw [⟨(some 40), .move (.tmp 0), none⟩,
⟨(some 41), .nilCheck (.tmp 40), none⟩,
⟨(some 42), .off 1 (.tmp 41), none⟩,
⟨(some 43), .load (.tmp 42), none⟩,
⟨(some 44), .move (.tmp 5), none⟩,
⟨(some 45), .move (.tmp 8), none⟩,
⟨(some 46), .bin .mul (.tmp 44) (.tmp 45), none⟩,
⟨(some 47), .move (.tmp 8), none⟩,
⟨(some 48), .makeSlice 24 1 8 #[(.int .u64 0)] (.tmp 47) (.tmp 47), none⟩,
⟨(some 49), .call 372 [(.tmp 43), (.tmp 46), (.tmp 48)], none⟩,
⟨(some 4), .move (.tmp 49), none⟩] [[], [], [], [], [], [], [], [], [], [], []])
 .ret
)
)
)
)
)
)
)
, [.tmp 4]⟩
theorem c_324 : plainFn Tryz.prog 324 = some a_324 := by kernel_rfl
-- haycroft/cell.New
noncomputable def a_325 : AFun := ⟨14,
(.seq
 (.region [⟨(some 2), .move (.const (.pointer none)), none⟩,
⟨(some 3), .move (.const (.int .i64 0)), none⟩])
 (.seq
 (.seq
 (.region [⟨(some 4), .move (.tmp 0), none⟩,
⟨(some 5), .bin .lss (.tmp 4) (.const (.int .i64 1)), none⟩,
⟨(some 6), .move (.tmp 5), none⟩,
⟨(some 7), .move (.tmp 0), (some (6, false))⟩,
⟨(some 8), .bin .gtr (.tmp 7) (.const (.int .i64 65536)), (some (6, false))⟩,
⟨(some 9), .pick (.tmp 6) (.const (.bool true)) (.tmp 8), none⟩])
 (.cond (.tmp 9)
 (.seq
 (.region [⟨(some 2), .move (.const (.pointer none)), none⟩,
⟨(some 3), .move (.const (.int .i64 1)), none⟩])
 .ret
)
 .skip
)
)
 (.seq
 (.region [⟨(some 10), .move (.tmp 0), none⟩,
⟨(some 11), .makeSlice 365 1 8 #[(.int .u64 0)] (.tmp 10) (.tmp 10), none⟩,
⟨(some 12), .build #[(.slice none 0 0), (.int .i64 0), (.int .i64 0)] #[(0, 1), (1, 1), (2, 1)] [(0, (.tmp 11))], none⟩,
⟨(some 13), .box 370 (.tmp 12), none⟩,
⟨(some 2), .move (.tmp 13), none⟩,
⟨(some 3), .move (.const (.int .i64 0)), none⟩])
 .ret
)
)
)
, [.tmp 2, .tmp 3]⟩
theorem c_325 : plainFn Tryz.prog 325 = some a_325 := by kernel_rfl
-- haycroft/field.Join
noncomputable def a_334 : AFun := ⟨49,
(.seq
 (.region [⟨(some 4), .move (.const (.int .u64 0)), none⟩,
⟨(some 5), .move (.const (.int .i64 0)), none⟩])
 (.seq
 (.seq
 (.region [⟨(some 12), .move (.tmp 0), none⟩,
⟨(some 13), .lenSl (.tmp 12), none⟩,
⟨(some 14), .move (.tmp 1), none⟩,
⟨(some 15), .lenSl (.tmp 14), none⟩,
⟨(some 16), .bin .neq (.tmp 13) (.tmp 15), none⟩,
⟨(some 17), .move (.tmp 16), none⟩,
⟨(some 18), .move (.tmp 1), (some (17, false))⟩,
⟨(some 19), .call 404 [(.tmp 18)], (some (17, false))⟩,
⟨(some 20), .un .not (.tmp 19), (some (17, false))⟩,
⟨(some 21), .pick (.tmp 17) (.const (.bool true)) (.tmp 20), none⟩])
 (.cond (.tmp 21)
 (.seq
 (.region [⟨(some 4), .move (.const (.int .u64 0)), none⟩,
⟨(some 5), .move (.const (.int .i64 1)), none⟩])
 .ret
)
 .skip
)
)
 (.seq
 (.region [⟨(some 6), .move (.const (.int .u64 0)), none⟩])
 (.seq
 (.region [⟨(some 7), .move (.const (.int .i64 0)), none⟩])
 (.seq
 (.seq
 (.region [⟨(some 22), .move (.tmp 1), none⟩,
⟨(some 23), .lenSl (.tmp 22), none⟩,
⟨(some 24), .move (.const (.int .i64 0)), none⟩])
 (.block 0
 (.loop none
 (.seq
 (.region [⟨(some 25), .bin .lss (.tmp 24) (.tmp 23), none⟩])
 (.seq
 (.cond (.tmp 25)
 .skip
 (.exit 0)
)
 (.seq
 (.block 1
 (.seq
 (.region [⟨(some 26), .move (.tmp 24), none⟩,
⟨(some 27), .ixSl 1 (.tmp 22) (.tmp 24), none⟩,
⟨(some 28), .load (.tmp 27), none⟩,
⟨(some 8), .move (.tmp 26), none⟩,
⟨(some 9), .move (.tmp 28), none⟩])
 (.seq
 (.region [⟨(some 30), .move (.tmp 6), none⟩,
⟨(some 31), .move (.tmp 7), none⟩,
⟨(some 32), .move (.tmp 9), none⟩,
⟨(some 33), .move (.tmp 0), none⟩,
⟨(some 34), .move (.tmp 8), none⟩,
⟨(some 35), .ixSl 1 (.tmp 33) (.tmp 34), none⟩,
⟨(some 36), .load (.tmp 35), none⟩,
⟨(some 37), .call 405 [(.tmp 30), (.tmp 31), (.tmp 32), (.tmp 36)], none⟩,
⟨(some 29), .move (.tmp 37), none⟩,
⟨(some 38), .extract (.tmp 29) 0, none⟩,
⟨(some 39), .extract (.tmp 29) 1, none⟩,
⟨(some 10), .move (.tmp 38), none⟩,
⟨(some 11), .move (.tmp 39), none⟩])
 (.seq
 (.seq
 (.region [⟨(some 40), .move (.tmp 11), none⟩,
⟨(some 41), .bin .neq (.tmp 40) (.const (.int .i64 0)), none⟩])
 (.cond (.tmp 41)
 (.seq
 (.region [⟨(some 42), .move (.tmp 11), none⟩,
⟨(some 4), .move (.const (.int .u64 0)), none⟩,
⟨(some 5), .move (.tmp 42), none⟩])
 .ret
)
 .skip
)
)
 (.seq
 (.region [⟨(some 43), .move (.tmp 10), none⟩,
⟨(some 6), .move (.tmp 43), none⟩])
 (.region [⟨(some 44), .move (.tmp 7), none⟩,
⟨(some 45), .move (.tmp 9), none⟩,
⟨(some 46), .bin .add (.tmp 44) (.tmp 45), none⟩,
⟨(some 7), .move (.tmp 46), none⟩])
)
)
)
)
)
 (.region [⟨(some 47), .bin .add (.tmp 24) (.const (.int .i64 1)), none⟩,
⟨(some 24), .move (.tmp 47), none⟩])
)
)
)
)
)
)
 (.seq
 (.region [⟨(some 48), .move (.tmp 6), none⟩,
⟨(some 4), .move (.tmp 48), none⟩,
⟨(some 5), .move (.const (.int .i64 0)), none⟩])
 .ret
)
)
)
)
)
)
, [.tmp 4, .tmp 5]⟩
theorem c_334 : plainFn Tryz.prog 334 = some a_334 := by kernel_rfl
-- haycroft/header.bit
noncomputable def a_335 : AFun := ⟨4,
(.seq
 (.region [⟨(some 2), .move (.const (.int .u64 0)), none⟩])
 (.seq
 (.seq
 (.region [⟨(some 3), .move (.tmp 0), none⟩])
 (.cond (.tmp 3)
 (.seq
 (.region [⟨(some 2), .move (.const (.int .u64 1)), none⟩])
 .ret
)
 .skip
)
)
 (.seq
 (.region [⟨(some 2), .move (.const (.int .u64 0)), none⟩])
 .ret
)
)
)
, [.tmp 2]⟩
theorem c_335 : plainFn Tryz.prog 335 = some a_335 := by kernel_rfl
-- (*haycroft/task.Task).missing
noncomputable def a_354 : AFun := ⟨48,
(.seq
 (.region [⟨(some 3), .box 160 (.tmp 1), none⟩,
⟨(some 4), .move (.const (.int .i64 0)), none⟩,
⟨(some 5), .move (.const (.int .i64 0)), none⟩])
 (.seq
 (.seq
 (.region [⟨(some 6), .move (.tmp 0), none⟩,
⟨(some 7), .call 278 [(.tmp 6), (.const (.int .i64 1))], none⟩,
⟨(some 8), .move (.tmp 7), none⟩,
⟨(some 9), .move (.tmp 0), (some (8, false))⟩,
⟨(some 10), .call 278 [(.tmp 9), (.const (.int .i64 4))], (some (8, false))⟩,
⟨(some 11), .pick (.tmp 8) (.const (.bool true)) (.tmp 10), none⟩])
 (.cond (.tmp 11)
 (.seq
 (.region [⟨(some 12), .move (.tmp 0), none⟩,
⟨(some 13), .call 355 [(.tmp 12)], none⟩,
⟨(some 14), .extract (.tmp 13) 0, none⟩,
⟨(some 15), .extract (.tmp 13) 1, none⟩,
⟨(some 4), .move (.tmp 14), none⟩,
⟨(some 5), .move (.tmp 15), none⟩])
 .ret
)
 .skip
)
)
 (.seq
 (.draw [⟨(some 16), .move (.tmp 0), none⟩,
⟨(some 17), .move (.tmp 0), none⟩,
⟨(some 18), .off 1 (.tmp 3), none⟩,
⟨(some 19), .load (.tmp 18), none⟩,
⟨(some 20), .off 3 (.tmp 3), none⟩,
⟨(some 21), .load (.tmp 20), none⟩,
⟨(some 22), .nilCheck (.tmp 16), none⟩,
⟨(some 23), .off 9 (.tmp 22), none⟩,
⟨none, .store 1 (.tmp 23) (.tmp 19), none⟩,
⟨(some 24), .nilCheck (.tmp 17), none⟩,
⟨(some 25), .off 11 (.tmp 24), none⟩,
⟨none, .store 1 (.tmp 25) (.tmp 21), none⟩] [[], [], [], [], [], [8], [], [], [], [], [], []])
 (.seq
 (.block 0
 (.seq
 (.region [⟨(some 27), .off 0 (.tmp 3), none⟩,
⟨(some 28), .load (.tmp 27), none⟩,
⟨(some 29), .bin .eql (.tmp 28) (.const (.int .i64 2)), none⟩,
⟨(some 26), .move (.tmp 29), none⟩])
 (.cond (.tmp 26)
 (.seq
 (.region [⟨(some 30), .move (.tmp 0), none⟩,
⟨(some 31), .call 280 [(.tmp 30), (.func 412)], none⟩,
⟨(some 32), .extract (.tmp 31) 0, none⟩,
⟨(some 33), .extract (.tmp 31) 1, none⟩,
⟨(some 4), .move (.tmp 32), none⟩,
⟨(some 5), .move (.tmp 33), none⟩])
 .ret
)
 (.seq
 (.region [⟨(some 35), .move (.tmp 0), none⟩,
⟨(some 36), .nilCheck (.tmp 35), none⟩,
⟨(some 37), .off 12 (.tmp 36), none⟩,
⟨(some 38), .load (.tmp 37), none⟩,
⟨(some 39), .bin .gtr (.tmp 38) (.const (.int .i64 0)), none⟩,
⟨(some 34), .move (.tmp 39), none⟩])
 (.cond (.tmp 34)
 (.seq
 (.region [⟨(some 40), .move (.tmp 0), none⟩,
⟨(some 41), .call 280 [(.tmp 40), (.func 413)], none⟩,
⟨(some 42), .extract (.tmp 41) 0, none⟩,
⟨(some 43), .extract (.tmp 41) 1, none⟩,
⟨(some 4), .move (.tmp 42), none⟩,
⟨(some 5), .move (.tmp 43), none⟩])
 .ret
)
 .skip
)
)
)
)
)
 (.seq
 (.region [⟨(some 44), .move (.tmp 0), none⟩,
⟨(some 45), .call 280 [(.tmp 44), (.func 414)], none⟩,
⟨(some 46), .extract (.tmp 45) 0, none⟩,
⟨(some 47), .extract (.tmp 45) 1, none⟩,
⟨(some 4), .move (.tmp 46), none⟩,
⟨(some 5), .move (.tmp 47), none⟩])
 .ret
)
)
)
)
)
, [.tmp 4, .tmp 5]⟩
theorem c_354 : plainFn Tryz.prog 354 = some a_354 := by kernel_rfl
-- (*haycroft/task.Task).absent
noncomputable def a_355 : AFun := ⟨28,
(.seq
 (.region [⟨(some 2), .move (.const (.int .i64 0)), none⟩,
⟨(some 3), .move (.const (.int .i64 0)), none⟩])
 (.seq
 (.seq
 (.region [⟨(some 4), .move (.tmp 0), none⟩,
⟨(some 5), .nilCheck (.tmp 4), none⟩,
⟨(some 6), .off 3 (.tmp 5), none⟩,
⟨(some 7), .off 0 (.tmp 6), none⟩,
⟨(some 8), .load (.tmp 7), none⟩])
 (.block 0
 (.seq
 (.region [⟨(some 10), .bin .eql (.tmp 8) (.const (.int .i64 1)), none⟩,
⟨(some 9), .move (.tmp 10), none⟩])
 (.cond (.tmp 9)
 (.seq
 (.region [⟨(some 11), .move (.tmp 0), none⟩,
⟨(some 12), .call 279 [(.tmp 11), (.const (.int .i64 7)), (.const (.string (strB [])))], none⟩,
⟨(some 13), .extract (.tmp 12) 0, none⟩,
⟨(some 14), .extract (.tmp 12) 1, none⟩,
⟨(some 2), .move (.tmp 13), none⟩,
⟨(some 3), .move (.tmp 14), none⟩])
 .ret
)
 (.seq
 (.region [⟨(some 16), .bin .eql (.tmp 8) (.const (.int .i64 4)), none⟩,
⟨(some 15), .move (.tmp 16), none⟩])
 (.cond (.tmp 15)
 (.seq
 (.region [⟨(some 17), .move (.tmp 0), none⟩,
⟨(some 18), .call 279 [(.tmp 17), (.const (.int .i64 0)), (.const (.string (strB [])))], none⟩,
⟨(some 19), .extract (.tmp 18) 0, none⟩,
⟨(some 20), .extract (.tmp 18) 1, none⟩,
⟨(some 2), .move (.tmp 19), none⟩,
⟨(some 3), .move (.tmp 20), none⟩])
 .ret
)
 .skip
)
)
)
)
)
)
 (.seq
 (.region [⟨(some 21), .move (.tmp 0), none⟩,
⟨(some 22), .nilCheck (.tmp 21), none⟩,
⟨(some 23), .off 16 (.tmp 22), none⟩,
⟨none, .store 1 (.tmp 23) (.const (.string (strB []))), none⟩])
 (.seq
 (.region [⟨(some 24), .move (.tmp 0), none⟩,
⟨(some 25), .call 280 [(.tmp 24), (.func 281)], none⟩,
⟨(some 26), .extract (.tmp 25) 0, none⟩,
⟨(some 27), .extract (.tmp 25) 1, none⟩,
⟨(some 2), .move (.tmp 26), none⟩,
⟨(some 3), .move (.tmp 27), none⟩])
 .ret
)
)
)
)
, [.tmp 2, .tmp 3]⟩
theorem c_355 : plainFn Tryz.prog 355 = some a_355 := by kernel_rfl
-- (*haycroft/cell.Row).may
noncomputable def a_357 : AFun := ⟨13,
(.seq
 (.region [⟨(some 4), .move (.const (.int .i64 0)), none⟩])
 (.seq
 (.block 0
 (.seq
 (.region [⟨(some 6), .move (.tmp 0), none⟩,
⟨(some 7), .eq false .pointer (.tmp 6) (.const (.pointer none)), none⟩,
⟨(some 5), .move (.tmp 7), none⟩])
 (.cond (.tmp 5)
 (.seq
 (.region [⟨(some 4), .move (.const (.int .i64 2)), none⟩])
 .ret
)
 (.seq
 (.region [⟨(some 9), .move (.tmp 0), none⟩,
⟨(some 10), .move (.tmp 1), none⟩,
⟨(some 11), .call 254 [(.tmp 9), (.tmp 10)], none⟩,
⟨(some 12), .un .not (.tmp 11), none⟩,
⟨(some 8), .move (.tmp 12), none⟩])
 (.cond (.tmp 8)
 (.seq
 (.region [⟨(some 4), .move (.const (.int .i64 1)), none⟩])
 .ret
)
 .skip
)
)
)
)
)
 (.seq
 (.region [⟨(some 4), .move (.const (.int .i64 0)), none⟩])
 .ret
)
)
)
, [.tmp 4]⟩
theorem c_357 : plainFn Tryz.prog 357 = some a_357 := by kernel_rfl
-- (*sync/atomic.Uint64).Store
noncomputable def a_358 : AFun := ⟨9,
(.region [⟨(some 4), .move (.tmp 0), none⟩,
⟨(some 5), .nilCheck (.tmp 4), none⟩,
⟨(some 6), .off 0 (.tmp 5), none⟩,
⟨(some 7), .move (.tmp 1), none⟩,
⟨(some 8), .astore (.tmp 6) (.tmp 7), none⟩])
, []⟩
theorem c_358 : plainFn Tryz.prog 358 = some a_358 := by kernel_rfl
-- (*haycroft/task.Task).record
noncomputable def a_359 : AFun := ⟨44,
(.seq
 (.region [⟨(some 2), .new 67 #[(.int .u64 0), (.bool false), (.bool false), (.string (strB [])), (.string (strB []))], none⟩])
 (.seq
 (.draw [⟨(some 4), .move (.tmp 0), none⟩,
⟨(some 5), .nilCheck (.tmp 4), none⟩,
⟨(some 6), .off 14 (.tmp 5), none⟩,
⟨(some 7), .load (.tmp 6), none⟩,
⟨(some 8), .build #[(.int .u64 0), (.bool false), (.bool false)] #[(0, 1), (1, 1), (2, 1)] [(0, (.tmp 7))], none⟩,
⟨(some 9), .move (.tmp 0), none⟩,
⟨(some 10), .nilCheck (.tmp 9), none⟩,
⟨(some 11), .off 3 (.tmp 10), none⟩,
⟨(some 12), .off 1 (.tmp 11), none⟩,
⟨(some 13), .load (.tmp 12), none⟩,
⟨(some 14), .build #[(.int .u64 0), (.bool false), (.bool false), (.string (strB [])), (.string (strB []))] #[(0, 3), (3, 1), (4, 1)] [(0, (.tmp 8)), (1, (.tmp 13))], none⟩,
⟨(some 3), .new 67 #[(.int .u64 0), (.bool false), (.bool false), (.string (strB [])), (.string (strB []))], none⟩,
⟨none, .store 5 (.tmp 3) (.tmp 14), none⟩] [[], [], [], [], [], [], [], [], [], [], [], [], []])
 (.seq
 (.seq
 (.region [⟨(some 15), .move (.tmp 0), none⟩,
⟨(some 16), .nilCheck (.tmp 15), none⟩,
⟨(some 17), .off 3 (.tmp 16), none⟩,
⟨(some 18), .off 0 (.tmp 17), none⟩,
⟨(some 19), .load (.tmp 18), none⟩])
 (.block 0
 (.seq
 (.region [⟨(some 23), .bin .eql (.tmp 19) (.const (.int .i64 2)), none⟩,
⟨(some 22), .move (.tmp 23), none⟩])
 (.cond (.tmp 22)
 (.region [⟨(some 24), .move (.tmp 0), none⟩,
⟨(some 25), .nilCheck (.tmp 24), none⟩,
⟨(some 26), .off 3 (.tmp 25), none⟩,
⟨(some 27), .off 2 (.tmp 26), none⟩,
⟨(some 28), .load (.tmp 27), none⟩,
⟨(some 29), .off 4 (.tmp 3), none⟩,
⟨none, .store 1 (.tmp 29) (.tmp 28), none⟩])
 (.seq
 (.region [⟨(some 31), .bin .eql (.tmp 19) (.const (.int .i64 3)), none⟩,
⟨(some 30), .move (.tmp 31), none⟩])
 (.cond (.tmp 30)
 (.draw [⟨(some 32), .move (.tmp 0), none⟩,
⟨(some 33), .nilCheck (.tmp 32), none⟩,
⟨(some 34), .off 16 (.tmp 33), none⟩,
⟨(some 35), .load (.tmp 34), none⟩,
⟨(some 36), .move (.tmp 0), none⟩,
⟨(some 37), .nilCheck (.tmp 36), none⟩,
⟨(some 38), .off 3 (.tmp 37), none⟩,
⟨(some 39), .off 3 (.tmp 38), none⟩,
⟨(some 40), .load (.tmp 39), none⟩,
⟨(some 41), .call 418 [(.tmp 35), (.tmp 40)], none⟩,
⟨(some 42), .off 4 (.tmp 3), none⟩,
⟨none, .store 1 (.tmp 42) (.tmp 41), none⟩] [[], [], [], [], [], [], [], [], [], [], [], []])
 (.region [⟨(some 20), .off 0 (.tmp 3), none⟩,
⟨(some 21), .off 1 (.tmp 20), none⟩,
⟨none, .store 1 (.tmp 21) (.const (.bool true)), none⟩])
)
)
)
)
)
)
 (.seq
 (.region [⟨(some 43), .loadN 5 (.tmp 3), none⟩,
⟨none, .store 5 (.tmp 2) (.tmp 43), none⟩])
 .ret
)
)
)
)
, [.cell 2 (some 5)]⟩
theorem c_359 : plainFn Tryz.prog 359 = some a_359 := by kernel_rfl
-- (*haycroft/hlog.Log).Take
noncomputable def a_360 : AFun := ⟨18,
(.seq
 (.region [⟨(some 4), .move (.const (.int .u64 0)), none⟩,
⟨(some 5), .move (.const (.int .i64 0)), none⟩,
⟨(some 6), .move (.const (.int .i64 0)), none⟩])
 (.seq
 (.seq
 (.region [⟨(some 7), .move (.tmp 0), none⟩,
⟨(some 8), .eq false .pointer (.tmp 7) (.const (.pointer none)), none⟩])
 (.cond (.tmp 8)
 (.seq
 (.region [⟨(some 4), .move (.const (.int .u64 0)), none⟩,
⟨(some 5), .move (.const (.int .i64 0)), none⟩,
⟨(some 6), .move (.const (.int .i64 2)), none⟩])
 .ret
)
 .skip
)
)
 (.seq
 (.region [⟨(some 9), .move (.tmp 0), none⟩,
⟨(some 10), .nilCheck (.tmp 9), none⟩,
⟨(some 11), .off 0 (.tmp 10), none⟩,
⟨(some 12), .load (.tmp 11), none⟩,
⟨(some 13), .move (.tmp 1), none⟩,
⟨(some 14), .call 419 [(.tmp 12), (.tmp 13)], none⟩,
⟨(some 15), .extract (.tmp 14) 0, none⟩,
⟨(some 16), .extract (.tmp 14) 1, none⟩,
⟨(some 17), .extract (.tmp 14) 2, none⟩,
⟨(some 4), .move (.tmp 15), none⟩,
⟨(some 5), .move (.tmp 16), none⟩,
⟨(some 6), .move (.tmp 17), none⟩])
 .ret
)
)
)
, [.tmp 4, .tmp 5, .tmp 6]⟩
theorem c_360 : plainFn Tryz.prog 360 = some a_360 := by kernel_rfl
-- (*haycroft/task.Task).fill
noncomputable def a_361 : AFun := ⟨40,
(.seq
 (.region [⟨(some 2), .move (.const (.int .i64 0)), none⟩,
⟨(some 3), .move (.const (.int .i64 0)), none⟩])
 (.seq
 (.region [⟨(some 8), .move (.tmp 0), none⟩,
⟨(some 9), .call 359 [(.tmp 8)], none⟩,
⟨(some 10), .call 420 [(.tmp 9)], none⟩,
⟨(some 7), .move (.tmp 10), none⟩,
⟨(some 11), .extract (.tmp 7) 0, none⟩,
⟨(some 12), .extract (.tmp 7) 1, none⟩,
⟨(some 4), .move (.tmp 11), none⟩,
⟨(some 5), .move (.tmp 12), none⟩])
 (.seq
 (.seq
 (.region [⟨(some 13), .move (.tmp 5), none⟩,
⟨(some 14), .bin .neq (.tmp 13) (.const (.int .i64 0)), none⟩])
 (.cond (.tmp 14)
 (.seq
 (.region [⟨(some 15), .move (.tmp 5), none⟩,
⟨(some 16), .call 182 [(.tmp 15)], none⟩,
⟨(some 17), .extract (.tmp 16) 0, none⟩,
⟨(some 18), .extract (.tmp 16) 1, none⟩,
⟨(some 2), .move (.tmp 17), none⟩,
⟨(some 3), .move (.tmp 18), none⟩])
 .ret
)
 .skip
)
)
 (.seq
 (.seq
 (.draw [⟨(some 19), .move (.tmp 0), none⟩,
⟨(some 20), .nilCheck (.tmp 19), none⟩,
⟨(some 21), .off 0 (.tmp 20), none⟩,
⟨(some 22), .load (.tmp 21), none⟩,
⟨(some 23), .call 131 [(.tmp 22)], none⟩,
⟨(some 24), .move (.tmp 0), none⟩,
⟨(some 25), .nilCheck (.tmp 24), none⟩,
⟨(some 26), .off 15 (.tmp 25), none⟩,
⟨(some 27), .load (.tmp 26), none⟩,
⟨(some 28), .move (.tmp 4), none⟩,
⟨(some 29), .call 421 [(.tmp 23), (.tmp 27), (.tmp 28)], none⟩,
⟨(some 6), .move (.tmp 29), none⟩] [[], [], [], [], [], [], [], [], [4], [], [], []])
 (.seq
 (.region [⟨(some 30), .move (.tmp 6), none⟩,
⟨(some 31), .bin .neq (.tmp 30) (.const (.int .i64 0)), none⟩])
 (.cond (.tmp 31)
 (.seq
 (.region [⟨(some 32), .move (.tmp 6), none⟩,
⟨(some 33), .call 182 [(.tmp 32)], none⟩,
⟨(some 34), .extract (.tmp 33) 0, none⟩,
⟨(some 35), .extract (.tmp 33) 1, none⟩,
⟨(some 2), .move (.tmp 34), none⟩,
⟨(some 3), .move (.tmp 35), none⟩])
 .ret
)
 .skip
)
)
)
 (.seq
 (.region [⟨(some 36), .move (.tmp 0), none⟩,
⟨(some 37), .call 280 [(.tmp 36), (.func 422)], none⟩,
⟨(some 38), .extract (.tmp 37) 0, none⟩,
⟨(some 39), .extract (.tmp 37) 1, none⟩,
⟨(some 2), .move (.tmp 38), none⟩,
⟨(some 3), .move (.tmp 39), none⟩])
 .ret
)
)
)
)
)
, [.tmp 2, .tmp 3]⟩
theorem c_361 : plainFn Tryz.prog 361 = some a_361 := by kernel_rfl
-- (*sync/atomic.Uint64).Add
noncomputable def a_365 : AFun := ⟨10,
(.seq
 (.region [⟨(some 4), .move (.const (.int .u64 0)), none⟩])
 (.seq
 (.region [⟨(some 5), .move (.tmp 0), none⟩,
⟨(some 6), .nilCheck (.tmp 5), none⟩,
⟨(some 7), .off 0 (.tmp 6), none⟩,
⟨(some 8), .move (.tmp 1), none⟩,
⟨(some 9), .aadd .u64 (.tmp 7) (.tmp 8), none⟩,
⟨(some 4), .move (.tmp 9), none⟩])
 .ret
)
)
, [.tmp 4]⟩
theorem c_365 : plainFn Tryz.prog 365 = some a_365 := by kernel_rfl
-- (*haycroft/cell.Row).Fill
noncomputable def a_372 : AFun := ⟨36,
(.seq
 (.region [⟨(some 6), .move (.const (.int .i64 0)), none⟩])
 (.seq
 (.seq
 (.region [⟨(some 10), .move (.tmp 0), none⟩,
⟨(some 11), .move (.tmp 1), none⟩,
⟨(some 12), .move (.tmp 2), none⟩,
⟨(some 13), .lenSl (.tmp 12), none⟩,
⟨(some 14), .call 289 [(.tmp 10), (.tmp 11), (.tmp 13)], none⟩,
⟨(some 7), .move (.tmp 14), none⟩])
 (.seq
 (.region [⟨(some 15), .move (.tmp 7), none⟩,
⟨(some 16), .bin .neq (.tmp 15) (.const (.int .i64 0)), none⟩])
 (.cond (.tmp 16)
 (.seq
 (.region [⟨(some 17), .move (.tmp 7), none⟩,
⟨(some 6), .move (.tmp 17), none⟩])
 .ret
)
 .skip
)
)
)
 (.seq
 (.seq
 (.region [⟨(some 18), .move (.tmp 2), none⟩,
⟨(some 19), .lenSl (.tmp 18), none⟩,
⟨(some 20), .move (.const (.int .i64 0)), none⟩])
 (.block 0
 (.loop none
 (.seq
 (.region [⟨(some 21), .bin .lss (.tmp 20) (.tmp 19), none⟩])
 (.seq
 (.cond (.tmp 21)
 .skip
 (.exit 0)
)
 (.seq
 (.block 1
 (.seq
 (.region [⟨(some 22), .move (.tmp 20), none⟩,
⟨(some 23), .ixSl 1 (.tmp 18) (.tmp 20), none⟩,
⟨(some 24), .load (.tmp 23), none⟩,
⟨(some 8), .move (.tmp 22), none⟩,
⟨(some 9), .move (.tmp 24), none⟩])
 (.region [⟨(some 25), .move (.tmp 0), none⟩,
⟨(some 26), .nilCheck (.tmp 25), none⟩,
⟨(some 27), .off 0 (.tmp 26), none⟩,
⟨(some 28), .load (.tmp 27), none⟩,
⟨(some 29), .move (.tmp 1), none⟩,
⟨(some 30), .move (.tmp 8), none⟩,
⟨(some 31), .bin .add (.tmp 29) (.tmp 30), none⟩,
⟨(some 32), .ixSl 1 (.tmp 28) (.tmp 31), none⟩,
⟨(some 33), .move (.tmp 9), none⟩,
⟨(some 34), .call 358 [(.tmp 32), (.tmp 33)], none⟩])
)
)
 (.region [⟨(some 35), .bin .add (.tmp 20) (.const (.int .i64 1)), none⟩,
⟨(some 20), .move (.tmp 35), none⟩])
)
)
)
)
)
)
 (.seq
 (.region [⟨(some 6), .move (.const (.int .i64 0)), none⟩])
 .ret
)
)
)
)
, [.tmp 6]⟩
theorem c_372 : plainFn Tryz.prog 372 = some a_372 := by kernel_rfl
-- slices.insertionSortCmpFunc[haycroft/api.Commit]
noncomputable def a_376 : AFun := ⟨53,
(.seq
 (.region [⟨(some 10), .move (.tmp 1), none⟩,
⟨(some 11), .bin .add (.tmp 10) (.const (.int .i64 1)), none⟩,
⟨(some 8), .move (.tmp 11), none⟩])
 (.block 0
 (.loop none
 (.seq
 (.seq
 (.region [⟨(some 12), .move (.tmp 8), none⟩,
⟨(some 13), .move (.tmp 2), none⟩,
⟨(some 14), .bin .lss (.tmp 12) (.tmp 13), none⟩])
 (.cond (.tmp 14)
 .skip
 (.exit 0)
)
)
 (.seq
 (.block 1
 (.seq
 (.region [⟨(some 17), .move (.tmp 8), none⟩,
⟨(some 9), .move (.tmp 17), none⟩])
 (.block 2
 (.loop none
 (.seq
 (.seq
 (.draw [⟨(some 18), .move (.tmp 9), none⟩,
⟨(some 19), .move (.tmp 1), none⟩,
⟨(some 20), .bin .gtr (.tmp 18) (.tmp 19), none⟩,
⟨(some 21), .move (.tmp 20), none⟩,
⟨(some 22), .move (.tmp 3), (some (21, true))⟩,
⟨(some 23), .move (.tmp 0), (some (21, true))⟩,
⟨(some 24), .move (.tmp 9), (some (21, true))⟩,
⟨(some 25), .ixSl 3 (.tmp 23) (.tmp 24), (some (21, true))⟩,
⟨(some 26), .loadN 3 (.tmp 25), (some (21, true))⟩,
⟨(some 27), .move (.tmp 0), (some (21, true))⟩,
⟨(some 28), .move (.tmp 9), (some (21, true))⟩,
⟨(some 29), .bin .sub (.tmp 28) (.const (.int .i64 1)), (some (21, true))⟩,
⟨(some 30), .ixSl 3 (.tmp 27) (.tmp 29), (some (21, true))⟩,
⟨(some 31), .loadN 3 (.tmp 30), (some (21, true))⟩,
⟨(some 32), .callV (.tmp 22) [(.tmp 26), (.tmp 31)], (some (21, true))⟩,
⟨(some 33), .bin .lss (.tmp 32) (.const (.int .i64 0)), (some (21, true))⟩,
⟨(some 34), .pick (.tmp 21) (.tmp 33) (.const (.bool false)), none⟩] [[], [], [], [], [], [], [], [], [], [], [], [], [], [], [], [], []])
 (.cond (.tmp 34)
 .skip
 (.exit 2)
)
)
 (.seq
 (.block 3
 (.draw [⟨(some 37), .move (.tmp 0), none⟩,
⟨(some 38), .move (.tmp 9), none⟩,
⟨(some 39), .move (.tmp 0), none⟩,
⟨(some 40), .move (.tmp 9), none⟩,
⟨(some 41), .bin .sub (.tmp 40) (.const (.int .i64 1)), none⟩,
⟨(some 42), .move (.tmp 0), none⟩,
⟨(some 43), .move (.tmp 9), none⟩,
⟨(some 44), .bin .sub (.tmp 43) (.const (.int .i64 1)), none⟩,
⟨(some 45), .ixSl 3 (.tmp 42) (.tmp 44), none⟩,
⟨(some 46), .loadN 3 (.tmp 45), none⟩,
⟨(some 47), .move (.tmp 0), none⟩,
⟨(some 48), .move (.tmp 9), none⟩,
⟨(some 49), .ixSl 3 (.tmp 47) (.tmp 48), none⟩,
⟨(some 50), .loadN 3 (.tmp 49), none⟩,
⟨(some 51), .ixSl 3 (.tmp 37) (.tmp 38), none⟩,
⟨none, .store 3 (.tmp 51) (.tmp 46), none⟩,
⟨(some 52), .ixSl 3 (.tmp 39) (.tmp 41), none⟩,
⟨none, .store 3 (.tmp 52) (.tmp 50), none⟩] [[], [], [], [], [], [], [], [], [], [], [], [], [], [], [], [], [], []])
)
 (.region [⟨(some 35), .move (.tmp 9), none⟩,
⟨(some 36), .bin .sub (.tmp 35) (.const (.int .i64 1)), none⟩,
⟨(some 9), .move (.tmp 36), none⟩])
)
)
)
)
)
)
 (.region [⟨(some 15), .move (.tmp 8), none⟩,
⟨(some 16), .bin .add (.tmp 15) (.const (.int .i64 1)), none⟩,
⟨(some 8), .move (.tmp 16), none⟩])
)
)
)
)
)
, []⟩
theorem c_376 : plainFn Tryz.prog 376 = some a_376 := by kernel_rfl
-- (*haycroft/tail.Tail).Begin
noncomputable def a_380 : AFun := ⟨28,
(.seq
 (.region [⟨(some 4), .move (.const (.int .i64 0)), none⟩])
 (.seq
 (.block 0
 (.seq
 (.region [⟨(some 6), .move (.tmp 0), none⟩,
⟨(some 7), .eq false .pointer (.tmp 6) (.const (.pointer none)), none⟩,
⟨(some 5), .move (.tmp 7), none⟩])
 (.cond (.tmp 5)
 (.seq
 (.region [⟨(some 4), .move (.const (.int .i64 2)), none⟩])
 .ret
)
 (.seq
 (.region [⟨(some 9), .move (.tmp 1), none⟩,
⟨(some 10), .bin .lss (.tmp 9) (.const (.int .i64 0)), none⟩,
⟨(some 11), .move (.tmp 10), none⟩,
⟨(some 12), .move (.tmp 1), (some (11, false))⟩,
⟨(some 13), .move (.tmp 0), (some (11, false))⟩,
⟨(some 14), .nilCheck (.tmp 13), (some (11, false))⟩,
⟨(some 15), .off 1 (.tmp 14), (some (11, false))⟩,
⟨(some 16), .load (.tmp 15), (some (11, false))⟩,
⟨(some 17), .bin .geq (.tmp 12) (.tmp 16), (some (11, false))⟩,
⟨(some 18), .pick (.tmp 11) (.const (.bool true)) (.tmp 17), none⟩,
⟨(some 8), .move (.tmp 18), none⟩])
 (.cond (.tmp 8)
 (.seq
 (.region [⟨(some 4), .move (.const (.int .i64 1)), none⟩])
 .ret
)
 .skip
)
)
)
)
)
 (.seq
 (.draw [⟨(some 19), .move (.tmp 0), none⟩,
⟨(some 20), .nilCheck (.tmp 19), none⟩,
⟨(some 21), .off 2 (.tmp 20), none⟩,
⟨(some 22), .load (.tmp 21), none⟩,
⟨(some 23), .move (.tmp 1), none⟩,
⟨(some 24), .move (.tmp 1), none⟩,
⟨(some 25), .call 435 [(.tmp 24)], none⟩,
⟨(some 26), .call 434 [(.tmp 23), (.tmp 25)], none⟩,
⟨(some 27), .call 273 [(.tmp 22), (.const (.int .i64 0)), (.tmp 26)], none⟩,
⟨(some 4), .move (.tmp 27), none⟩] [[], [], [], [6, 7], [], [], [], [], [], []])
 .ret
)
)
)
, [.tmp 4]⟩
theorem c_380 : plainFn Tryz.prog 380 = some a_380 := by kernel_rfl
-- (*haycroft/cell.Row).CAS
noncomputable def a_383 : AFun := ⟨37,
(.seq
 (.region [⟨(some 8), .move (.const (.bool false)), none⟩,
⟨(some 9), .move (.const (.int .i64 0)), none⟩])
 (.seq
 (.seq
 (.region [⟨(some 12), .move (.tmp 0), none⟩,
⟨(some 13), .move (.tmp 1), none⟩,
⟨(some 14), .call 357 [(.tmp 12), (.tmp 13)], none⟩,
⟨(some 10), .move (.tmp 14), none⟩])
 (.seq
 (.region [⟨(some 15), .move (.tmp 10), none⟩,
⟨(some 16), .bin .neq (.tmp 15) (.const (.int .i64 0)), none⟩])
 (.cond (.tmp 16)
 (.seq
 (.region [⟨(some 17), .move (.tmp 10), none⟩,
⟨(some 8), .move (.const (.bool false)), none⟩,
⟨(some 9), .move (.tmp 17), none⟩])
 .ret
)
 .skip
)
)
)
 (.seq
 (.region [⟨(some 18), .move (.tmp 0), none⟩,
⟨(some 19), .nilCheck (.tmp 18), none⟩,
⟨(some 20), .off 0 (.tmp 19), none⟩,
⟨(some 21), .load (.tmp 20), none⟩,
⟨(some 22), .move (.tmp 1), none⟩,
⟨(some 23), .ixSl 1 (.tmp 21) (.tmp 22), none⟩,
⟨(some 24), .move (.tmp 2), none⟩,
⟨(some 25), .move (.tmp 3), none⟩,
⟨(some 26), .call 437 [(.tmp 23), (.tmp 24), (.tmp 25)], none⟩,
⟨(some 11), .move (.tmp 26), none⟩])
 (.seq
 (.seq
 (.region [⟨(some 27), .move (.tmp 11), none⟩])
 (.cond (.tmp 27)
 (.region [⟨(some 28), .move (.tmp 0), none⟩,
⟨(some 29), .nilCheck (.tmp 28), none⟩,
⟨(some 30), .off 1 (.tmp 29), none⟩,
⟨(some 31), .call 438 [(.tmp 30), (.const (.int .i64 1))], none⟩])
 (.region [⟨(some 32), .move (.tmp 0), none⟩,
⟨(some 33), .nilCheck (.tmp 32), none⟩,
⟨(some 34), .off 2 (.tmp 33), none⟩,
⟨(some 35), .call 438 [(.tmp 34), (.const (.int .i64 1))], none⟩])
)
)
 (.seq
 (.region [⟨(some 36), .move (.tmp 11), none⟩,
⟨(some 8), .move (.tmp 36), none⟩,
⟨(some 9), .move (.const (.int .i64 0)), none⟩])
 .ret
)
)
)
)
)
, [.tmp 8, .tmp 9]⟩
theorem c_383 : plainFn Tryz.prog 383 = some a_383 := by kernel_rfl
-- haycroft/field.fit
noncomputable def a_404 : AFun := ⟨23,
(.seq
 (.region [⟨(some 2), .move (.const (.bool false)), none⟩])
 (.seq
 (.region [⟨(some 3), .move (.const (.int .i64 64)), none⟩])
 (.seq
 (.seq
 (.region [⟨(some 6), .move (.tmp 0), none⟩,
⟨(some 7), .lenSl (.tmp 6), none⟩,
⟨(some 8), .move (.const (.int .i64 0)), none⟩])
 (.block 0
 (.loop none
 (.seq
 (.region [⟨(some 9), .bin .lss (.tmp 8) (.tmp 7), none⟩])
 (.seq
 (.cond (.tmp 9)
 .skip
 (.exit 0)
)
 (.seq
 (.block 1
 (.seq
 (.region [⟨(some 10), .ixSl 1 (.tmp 6) (.tmp 8), none⟩,
⟨(some 11), .load (.tmp 10), none⟩,
⟨(some 5), .move (.tmp 11), none⟩])
 (.seq
 (.seq
 (.region [⟨(some 12), .move (.tmp 5), none⟩,
⟨(some 13), .bin .lss (.tmp 12) (.const (.int .i64 1)), none⟩,
⟨(some 14), .move (.tmp 13), none⟩,
⟨(some 15), .move (.tmp 5), (some (14, false))⟩,
⟨(some 16), .move (.tmp 3), (some (14, false))⟩,
⟨(some 17), .bin .gtr (.tmp 15) (.tmp 16), (some (14, false))⟩,
⟨(some 18), .pick (.tmp 14) (.const (.bool true)) (.tmp 17), none⟩])
 (.cond (.tmp 18)
 (.seq
 (.region [⟨(some 2), .move (.const (.bool false)), none⟩])
 .ret
)
 .skip
)
)
 (.region [⟨(some 19), .move (.tmp 3), none⟩,
⟨(some 20), .move (.tmp 5), none⟩,
⟨(some 21), .bin .sub (.tmp 19) (.tmp 20), none⟩,
⟨(some 3), .move (.tmp 21), none⟩])
)
)
)
 (.region [⟨(some 22), .bin .add (.tmp 8) (.const (.int .i64 1)), none⟩,
⟨(some 8), .move (.tmp 22), none⟩])
)
)
)
)
)
)
 (.seq
 (.region [⟨(some 2), .move (.const (.bool true)), none⟩])
 .ret
)
)
)
)
, [.tmp 2]⟩
theorem c_404 : plainFn Tryz.prog 404 = some a_404 := by kernel_rfl
-- haycroft/field.Put
noncomputable def a_405 : AFun := ⟨30,
(.seq
 (.region [⟨(some 8), .move (.const (.int .u64 0)), none⟩,
⟨(some 9), .move (.const (.int .i64 0)), none⟩])
 (.seq
 (.block 0
 (.seq
 (.region [⟨(some 11), .move (.tmp 1), none⟩,
⟨(some 12), .move (.tmp 2), none⟩,
⟨(some 13), .call 256 [(.tmp 11), (.tmp 12)], none⟩,
⟨(some 14), .un .not (.tmp 13), none⟩,
⟨(some 10), .move (.tmp 14), none⟩])
 (.cond (.tmp 10)
 (.seq
 (.region [⟨(some 8), .move (.const (.int .u64 0)), none⟩,
⟨(some 9), .move (.const (.int .i64 1)), none⟩])
 .ret
)
 (.seq
 (.region [⟨(some 16), .move (.tmp 3), none⟩,
⟨(some 17), .move (.tmp 2), none⟩,
⟨(some 18), .call 236 [(.tmp 17)], none⟩,
⟨(some 19), .bin .gtr (.tmp 16) (.tmp 18), none⟩,
⟨(some 15), .move (.tmp 19), none⟩])
 (.cond (.tmp 15)
 (.seq
 (.region [⟨(some 8), .move (.const (.int .u64 0)), none⟩,
⟨(some 9), .move (.const (.int .i64 13)), none⟩])
 .ret
)
 .skip
)
)
)
)
)
 (.seq
 (.draw [⟨(some 20), .move (.tmp 0), none⟩,
⟨(some 21), .move (.tmp 2), none⟩,
⟨(some 22), .call 236 [(.tmp 21)], none⟩,
⟨(some 23), .move (.tmp 1), none⟩,
⟨(some 24), .bin .shl (.tmp 22) (.tmp 23), none⟩,
⟨(some 25), .bin .andNot (.tmp 20) (.tmp 24), none⟩,
⟨(some 26), .move (.tmp 3), none⟩,
⟨(some 27), .move (.tmp 1), none⟩,
⟨(some 28), .bin .shl (.tmp 26) (.tmp 27), none⟩,
⟨(some 29), .bin .or (.tmp 25) (.tmp 28), none⟩,
⟨(some 8), .move (.tmp 29), none⟩,
⟨(some 9), .move (.const (.int .i64 0)), none⟩] [[], [], [], [], [], [], [], [], [], [], [], []])
 .ret
)
)
)
, [.tmp 8, .tmp 9]⟩
theorem c_405 : plainFn Tryz.prog 405 = some a_405 := by kernel_rfl
-- (*haycroft/task.Task).claim
noncomputable def a_412 : AFun := ⟨32,
(.seq
 (.region [⟨(some 2), .move (.const (.int .i64 0)), none⟩,
⟨(some 3), .move (.const (.int .i64 0)), none⟩])
 (.seq
 (.seq
 (.draw [⟨(some 7), .move (.tmp 0), none⟩,
⟨(some 8), .nilCheck (.tmp 7), none⟩,
⟨(some 9), .off 1 (.tmp 8), none⟩,
⟨(some 10), .load (.tmp 9), none⟩,
⟨(some 11), .move (.tmp 0), none⟩,
⟨(some 12), .nilCheck (.tmp 11), none⟩,
⟨(some 13), .off 9 (.tmp 12), none⟩,
⟨(some 14), .load (.tmp 13), none⟩,
⟨(some 15), .move (.tmp 0), none⟩,
⟨(some 16), .nilCheck (.tmp 15), none⟩,
⟨(some 17), .off 7 (.tmp 16), none⟩,
⟨(some 18), .load (.tmp 17), none⟩,
⟨(some 19), .call 448 [(.tmp 10), (.tmp 14), (.tmp 18)], none⟩,
⟨(some 6), .move (.tmp 19), none⟩,
⟨(some 20), .extract (.tmp 6) 0, none⟩,
⟨(some 21), .extract (.tmp 6) 1, none⟩,
⟨(some 4), .move (.tmp 20), none⟩,
⟨(some 5), .move (.tmp 21), none⟩] [[], [], [], [], [], [], [], [], [], [], [], [], [], [], [], [], [], []])
 (.seq
 (.region [⟨(some 22), .move (.tmp 5), none⟩,
⟨(some 23), .bin .neq (.tmp 22) (.const (.int .i64 0)), none⟩])
 (.cond (.tmp 23)
 (.seq
 (.region [⟨(some 24), .move (.tmp 5), none⟩,
⟨(some 25), .call 182 [(.tmp 24)], none⟩,
⟨(some 26), .extract (.tmp 25) 0, none⟩,
⟨(some 27), .extract (.tmp 25) 1, none⟩,
⟨(some 2), .move (.tmp 26), none⟩,
⟨(some 3), .move (.tmp 27), none⟩])
 .ret
)
 .skip
)
)
)
 (.seq
 (.region [⟨(some 28), .move (.tmp 0), none⟩,
⟨(some 29), .call 280 [(.tmp 28), (.func 271)], none⟩,
⟨(some 30), .extract (.tmp 29) 0, none⟩,
⟨(some 31), .extract (.tmp 29) 1, none⟩,
⟨(some 2), .move (.tmp 30), none⟩,
⟨(some 3), .move (.tmp 31), none⟩])
 .ret
)
)
)
, [.tmp 2, .tmp 3]⟩
theorem c_412 : plainFn Tryz.prog 412 = some a_412 := by kernel_rfl
-- haycroft/record.Adds
noncomputable def a_418 : AFun := ⟨10,
(.seq
 (.region [⟨(some 4), .move (.const (.string (strB []))), none⟩])
 (.seq
 (.region [⟨(some 5), .move (.tmp 0), none⟩,
⟨(some 6), .call 458 [(.tmp 5)], none⟩,
⟨(some 7), .move (.tmp 1), none⟩,
⟨(some 8), .bin .add (.tmp 6) (.tmp 7), none⟩,
⟨(some 9), .call 454 [(.tmp 8)], none⟩,
⟨(some 4), .move (.tmp 9), none⟩])
 .ret
)
)
, [.tmp 4]⟩
theorem c_418 : plainFn Tryz.prog 418 = some a_418 := by kernel_rfl
-- (*haycroft/tail.Tail).Take
noncomputable def a_419 : AFun := ⟨62,
(.seq
 (.region [⟨(some 4), .move (.const (.int .u64 0)), none⟩,
⟨(some 5), .move (.const (.int .i64 0)), none⟩,
⟨(some 6), .move (.const (.int .i64 0)), none⟩])
 (.seq
 (.block 0
 (.seq
 (.region [⟨(some 11), .move (.tmp 0), none⟩,
⟨(some 12), .eq false .pointer (.tmp 11) (.const (.pointer none)), none⟩,
⟨(some 10), .move (.tmp 12), none⟩])
 (.cond (.tmp 10)
 (.seq
 (.region [⟨(some 4), .move (.const (.int .u64 0)), none⟩,
⟨(some 5), .move (.const (.int .i64 0)), none⟩,
⟨(some 6), .move (.const (.int .i64 2)), none⟩])
 .ret
)
 (.seq
 (.region [⟨(some 14), .move (.tmp 1), none⟩,
⟨(some 15), .bin .lss (.tmp 14) (.const (.int .i64 1)), none⟩,
⟨(some 13), .move (.tmp 15), none⟩])
 (.cond (.tmp 13)
 (.seq
 (.region [⟨(some 4), .move (.const (.int .u64 0)), none⟩,
⟨(some 5), .move (.const (.int .i64 0)), none⟩,
⟨(some 6), .move (.const (.int .i64 1)), none⟩])
 .ret
)
 (.seq
 (.region [⟨(some 17), .move (.tmp 1), none⟩,
⟨(some 18), .move (.tmp 0), none⟩,
⟨(some 19), .call 426 [(.tmp 18)], none⟩,
⟨(some 20), .bin .gtr (.tmp 17) (.tmp 19), none⟩,
⟨(some 16), .move (.tmp 20), none⟩])
 (.cond (.tmp 16)
 (.seq
 (.region [⟨(some 4), .move (.const (.int .u64 0)), none⟩,
⟨(some 5), .move (.const (.int .i64 0)), none⟩,
⟨(some 6), .move (.const (.int .i64 5)), none⟩])
 .ret
)
 (.seq
 (.region [⟨(some 22), .move (.tmp 0), none⟩,
⟨(some 23), .call 459 [(.tmp 22)], none⟩,
⟨(some 21), .move (.tmp 23), none⟩])
 (.cond (.tmp 21)
 (.seq
 (.region [⟨(some 24), .move (.tmp 0), none⟩,
⟨(some 25), .call 460 [(.tmp 24), (.const (.int .i64 3))], none⟩,
⟨(some 4), .move (.const (.int .u64 0)), none⟩,
⟨(some 5), .move (.tmp 25), none⟩,
⟨(some 6), .move (.const (.int .i64 0)), none⟩])
 .ret
)
 .skip
)
)
)
)
)
)
)
)
)
 (.seq
 (.region [⟨(some 27), .move (.tmp 0), none⟩,
⟨(some 28), .nilCheck (.tmp 27), none⟩,
⟨(some 29), .off 2 (.tmp 28), none⟩,
⟨(some 30), .load (.tmp 29), none⟩,
⟨(some 31), .move (.tmp 1), none⟩,
⟨(some 32), .toInt .u64 (.tmp 31), none⟩,
⟨(some 33), .call 284 [(.tmp 30), (.const (.int .i64 0)), (.tmp 32)], none⟩,
⟨(some 26), .move (.tmp 33), none⟩,
⟨(some 34), .extract (.tmp 26) 0, none⟩,
⟨(some 35), .extract (.tmp 26) 1, none⟩,
⟨(some 7), .move (.tmp 34), none⟩,
⟨(some 8), .move (.tmp 35), none⟩])
 (.seq
 (.seq
 (.region [⟨(some 36), .move (.tmp 8), none⟩,
⟨(some 37), .bin .neq (.tmp 36) (.const (.int .i64 0)), none⟩])
 (.cond (.tmp 37)
 (.seq
 (.region [⟨(some 38), .move (.tmp 8), none⟩,
⟨(some 4), .move (.const (.int .u64 0)), none⟩,
⟨(some 5), .move (.const (.int .i64 0)), none⟩,
⟨(some 6), .move (.tmp 38), none⟩])
 .ret
)
 .skip
)
)
 (.seq
 (.region [⟨(some 39), .move (.tmp 7), none⟩,
⟨(some 40), .call 236 [(.const (.int .i64 32))], none⟩,
⟨(some 41), .bin .and (.tmp 39) (.tmp 40), none⟩,
⟨(some 42), .toInt .i64 (.tmp 41), none⟩,
⟨(some 9), .move (.tmp 42), none⟩])
 (.seq
 (.seq
 (.region [⟨(some 43), .move (.tmp 9), none⟩,
⟨(some 44), .move (.tmp 1), none⟩,
⟨(some 45), .bin .add (.tmp 43) (.tmp 44), none⟩,
⟨(some 46), .move (.tmp 0), none⟩,
⟨(some 47), .call 426 [(.tmp 46)], none⟩,
⟨(some 48), .bin .gtr (.tmp 45) (.tmp 47), none⟩])
 (.cond (.tmp 48)
 (.seq
 (.region [⟨(some 49), .move (.tmp 0), none⟩,
⟨(some 50), .call 460 [(.tmp 49), (.const (.int .i64 2))], none⟩,
⟨(some 4), .move (.const (.int .u64 0)), none⟩,
⟨(some 5), .move (.tmp 50), none⟩,
⟨(some 6), .move (.const (.int .i64 0)), none⟩])
 .ret
)
 .skip
)
)
 (.seq
 (.region [⟨(some 51), .move (.tmp 0), none⟩,
⟨(some 52), .nilCheck (.tmp 51), none⟩,
⟨(some 53), .off 0 (.tmp 52), none⟩,
⟨(some 54), .load (.tmp 53), none⟩,
⟨(some 55), .move (.tmp 7), none⟩,
⟨(some 56), .bin .shr (.tmp 55) (.const (.int .u64 32)), none⟩,
⟨(some 57), .toInt .i64 (.tmp 56), none⟩,
⟨(some 58), .call 433 [(.tmp 54), (.tmp 57)], none⟩,
⟨(some 59), .move (.tmp 9), none⟩,
⟨(some 60), .toInt .u64 (.tmp 59), none⟩,
⟨(some 61), .bin .add (.tmp 58) (.tmp 60), none⟩,
⟨(some 4), .move (.tmp 61), none⟩,
⟨(some 5), .move (.const (.int .i64 1)), none⟩,
⟨(some 6), .move (.const (.int .i64 0)), none⟩])
 .ret
)
)
)
)
)
)
)
, [.tmp 4, .tmp 5, .tmp 6]⟩
theorem c_419 : plainFn Tryz.prog 419 = some a_419 := by kernel_rfl
-- haycroft/record.Words
noncomputable def a_420 : AFun := ⟨43,
(.seq
 (.region [⟨(some 1), .box 67 (.tmp 0), none⟩,
⟨(some 2), .move (.const (.slice none 0 0)), none⟩,
⟨(some 3), .move (.const (.int .i64 0)), none⟩])
 (.seq
 (.seq
 (.region [⟨(some 10), .loadN 5 (.tmp 1), none⟩,
⟨(some 11), .call 142 [(.tmp 10)], none⟩,
⟨(some 4), .move (.tmp 11), none⟩])
 (.seq
 (.region [⟨(some 12), .move (.tmp 4), none⟩,
⟨(some 13), .bin .neq (.tmp 12) (.const (.int .i64 0)), none⟩])
 (.cond (.tmp 13)
 (.seq
 (.region [⟨(some 14), .move (.tmp 4), none⟩,
⟨(some 2), .move (.const (.slice none 0 0)), none⟩,
⟨(some 3), .move (.tmp 14), none⟩])
 .ret
)
 .skip
)
)
)
 (.seq
 (.region [⟨(some 16), .off 0 (.tmp 1), none⟩,
⟨(some 17), .loadN 3 (.tmp 16), none⟩,
⟨(some 18), .call 237 [(.tmp 17)], none⟩,
⟨(some 15), .move (.tmp 18), none⟩,
⟨(some 19), .extract (.tmp 15) 0, none⟩,
⟨(some 20), .extract (.tmp 15) 1, none⟩,
⟨(some 5), .move (.tmp 19), none⟩,
⟨(some 6), .move (.tmp 20), none⟩])
 (.seq
 (.region [⟨(some 22), .off 3 (.tmp 1), none⟩,
⟨(some 23), .load (.tmp 22), none⟩,
⟨(some 24), .lenStr (.tmp 23), none⟩,
⟨(some 25), .off 4 (.tmp 1), none⟩,
⟨(some 26), .load (.tmp 25), none⟩,
⟨(some 27), .lenStr (.tmp 26), none⟩,
⟨(some 28), .call 234 [(.tmp 24), (.tmp 27)], none⟩,
⟨(some 21), .move (.tmp 28), none⟩,
⟨(some 29), .extract (.tmp 21) 0, none⟩,
⟨(some 30), .extract (.tmp 21) 1, none⟩,
⟨(some 7), .move (.tmp 29), none⟩,
⟨(some 8), .move (.tmp 30), none⟩])
 (.seq
 (.region [⟨(some 31), .move (.tmp 5), none⟩,
⟨(some 32), .move (.tmp 7), none⟩,
⟨(some 33), .buildSlice 24 1 3 #[(.int .u64 0), (.int .u64 0), (.int .u64 0)] [(0, (.tmp 31)), (1, (.const (.int .u64 0))), (2, (.tmp 32))], none⟩,
⟨(some 34), .off 3 (.tmp 1), none⟩,
⟨(some 35), .load (.tmp 34), none⟩,
⟨(some 36), .call 232 [(.tmp 35)], none⟩,
⟨(some 37), .append 24 1 8 (.tmp 33) (.tmp 36), none⟩,
⟨(some 9), .move (.tmp 37), none⟩])
 (.seq
 (.region [⟨(some 38), .move (.tmp 9), none⟩,
⟨(some 39), .off 4 (.tmp 1), none⟩,
⟨(some 40), .load (.tmp 39), none⟩,
⟨(some 41), .call 232 [(.tmp 40)], none⟩,
⟨(some 42), .append 24 1 8 (.tmp 38) (.tmp 41), none⟩,
⟨(some 2), .move (.tmp 42), none⟩,
⟨(some 3), .move (.const (.int .i64 0)), none⟩])
 .ret
)
)
)
)
)
)
, [.tmp 2, .tmp 3]⟩
theorem c_420 : plainFn Tryz.prog 420 = some a_420 := by kernel_rfl
-- (*haycroft/pages.Buffer).Fill
noncomputable def a_421 : AFun := ⟨27,
(.seq
 (.region [⟨(some 6), .move (.const (.int .i64 0)), none⟩])
 (.seq
 (.region [⟨(some 10), .move (.tmp 0), none⟩,
⟨(some 11), .move (.tmp 1), none⟩,
⟨(some 12), .move (.tmp 2), none⟩,
⟨(some 13), .lenSl (.tmp 12), none⟩,
⟨(some 14), .call 450 [(.tmp 10), (.tmp 11), (.tmp 13)], none⟩,
⟨(some 9), .move (.tmp 14), none⟩,
⟨(some 15), .extract (.tmp 9) 0, none⟩,
⟨(some 16), .extract (.tmp 9) 1, none⟩,
⟨(some 7), .move (.tmp 15), none⟩,
⟨(some 8), .move (.tmp 16), none⟩])
 (.seq
 (.seq
 (.region [⟨(some 17), .move (.tmp 8), none⟩,
⟨(some 18), .bin .neq (.tmp 17) (.const (.int .i64 0)), none⟩])
 (.cond (.tmp 18)
 (.seq
 (.region [⟨(some 19), .move (.tmp 8), none⟩,
⟨(some 6), .move (.tmp 19), none⟩])
 .ret
)
 .skip
)
)
 (.seq
 (.region [⟨(some 20), .move (.tmp 0), none⟩,
⟨(some 21), .nilCheck (.tmp 20), none⟩,
⟨(some 22), .off 1 (.tmp 21), none⟩,
⟨(some 23), .load (.tmp 22), none⟩,
⟨(some 24), .move (.tmp 7), none⟩,
⟨(some 25), .move (.tmp 2), none⟩,
⟨(some 26), .call 372 [(.tmp 23), (.tmp 24), (.tmp 25)], none⟩,
⟨(some 6), .move (.tmp 26), none⟩])
 .ret
)
)
)
)
, [.tmp 6]⟩
theorem c_421 : plainFn Tryz.prog 421 = some a_421 := by kernel_rfl
-- (*haycroft/task.Task).publish
noncomputable def a_422 : AFun := ⟨86,
(.seq
 (.region [⟨(some 2), .move (.const (.int .i64 0)), none⟩,
⟨(some 3), .move (.const (.int .i64 0)), none⟩])
 (.seq
 (.draw [⟨(some 10), .move (.tmp 0), none⟩,
⟨(some 11), .nilCheck (.tmp 10), none⟩,
⟨(some 12), .off 1 (.tmp 11), none⟩,
⟨(some 13), .load (.tmp 12), none⟩,
⟨(some 14), .move (.tmp 0), none⟩,
⟨(some 15), .nilCheck (.tmp 14), none⟩,
⟨(some 16), .off 9 (.tmp 15), none⟩,
⟨(some 17), .load (.tmp 16), none⟩,
⟨(some 18), .move (.tmp 0), none⟩,
⟨(some 19), .nilCheck (.tmp 18), none⟩,
⟨(some 20), .off 10 (.tmp 19), none⟩,
⟨(some 21), .load (.tmp 20), none⟩,
⟨(some 22), .move (.tmp 0), none⟩,
⟨(some 23), .nilCheck (.tmp 22), none⟩,
⟨(some 24), .off 15 (.tmp 23), none⟩,
⟨(some 25), .load (.tmp 24), none⟩,
⟨(some 26), .call 461 [(.tmp 13), (.tmp 17), (.tmp 21), (.tmp 25)], none⟩,
⟨(some 9), .move (.tmp 26), none⟩,
⟨(some 27), .extract (.tmp 9) 0, none⟩,
⟨(some 28), .extract (.tmp 9) 1, none⟩,
⟨(some 4), .move (.tmp 27), none⟩,
⟨(some 5), .move (.tmp 28), none⟩] [[], [], [], [], [], [], [], [], [], [], [], [], [], [], [], [], [], [], [], [], [], []])
 (.seq
 (.seq
 (.region [⟨(some 29), .move (.tmp 5), none⟩,
⟨(some 30), .bin .neq (.tmp 29) (.const (.int .i64 0)), none⟩])
 (.cond (.tmp 30)
 (.seq
 (.region [⟨(some 31), .move (.tmp 5), none⟩,
⟨(some 32), .call 182 [(.tmp 31)], none⟩,
⟨(some 33), .extract (.tmp 32) 0, none⟩,
⟨(some 34), .extract (.tmp 32) 1, none⟩,
⟨(some 2), .move (.tmp 33), none⟩,
⟨(some 3), .move (.tmp 34), none⟩])
 .ret
)
 .skip
)
)
 (.seq
 (.seq
 (.region [⟨(some 35), .move (.tmp 4), none⟩])
 (.cond (.tmp 35)
 (.seq
 (.region [⟨(some 36), .move (.tmp 0), none⟩,
⟨(some 37), .call 279 [(.tmp 36), (.const (.int .i64 0)), (.const (.string (strB [])))], none⟩,
⟨(some 38), .extract (.tmp 37) 0, none⟩,
⟨(some 39), .extract (.tmp 37) 1, none⟩,
⟨(some 2), .move (.tmp 38), none⟩,
⟨(some 3), .move (.tmp 39), none⟩])
 .ret
)
 .skip
)
)
 (.seq
 (.region [⟨(some 40), .move (.tmp 0), none⟩,
⟨(some 41), .call 359 [(.tmp 40)], none⟩,
⟨(some 6), .new 67 #[(.int .u64 0), (.bool false), (.bool false), (.string (strB [])), (.string (strB []))], none⟩,
⟨none, .store 5 (.tmp 6) (.tmp 41), none⟩])
 (.seq
 (.region [⟨(some 42), .off 0 (.tmp 6), none⟩,
⟨(some 43), .off 2 (.tmp 42), none⟩,
⟨none, .store 1 (.tmp 43) (.const (.bool true)), none⟩])
 (.seq
 (.region [⟨(some 45), .off 0 (.tmp 6), none⟩,
⟨(some 46), .loadN 3 (.tmp 45), none⟩,
⟨(some 47), .call 237 [(.tmp 46)], none⟩,
⟨(some 44), .move (.tmp 47), none⟩,
⟨(some 48), .extract (.tmp 44) 0, none⟩,
⟨(some 49), .extract (.tmp 44) 1, none⟩,
⟨(some 7), .move (.tmp 48), none⟩,
⟨(some 5), .move (.tmp 49), none⟩])
 (.seq
 (.seq
 (.region [⟨(some 50), .move (.tmp 5), none⟩,
⟨(some 51), .bin .neq (.tmp 50) (.const (.int .i64 0)), none⟩])
 (.cond (.tmp 51)
 (.seq
 (.region [⟨(some 52), .move (.tmp 5), none⟩,
⟨(some 53), .call 182 [(.tmp 52)], none⟩,
⟨(some 54), .extract (.tmp 53) 0, none⟩,
⟨(some 55), .extract (.tmp 53) 1, none⟩,
⟨(some 2), .move (.tmp 54), none⟩,
⟨(some 3), .move (.tmp 55), none⟩])
 .ret
)
 .skip
)
)
 (.seq
 (.seq
 (.draw [⟨(some 56), .move (.tmp 0), none⟩,
⟨(some 57), .nilCheck (.tmp 56), none⟩,
⟨(some 58), .off 0 (.tmp 57), none⟩,
⟨(some 59), .load (.tmp 58), none⟩,
⟨(some 60), .call 131 [(.tmp 59)], none⟩,
⟨(some 61), .move (.tmp 0), none⟩,
⟨(some 62), .nilCheck (.tmp 61), none⟩,
⟨(some 63), .off 15 (.tmp 62), none⟩,
⟨(some 64), .load (.tmp 63), none⟩,
⟨(some 65), .move (.tmp 7), none⟩,
⟨(some 66), .call 462 [(.tmp 60), (.tmp 64), (.tmp 65)], none⟩,
⟨(some 8), .move (.tmp 66), none⟩] [[], [], [], [], [], [], [], [], [4], [], [], []])
 (.seq
 (.region [⟨(some 67), .move (.tmp 8), none⟩,
⟨(some 68), .bin .neq (.tmp 67) (.const (.int .i64 0)), none⟩])
 (.cond (.tmp 68)
 (.seq
 (.region [⟨(some 69), .move (.tmp 8), none⟩,
⟨(some 70), .call 182 [(.tmp 69)], none⟩,
⟨(some 71), .extract (.tmp 70) 0, none⟩,
⟨(some 72), .extract (.tmp 70) 1, none⟩,
⟨(some 2), .move (.tmp 71), none⟩,
⟨(some 3), .move (.tmp 72), none⟩])
 .ret
)
 .skip
)
)
)
 (.seq
 (.region [⟨(some 73), .move (.tmp 0), none⟩,
⟨(some 74), .nilCheck (.tmp 73), none⟩,
⟨(some 75), .off 23 (.tmp 74), none⟩,
⟨(some 76), .load (.tmp 75), none⟩,
⟨(some 77), .bin .add (.tmp 76) (.const (.int .i64 1)), none⟩,
⟨(some 78), .nilCheck (.tmp 73), none⟩,
⟨(some 79), .off 23 (.tmp 78), none⟩,
⟨none, .store 1 (.tmp 79) (.tmp 77), none⟩])
 (.seq
 (.region [⟨(some 80), .move (.tmp 0), none⟩,
⟨(some 81), .call 424 [(.tmp 80)], none⟩])
 (.seq
 (.region [⟨(some 82), .move (.tmp 0), none⟩,
⟨(some 83), .call 280 [(.tmp 82), (.func 271)], none⟩,
⟨(some 84), .extract (.tmp 83) 0, none⟩,
⟨(some 85), .extract (.tmp 83) 1, none⟩,
⟨(some 2), .move (.tmp 84), none⟩,
⟨(some 3), .move (.tmp 85), none⟩])
 .ret
)
)
)
)
)
)
)
)
)
)
)
)
, [.tmp 2, .tmp 3]⟩
theorem c_422 : plainFn Tryz.prog 422 = some a_422 := by kernel_rfl
-- (*haycroft/tail.Tail).size
noncomputable def a_426 : AFun := ⟨8,
(.seq
 (.region [⟨(some 2), .move (.const (.int .i64 0)), none⟩])
 (.seq
 (.region [⟨(some 3), .move (.tmp 0), none⟩,
⟨(some 4), .nilCheck (.tmp 3), none⟩,
⟨(some 5), .off 0 (.tmp 4), none⟩,
⟨(some 6), .load (.tmp 5), none⟩,
⟨(some 7), .call 134 [(.tmp 6)], none⟩,
⟨(some 2), .move (.tmp 7), none⟩])
 .ret
)
)
, [.tmp 2]⟩
theorem c_426 : plainFn Tryz.prog 426 = some a_426 := by kernel_rfl
-- haycroft/place.First
noncomputable def a_433 : AFun := ⟨14,
(.seq
 (.region [⟨(some 4), .move (.const (.int .u64 0)), none⟩])
 (.seq
 (.region [⟨(some 8), .move (.tmp 0), none⟩,
⟨(some 9), .move (.tmp 1), none⟩,
⟨(some 10), .call 467 [(.tmp 8), (.tmp 9), (.const (.int .i64 0))], none⟩,
⟨(some 7), .move (.tmp 10), none⟩,
⟨(some 11), .extract (.tmp 7) 0, none⟩,
⟨(some 12), .extract (.tmp 7) 1, none⟩,
⟨(some 5), .move (.tmp 11), none⟩,
⟨(some 6), .move (.tmp 12), none⟩])
 (.seq
 (.region [⟨(some 13), .move (.tmp 5), none⟩,
⟨(some 4), .move (.tmp 13), none⟩])
 .ret
)
)
)
, [.tmp 4]⟩
theorem c_433 : plainFn Tryz.prog 433 = some a_433 := by kernel_rfl
-- haycroft/tail.pack
noncomputable def a_434 : AFun := ⟨11,
(.seq
 (.region [⟨(some 4), .move (.const (.int .u64 0)), none⟩])
 (.seq
 (.region [⟨(some 5), .move (.tmp 0), none⟩,
⟨(some 6), .toInt .u64 (.tmp 5), none⟩,
⟨(some 7), .bin .shl (.tmp 6) (.const (.int .u64 32)), none⟩,
⟨(some 8), .move (.tmp 1), none⟩,
⟨(some 9), .toInt .u64 (.tmp 8), none⟩,
⟨(some 10), .bin .or (.tmp 7) (.tmp 9), none⟩,
⟨(some 4), .move (.tmp 10), none⟩])
 .ret
)
)
, [.tmp 4]⟩
theorem c_434 : plainFn Tryz.prog 434 = some a_434 := by kernel_rfl
-- haycroft/tail.first
noncomputable def a_435 : AFun := ⟨5,
(.seq
 (.region [⟨(some 2), .move (.const (.int .i64 0)), none⟩])
 (.seq
 (.seq
 (.region [⟨(some 3), .move (.tmp 0), none⟩,
⟨(some 4), .bin .eql (.tmp 3) (.const (.int .i64 0)), none⟩])
 (.cond (.tmp 4)
 (.seq
 (.region [⟨(some 2), .move (.const (.int .i64 1)), none⟩])
 .ret
)
 .skip
)
)
 (.seq
 (.region [⟨(some 2), .move (.const (.int .i64 0)), none⟩])
 .ret
)
)
)
, [.tmp 2]⟩
theorem c_435 : plainFn Tryz.prog 435 = some a_435 := by kernel_rfl
-- (*sync/atomic.Uint64).CompareAndSwap
noncomputable def a_437 : AFun := ⟨13,
(.seq
 (.region [⟨(some 6), .move (.const (.bool false)), none⟩])
 (.seq
 (.region [⟨(some 7), .move (.tmp 0), none⟩,
⟨(some 8), .nilCheck (.tmp 7), none⟩,
⟨(some 9), .off 0 (.tmp 8), none⟩,
⟨(some 10), .move (.tmp 1), none⟩,
⟨(some 11), .move (.tmp 2), none⟩,
⟨(some 12), .acas .u64 (.tmp 9) (.tmp 10) (.tmp 11), none⟩,
⟨(some 6), .move (.tmp 12), none⟩])
 .ret
)
)
, [.tmp 6]⟩
theorem c_437 : plainFn Tryz.prog 437 = some a_437 := by kernel_rfl
-- (*sync/atomic.Int64).Add
noncomputable def a_438 : AFun := ⟨10,
(.seq
 (.region [⟨(some 4), .move (.const (.int .i64 0)), none⟩])
 (.seq
 (.region [⟨(some 5), .move (.tmp 0), none⟩,
⟨(some 6), .nilCheck (.tmp 5), none⟩,
⟨(some 7), .off 0 (.tmp 6), none⟩,
⟨(some 8), .move (.tmp 1), none⟩,
⟨(some 9), .aadd .i64 (.tmp 7) (.tmp 8), none⟩,
⟨(some 4), .move (.tmp 9), none⟩])
 .ret
)
)
, [.tmp 4]⟩
theorem c_438 : plainFn Tryz.prog 438 = some a_438 := by kernel_rfl
-- (*haycroft/index.Index).Claim
noncomputable def a_448 : AFun := ⟨35,
(.seq
 (.region [⟨(some 6), .move (.const (.bool false)), none⟩,
⟨(some 7), .move (.const (.int .i64 0)), none⟩])
 (.seq
 (.seq
 (.region [⟨(some 11), .move (.tmp 0), none⟩,
⟨(some 12), .move (.tmp 1), none⟩,
⟨(some 13), .call 472 [(.tmp 11), (.tmp 12)], none⟩,
⟨(some 8), .move (.tmp 13), none⟩])
 (.seq
 (.region [⟨(some 14), .move (.tmp 8), none⟩,
⟨(some 15), .bin .neq (.tmp 14) (.const (.int .i64 0)), none⟩])
 (.cond (.tmp 15)
 (.seq
 (.region [⟨(some 16), .move (.tmp 8), none⟩,
⟨(some 6), .move (.const (.bool false)), none⟩,
⟨(some 7), .move (.tmp 16), none⟩])
 .ret
)
 .skip
)
)
)
 (.seq
 (.region [⟨(some 18), .move (.tmp 2), none⟩,
⟨(some 19), .call 153 [(.tmp 18)], none⟩,
⟨(some 20), .call 473 [(.tmp 19)], none⟩,
⟨(some 17), .move (.tmp 20), none⟩,
⟨(some 21), .extract (.tmp 17) 0, none⟩,
⟨(some 22), .extract (.tmp 17) 1, none⟩,
⟨(some 9), .move (.tmp 21), none⟩,
⟨(some 10), .move (.tmp 22), none⟩])
 (.seq
 (.seq
 (.region [⟨(some 23), .move (.tmp 10), none⟩,
⟨(some 24), .bin .neq (.tmp 23) (.const (.int .i64 0)), none⟩])
 (.cond (.tmp 24)
 (.seq
 (.region [⟨(some 25), .move (.tmp 10), none⟩,
⟨(some 6), .move (.const (.bool false)), none⟩,
⟨(some 7), .move (.tmp 25), none⟩])
 .ret
)
 .skip
)
)
 (.seq
 (.region [⟨(some 26), .move (.tmp 0), none⟩,
⟨(some 27), .nilCheck (.tmp 26), none⟩,
⟨(some 28), .off 2 (.tmp 27), none⟩,
⟨(some 29), .load (.tmp 28), none⟩,
⟨(some 30), .move (.tmp 1), none⟩,
⟨(some 31), .move (.tmp 9), none⟩,
⟨(some 32), .call 383 [(.tmp 29), (.tmp 30), (.const (.int .u64 0)), (.tmp 31)], none⟩,
⟨(some 33), .extract (.tmp 32) 0, none⟩,
⟨(some 34), .extract (.tmp 32) 1, none⟩,
⟨(some 6), .move (.tmp 33), none⟩,
⟨(some 7), .move (.tmp 34), none⟩])
 .ret
)
)
)
)
)
, [.tmp 6, .tmp 7]⟩
theorem c_448 : plainFn Tryz.prog 448 = some a_448 := by kernel_rfl
-- (*haycroft/pages.Buffer).run
noncomputable def a_450 : AFun := ⟨30,
(.seq
 (.region [⟨(some 6), .move (.const (.int .i64 0)), none⟩,
⟨(some 7), .move (.const (.int .i64 0)), none⟩])
 (.seq
 (.region [⟨(some 11), .move (.tmp 0), none⟩,
⟨(some 12), .move (.tmp 1), none⟩,
⟨(some 13), .call 475 [(.tmp 11), (.tmp 12)], none⟩,
⟨(some 10), .move (.tmp 13), none⟩,
⟨(some 14), .extract (.tmp 10) 0, none⟩,
⟨(some 15), .extract (.tmp 10) 1, none⟩,
⟨(some 8), .move (.tmp 14), none⟩,
⟨(some 9), .move (.tmp 15), none⟩])
 (.seq
 (.block 0
 (.seq
 (.region [⟨(some 17), .move (.tmp 9), none⟩,
⟨(some 18), .bin .neq (.tmp 17) (.const (.int .i64 0)), none⟩,
⟨(some 16), .move (.tmp 18), none⟩])
 (.cond (.tmp 16)
 (.seq
 (.region [⟨(some 19), .move (.tmp 9), none⟩,
⟨(some 6), .move (.const (.int .i64 0)), none⟩,
⟨(some 7), .move (.tmp 19), none⟩])
 .ret
)
 (.seq
 (.region [⟨(some 21), .move (.tmp 0), none⟩,
⟨(some 22), .nilCheck (.tmp 21), none⟩,
⟨(some 23), .off 0 (.tmp 22), none⟩,
⟨(some 24), .load (.tmp 23), none⟩,
⟨(some 25), .move (.tmp 1), none⟩,
⟨(some 26), .move (.tmp 2), none⟩,
⟨(some 27), .call 476 [(.tmp 24), (.tmp 25), (.tmp 26)], none⟩,
⟨(some 28), .un .not (.tmp 27), none⟩,
⟨(some 20), .move (.tmp 28), none⟩])
 (.cond (.tmp 20)
 (.seq
 (.region [⟨(some 6), .move (.const (.int .i64 0)), none⟩,
⟨(some 7), .move (.const (.int .i64 1)), none⟩])
 .ret
)
 .skip
)
)
)
)
)
 (.seq
 (.region [⟨(some 29), .move (.tmp 8), none⟩,
⟨(some 6), .move (.tmp 29), none⟩,
⟨(some 7), .move (.const (.int .i64 0)), none⟩])
 .ret
)
)
)
)
, [.tmp 6, .tmp 7]⟩
theorem c_450 : plainFn Tryz.prog 450 = some a_450 := by kernel_rfl
-- haycroft/record.Value
noncomputable def a_454 : AFun := ⟨12,
(.seq
 (.region [⟨(some 2), .move (.const (.string (strB []))), none⟩])
 (.seq
 (.region [⟨(some 6), .move (.tmp 0), none⟩,
⟨(some 7), .buildSlice 24 1 1 #[(.int .u64 0)] [(0, (.tmp 6))], none⟩,
⟨(some 8), .call 139 [(.tmp 7), (.const (.int .i64 8))], none⟩,
⟨(some 5), .move (.tmp 8), none⟩,
⟨(some 9), .extract (.tmp 5) 0, none⟩,
⟨(some 10), .extract (.tmp 5) 1, none⟩,
⟨(some 3), .move (.tmp 9), none⟩,
⟨(some 4), .move (.tmp 10), none⟩])
 (.seq
 (.region [⟨(some 11), .move (.tmp 3), none⟩,
⟨(some 2), .move (.tmp 11), none⟩])
 .ret
)
)
)
, [.tmp 2]⟩
theorem c_454 : plainFn Tryz.prog 454 = some a_454 := by kernel_rfl
-- haycroft/record.Number
noncomputable def a_458 : AFun := ⟨10,
(.seq
 (.region [⟨(some 2), .move (.const (.int .u64 0)), none⟩])
 (.seq
 (.seq
 (.region [⟨(some 3), .move (.tmp 0), none⟩,
⟨(some 4), .lenStr (.tmp 3), none⟩,
⟨(some 5), .bin .neq (.tmp 4) (.const (.int .i64 8)), none⟩])
 (.cond (.tmp 5)
 (.seq
 (.region [⟨(some 2), .move (.const (.int .u64 0)), none⟩])
 .ret
)
 .skip
)
)
 (.seq
 (.region [⟨(some 6), .move (.tmp 0), none⟩,
⟨(some 7), .call 232 [(.tmp 6)], none⟩,
⟨(some 8), .ixSl 1 (.tmp 7) (.const (.int .i64 0)), none⟩,
⟨(some 9), .load (.tmp 8), none⟩,
⟨(some 2), .move (.tmp 9), none⟩])
 .ret
)
)
)
, [.tmp 2]⟩
theorem c_458 : plainFn Tryz.prog 458 = some a_458 := by kernel_rfl
-- (*haycroft/tail.Tail).Over
noncomputable def a_459 : AFun := ⟨16,
(.seq
 (.region [⟨(some 2), .move (.const (.bool false)), none⟩])
 (.seq
 (.seq
 (.region [⟨(some 5), .move (.tmp 0), none⟩,
⟨(some 6), .eq false .pointer (.tmp 5) (.const (.pointer none)), none⟩])
 (.cond (.tmp 6)
 (.seq
 (.region [⟨(some 2), .move (.const (.bool false)), none⟩])
 .ret
)
 .skip
)
)
 (.seq
 (.region [⟨(some 8), .move (.tmp 0), none⟩,
⟨(some 9), .call 249 [(.tmp 8)], none⟩,
⟨(some 7), .move (.tmp 9), none⟩,
⟨(some 10), .extract (.tmp 7) 0, none⟩,
⟨(some 11), .extract (.tmp 7) 1, none⟩,
⟨(some 3), .move (.tmp 10), none⟩,
⟨(some 4), .move (.tmp 11), none⟩])
 (.seq
 (.region [⟨(some 12), .move (.tmp 4), none⟩,
⟨(some 13), .move (.tmp 0), none⟩,
⟨(some 14), .call 426 [(.tmp 13)], none⟩,
⟨(some 15), .bin .gtr (.tmp 12) (.tmp 14), none⟩,
⟨(some 2), .move (.tmp 15), none⟩])
 .ret
)
)
)
)
, [.tmp 2]⟩
theorem c_459 : plainFn Tryz.prog 459 = some a_459 := by kernel_rfl
-- (*haycroft/index.Index).Turn
noncomputable def a_461 : AFun := ⟨38,
(.seq
 (.region [⟨(some 8), .move (.const (.bool false)), none⟩,
⟨(some 9), .move (.const (.int .i64 0)), none⟩])
 (.seq
 (.seq
 (.region [⟨(some 13), .move (.tmp 0), none⟩,
⟨(some 14), .move (.tmp 1), none⟩,
⟨(some 15), .call 472 [(.tmp 13), (.tmp 14)], none⟩,
⟨(some 10), .move (.tmp 15), none⟩])
 (.seq
 (.region [⟨(some 16), .move (.tmp 10), none⟩,
⟨(some 17), .bin .neq (.tmp 16) (.const (.int .i64 0)), none⟩])
 (.cond (.tmp 17)
 (.seq
 (.region [⟨(some 18), .move (.tmp 10), none⟩,
⟨(some 8), .move (.const (.bool false)), none⟩,
⟨(some 9), .move (.tmp 18), none⟩])
 .ret
)
 .skip
)
)
)
 (.seq
 (.region [⟨(some 20), .move (.tmp 2), none⟩,
⟨(some 21), .move (.tmp 3), none⟩,
⟨(some 22), .call 481 [(.tmp 20), (.tmp 21)], none⟩,
⟨(some 19), .move (.tmp 22), none⟩,
⟨(some 23), .extract (.tmp 19) 0, none⟩,
⟨(some 24), .extract (.tmp 19) 1, none⟩,
⟨(some 11), .move (.tmp 23), none⟩,
⟨(some 12), .move (.tmp 24), none⟩])
 (.seq
 (.seq
 (.region [⟨(some 25), .move (.tmp 12), none⟩,
⟨(some 26), .bin .neq (.tmp 25) (.const (.int .i64 0)), none⟩])
 (.cond (.tmp 26)
 (.seq
 (.region [⟨(some 27), .move (.tmp 12), none⟩,
⟨(some 8), .move (.const (.bool false)), none⟩,
⟨(some 9), .move (.tmp 27), none⟩])
 .ret
)
 .skip
)
)
 (.seq
 (.region [⟨(some 28), .move (.tmp 0), none⟩,
⟨(some 29), .nilCheck (.tmp 28), none⟩,
⟨(some 30), .off 2 (.tmp 29), none⟩,
⟨(some 31), .load (.tmp 30), none⟩,
⟨(some 32), .move (.tmp 1), none⟩,
⟨(some 33), .move (.tmp 2), none⟩,
⟨(some 34), .move (.tmp 11), none⟩,
⟨(some 35), .call 383 [(.tmp 31), (.tmp 32), (.tmp 33), (.tmp 34)], none⟩,
⟨(some 36), .extract (.tmp 35) 0, none⟩,
⟨(some 37), .extract (.tmp 35) 1, none⟩,
⟨(some 8), .move (.tmp 36), none⟩,
⟨(some 9), .move (.tmp 37), none⟩])
 .ret
)
)
)
)
)
, [.tmp 8, .tmp 9]⟩
theorem c_461 : plainFn Tryz.prog 461 = some a_461 := by kernel_rfl
-- haycroft/place.Of
noncomputable def a_467 : AFun := ⟨33,
(.seq
 (.region [⟨(some 6), .move (.const (.int .u64 0)), none⟩,
⟨(some 7), .move (.const (.int .i64 0)), none⟩])
 (.seq
 (.block 0
 (.seq
 (.seq
 (.region [⟨(some 9), .move (.tmp 0), none⟩,
⟨(some 10), .call 119 [(.tmp 9)], none⟩,
⟨(some 11), .un .not (.tmp 10), none⟩,
⟨(some 8), .move (.tmp 11), none⟩])
 (.cond (.tmp 8)
 .skip
 (.seq
 (.region [⟨(some 12), .move (.tmp 1), none⟩,
⟨(some 13), .bin .lss (.tmp 12) (.const (.int .i64 0)), none⟩,
⟨(some 8), .move (.tmp 13), none⟩])
 (.cond (.tmp 8)
 .skip
 (.seq
 (.region [⟨(some 14), .move (.tmp 2), none⟩,
⟨(some 15), .bin .lss (.tmp 14) (.const (.int .i64 0)), none⟩,
⟨(some 8), .move (.tmp 15), none⟩])
 (.cond (.tmp 8)
 .skip
 (.region [⟨(some 16), .move (.tmp 2), none⟩,
⟨(some 17), .move (.tmp 0), none⟩,
⟨(some 18), .call 134 [(.tmp 17)], none⟩,
⟨(some 19), .bin .geq (.tmp 16) (.tmp 18), none⟩,
⟨(some 8), .move (.tmp 19), none⟩])
)
)
)
)
)
)
 (.cond (.tmp 8)
 (.seq
 (.region [⟨(some 6), .move (.const (.int .u64 0)), none⟩,
⟨(some 7), .move (.const (.int .i64 1)), none⟩])
 .ret
)
 (.seq
 (.region [⟨(some 21), .move (.tmp 1), none⟩,
⟨(some 22), .toInt .u64 (.tmp 21), none⟩,
⟨(some 23), .move (.tmp 0), none⟩,
⟨(some 24), .bin .shr (.const (.int .u64 281474976710655)) (.tmp 23), none⟩,
⟨(some 25), .bin .gtr (.tmp 22) (.tmp 24), none⟩,
⟨(some 20), .move (.tmp 25), none⟩])
 (.cond (.tmp 20)
 (.seq
 (.region [⟨(some 6), .move (.const (.int .u64 0)), none⟩,
⟨(some 7), .move (.const (.int .i64 13)), none⟩])
 .ret
)
 .skip
)
)
)
)
)
 (.seq
 (.region [⟨(some 26), .move (.tmp 1), none⟩,
⟨(some 27), .toInt .u64 (.tmp 26), none⟩,
⟨(some 28), .move (.tmp 0), none⟩,
⟨(some 29), .bin .shl (.tmp 27) (.tmp 28), none⟩,
⟨(some 30), .move (.tmp 2), none⟩,
⟨(some 31), .toInt .u64 (.tmp 30), none⟩,
⟨(some 32), .bin .or (.tmp 29) (.tmp 31), none⟩,
⟨(some 6), .move (.tmp 32), none⟩,
⟨(some 7), .move (.const (.int .i64 0)), none⟩])
 .ret
)
)
)
, [.tmp 6, .tmp 7]⟩
theorem c_467 : plainFn Tryz.prog 467 = some a_467 := by kernel_rfl
-- (*haycroft/index.Index).may
noncomputable def a_472 : AFun := ⟨13,
(.seq
 (.region [⟨(some 4), .move (.const (.int .i64 0)), none⟩])
 (.seq
 (.block 0
 (.seq
 (.region [⟨(some 6), .move (.tmp 0), none⟩,
⟨(some 7), .eq false .pointer (.tmp 6) (.const (.pointer none)), none⟩,
⟨(some 5), .move (.tmp 7), none⟩])
 (.cond (.tmp 5)
 (.seq
 (.region [⟨(some 4), .move (.const (.int .i64 2)), none⟩])
 .ret
)
 (.seq
 (.region [⟨(some 9), .move (.tmp 0), none⟩,
⟨(some 10), .move (.tmp 1), none⟩,
⟨(some 11), .call 252 [(.tmp 9), (.tmp 10)], none⟩,
⟨(some 12), .un .not (.tmp 11), none⟩,
⟨(some 8), .move (.tmp 12), none⟩])
 (.cond (.tmp 8)
 (.seq
 (.region [⟨(some 4), .move (.const (.int .i64 1)), none⟩])
 .ret
)
 .skip
)
)
)
)
)
 (.seq
 (.region [⟨(some 4), .move (.const (.int .i64 0)), none⟩])
 .ret
)
)
)
, [.tmp 4]⟩
theorem c_472 : plainFn Tryz.prog 472 = some a_472 := by kernel_rfl
-- haycroft/entry.Fresh
noncomputable def a_473 : AFun := ⟨9,
(.seq
 (.region [⟨(some 2), .move (.const (.int .u64 0)), none⟩,
⟨(some 3), .move (.const (.int .i64 0)), none⟩])
 (.seq
 (.region [⟨(some 4), .move (.tmp 0), none⟩,
⟨(some 5), .build #[(.int .u64 0), (.int .u64 0), (.bool false)] #[(0, 1), (1, 1), (2, 1)] [(1, (.tmp 4)), (2, (.const (.bool true)))], none⟩,
⟨(some 6), .call 482 [(.tmp 5)], none⟩,
⟨(some 7), .extract (.tmp 6) 0, none⟩,
⟨(some 8), .extract (.tmp 6) 1, none⟩,
⟨(some 2), .move (.tmp 7), none⟩,
⟨(some 3), .move (.tmp 8), none⟩])
 .ret
)
)
, [.tmp 2, .tmp 3]⟩
theorem c_473 : plainFn Tryz.prog 473 = some a_473 := by kernel_rfl
-- (*haycroft/pages.Buffer).at
noncomputable def a_475 : AFun := ⟨42,
(.seq
 (.region [⟨(some 4), .move (.const (.int .i64 0)), none⟩,
⟨(some 5), .move (.const (.int .i64 0)), none⟩])
 (.seq
 (.block 0
 (.seq
 (.region [⟨(some 7), .move (.tmp 0), none⟩,
⟨(some 8), .eq false .pointer (.tmp 7) (.const (.pointer none)), none⟩,
⟨(some 6), .move (.tmp 8), none⟩])
 (.cond (.tmp 6)
 (.seq
 (.region [⟨(some 4), .move (.const (.int .i64 0)), none⟩,
⟨(some 5), .move (.const (.int .i64 2)), none⟩])
 .ret
)
 (.seq
 (.seq
 (.region [⟨(some 10), .move (.tmp 1), none⟩,
⟨(some 11), .bin .gtr (.tmp 10) (.const (.int .u64 281474976710655)), none⟩,
⟨(some 9), .move (.tmp 11), none⟩])
 (.cond (.tmp 9)
 .skip
 (.region [⟨(some 12), .move (.tmp 0), none⟩,
⟨(some 13), .move (.tmp 0), none⟩,
⟨(some 14), .nilCheck (.tmp 13), none⟩,
⟨(some 15), .off 0 (.tmp 14), none⟩,
⟨(some 16), .load (.tmp 15), none⟩,
⟨(some 17), .move (.tmp 1), none⟩,
⟨(some 18), .call 130 [(.tmp 16), (.tmp 17)], none⟩,
⟨(some 19), .call 197 [(.tmp 12), (.tmp 18)], none⟩,
⟨(some 20), .un .not (.tmp 19), none⟩,
⟨(some 9), .move (.tmp 20), none⟩])
)
)
 (.cond (.tmp 9)
 (.seq
 (.region [⟨(some 4), .move (.const (.int .i64 0)), none⟩,
⟨(some 5), .move (.const (.int .i64 7)), none⟩])
 .ret
)
 .skip
)
)
)
)
)
 (.seq
 (.draw [⟨(some 21), .move (.tmp 0), none⟩,
⟨(some 22), .move (.tmp 0), none⟩,
⟨(some 23), .nilCheck (.tmp 22), none⟩,
⟨(some 24), .off 0 (.tmp 23), none⟩,
⟨(some 25), .load (.tmp 24), none⟩,
⟨(some 26), .move (.tmp 1), none⟩,
⟨(some 27), .call 130 [(.tmp 25), (.tmp 26)], none⟩,
⟨(some 28), .call 199 [(.tmp 21), (.tmp 27)], none⟩,
⟨(some 29), .move (.tmp 0), none⟩,
⟨(some 30), .nilCheck (.tmp 29), none⟩,
⟨(some 31), .off 0 (.tmp 30), none⟩,
⟨(some 32), .load (.tmp 31), none⟩,
⟨(some 33), .call 134 [(.tmp 32)], none⟩,
⟨(some 34), .bin .mul (.tmp 28) (.tmp 33), none⟩,
⟨(some 35), .move (.tmp 0), none⟩,
⟨(some 36), .nilCheck (.tmp 35), none⟩,
⟨(some 37), .off 0 (.tmp 36), none⟩,
⟨(some 38), .load (.tmp 37), none⟩,
⟨(some 39), .move (.tmp 1), none⟩,
⟨(some 40), .call 75 [(.tmp 38), (.tmp 39)], none⟩,
⟨(some 41), .bin .add (.tmp 34) (.tmp 40), none⟩,
⟨(some 4), .move (.tmp 41), none⟩,
⟨(some 5), .move (.const (.int .i64 0)), none⟩] [[], [], [], [], [], [], [], [], [], [], [], [6, 7], [], [], [], [], [], [6, 7, 12], [], [], [], [], []])
 .ret
)
)
)
, [.tmp 4, .tmp 5]⟩
theorem c_475 : plainFn Tryz.prog 475 = some a_475 := by kernel_rfl
noncomputable def L2 : List (Nat × AFun) := [(271, a_271), (272, a_272), (273, a_273), (274, a_274), (278, a_278), (279, a_279), (280, a_280), (281, a_281), (284, a_284), (288, a_288), (289, a_289), (311, a_311), (319, a_319), (320, a_320), (321, a_321), (322, a_322), (323, a_323), (324, a_324), (325, a_325), (334, a_334), (335, a_335), (354, a_354), (355, a_355), (357, a_357), (358, a_358), (359, a_359), (360, a_360), (361, a_361), (365, a_365), (372, a_372), (376, a_376), (380, a_380), (383, a_383), (404, a_404), (405, a_405), (412, a_412), (418, a_418), (419, a_419), (420, a_420), (421, a_421), (422, a_422), (426, a_426), (433, a_433), (434, a_434), (435, a_435), (437, a_437), (438, a_438), (448, a_448), (450, a_450), (454, a_454), (458, a_458), (459, a_459), (461, a_461), (467, a_467), (472, a_472), (473, a_473), (475, a_475)]
theorem L2_ok : ∀ p ∈ L2, plainFn Tryz.prog p.1 = some p.2 := List.forall_mem_cons.2 ⟨c_271, List.forall_mem_cons.2 ⟨c_272, List.forall_mem_cons.2 ⟨c_273, List.forall_mem_cons.2 ⟨c_274, List.forall_mem_cons.2 ⟨c_278, List.forall_mem_cons.2 ⟨c_279, List.forall_mem_cons.2 ⟨c_280, List.forall_mem_cons.2 ⟨c_281, List.forall_mem_cons.2 ⟨c_284, List.forall_mem_cons.2 ⟨c_288, List.forall_mem_cons.2 ⟨c_289, List.forall_mem_cons.2 ⟨c_311, List.forall_mem_cons.2 ⟨c_319, List.forall_mem_cons.2 ⟨c_320, List.forall_mem_cons.2 ⟨c_321, List.forall_mem_cons.2 ⟨c_322, List.forall_mem_cons.2 ⟨c_323, List.forall_mem_cons.2 ⟨c_324, List.forall_mem_cons.2 ⟨c_325, List.forall_mem_cons.2 ⟨c_334, List.forall_mem_cons.2 ⟨c_335, List.forall_mem_cons.2 ⟨c_354, List.forall_mem_cons.2 ⟨c_355, List.forall_mem_cons.2 ⟨c_357, List.forall_mem_cons.2 ⟨c_358, List.forall_mem_cons.2 ⟨c_359, List.forall_mem_cons.2 ⟨c_360, List.forall_mem_cons.2 ⟨c_361, List.forall_mem_cons.2 ⟨c_365, List.forall_mem_cons.2 ⟨c_372, List.forall_mem_cons.2 ⟨c_376, List.forall_mem_cons.2 ⟨c_380, List.forall_mem_cons.2 ⟨c_383, List.forall_mem_cons.2 ⟨c_404, List.forall_mem_cons.2 ⟨c_405, List.forall_mem_cons.2 ⟨c_412, List.forall_mem_cons.2 ⟨c_418, List.forall_mem_cons.2 ⟨c_419, List.forall_mem_cons.2 ⟨c_420, List.forall_mem_cons.2 ⟨c_421, List.forall_mem_cons.2 ⟨c_422, List.forall_mem_cons.2 ⟨c_426, List.forall_mem_cons.2 ⟨c_433, List.forall_mem_cons.2 ⟨c_434, List.forall_mem_cons.2 ⟨c_435, List.forall_mem_cons.2 ⟨c_437, List.forall_mem_cons.2 ⟨c_438, List.forall_mem_cons.2 ⟨c_448, List.forall_mem_cons.2 ⟨c_450, List.forall_mem_cons.2 ⟨c_454, List.forall_mem_cons.2 ⟨c_458, List.forall_mem_cons.2 ⟨c_459, List.forall_mem_cons.2 ⟨c_461, List.forall_mem_cons.2 ⟨c_467, List.forall_mem_cons.2 ⟨c_472, List.forall_mem_cons.2 ⟨c_473, List.forall_mem_cons.2 ⟨c_475, fun _ h => (nomatch h)⟩⟩⟩⟩⟩⟩⟩⟩⟩⟩⟩⟩⟩⟩⟩⟩⟩⟩⟩⟩⟩⟩⟩⟩⟩⟩⟩⟩⟩⟩⟩⟩⟩⟩⟩⟩⟩⟩⟩⟩⟩⟩⟩⟩⟩⟩⟩⟩⟩⟩⟩⟩⟩⟩⟩⟩⟩
end Go.Aev.LitW
