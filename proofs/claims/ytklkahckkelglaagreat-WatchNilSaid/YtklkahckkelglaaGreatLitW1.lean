/- Functions of the program, as the evaluator takes them. -/
import Derived.Test.YtklkahckkelglaaGreatProg
import Derived.Test.YtklkahckkelglaaGreatAevX
import Derived.KernelRfl
namespace Go.Aev.LitW
open Go Go.Aev Go.Proofs
set_option maxRecDepth 100000
-- (*haycroft/session.Session).comes
noncomputable def a_95 : AFun := ⟨90,
(.seq
 (.region [⟨(some 4), .move (.const (.int .i64 0)), none⟩])
 (.seq
 (.region [⟨(some 11), .move (.tmp 1), none⟩,
⟨(some 12), .nilCheck (.tmp 11), none⟩,
⟨(some 13), .off 1 (.tmp 12), none⟩,
⟨(some 14), .load (.tmp 13), none⟩,
⟨(some 15), .call 176 [(.tmp 14)], none⟩,
⟨(some 10), .move (.tmp 15), none⟩,
⟨(some 16), .extract (.tmp 10) 0, none⟩,
⟨(some 17), .extract (.tmp 10) 1, none⟩,
⟨(some 5), .new 36 #[(.int .i64 0), (.string (strB []))], none⟩,
⟨none, .store 2 (.tmp 5) (.tmp 16), none⟩,
⟨(some 6), .move (.tmp 17), none⟩])
 (.seq
 (.region [⟨(some 19), .move (.tmp 1), none⟩,
⟨(some 20), .nilCheck (.tmp 19), none⟩,
⟨(some 21), .off 1 (.tmp 20), none⟩,
⟨(some 22), .load (.tmp 21), none⟩,
⟨(some 23), .call 94 [(.tmp 22)], none⟩,
⟨(some 18), .move (.tmp 23), none⟩,
⟨(some 24), .extract (.tmp 18) 0, none⟩,
⟨(some 25), .extract (.tmp 18) 1, none⟩,
⟨(some 7), .move (.tmp 24), none⟩,
⟨(some 8), .move (.tmp 25), none⟩])
 (.seq
 (.region [⟨(some 26), .move (.tmp 0), none⟩,
⟨(some 27), .nilCheck (.tmp 26), none⟩,
⟨(some 28), .off 5 (.tmp 27), none⟩,
⟨none, .store 1 (.tmp 28) (.const (.pointer none)), none⟩])
 (.seq
 (.block 0
 (.seq
 (.region [⟨(some 30), .move (.tmp 6), none⟩,
⟨(some 29), .move (.tmp 30), none⟩])
 (.cond (.tmp 29)
 (.seq
 (.draw [⟨(some 31), .move (.tmp 0), none⟩,
⟨(some 32), .nilCheck (.tmp 31), none⟩,
⟨(some 33), .off 8 (.tmp 32), none⟩,
⟨(some 34), .load (.tmp 33), none⟩,
⟨(some 35), .move (.tmp 1), none⟩,
⟨(some 36), .nilCheck (.tmp 35), none⟩,
⟨(some 37), .off 0 (.tmp 36), none⟩,
⟨(some 38), .load (.tmp 37), none⟩,
⟨(some 39), .loadN 2 (.tmp 5), none⟩,
⟨none, .update (.one 1) (.tmp 34) (.tmp 38) (.tmp 39), none⟩] [[], [], [], [], [], [], [], [], [], []])
 (.seq
 (.seq
 (.region [⟨(some 40), .move (.tmp 1), none⟩,
⟨(some 41), .nilCheck (.tmp 40), none⟩,
⟨(some 42), .off 1 (.tmp 41), none⟩,
⟨(some 43), .load (.tmp 42), none⟩,
⟨(some 44), .call 177 [(.tmp 43)], none⟩,
⟨(some 9), .move (.tmp 44), none⟩])
 (.seq
 (.region [⟨(some 45), .move (.tmp 9), none⟩,
⟨(some 46), .bin .gtr (.tmp 45) (.const (.int .i64 0)), none⟩])
 (.cond (.tmp 46)
 (.region [⟨(some 47), .move (.tmp 0), none⟩,
⟨(some 48), .move (.tmp 9), none⟩,
⟨(some 49), .nilCheck (.tmp 47), none⟩,
⟨(some 50), .off 7 (.tmp 49), none⟩,
⟨none, .store 1 (.tmp 50) (.tmp 48), none⟩])
 .skip
)
)
)
 (.seq
 (.draw [⟨(some 51), .move (.tmp 0), none⟩,
⟨(some 52), .nilCheck (.tmp 51), none⟩,
⟨(some 53), .off 9 (.tmp 52), none⟩,
⟨(some 54), .load (.tmp 53), none⟩,
⟨(some 55), .move (.tmp 1), none⟩,
⟨(some 56), .nilCheck (.tmp 55), none⟩,
⟨(some 57), .off 1 (.tmp 56), none⟩,
⟨(some 58), .load (.tmp 57), none⟩,
⟨(some 59), .call 178 [(.tmp 58)], none⟩,
⟨(some 60), .bin .add (.tmp 54) (.tmp 59), none⟩,
⟨(some 61), .nilCheck (.tmp 51), none⟩,
⟨(some 62), .off 9 (.tmp 61), none⟩,
⟨none, .store 1 (.tmp 62) (.tmp 60), none⟩] [[], [], [], [8], [], [], [], [], [], [], [], [], []])
 (.seq
 (.region [⟨(some 4), .move (.const (.int .i64 2)), none⟩])
 .ret
)
)
)
)
 (.seq
 (.region [⟨(some 64), .move (.tmp 8), none⟩,
⟨(some 65), .move (.tmp 64), none⟩,
⟨(some 66), .move (.tmp 0), (some (65, true))⟩,
⟨(some 67), .move (.tmp 1), (some (65, true))⟩,
⟨(some 68), .call 105 [(.tmp 66), (.tmp 67)], (some (65, true))⟩,
⟨(some 69), .pick (.tmp 65) (.tmp 68) (.const (.bool false)), none⟩,
⟨(some 63), .move (.tmp 69), none⟩])
 (.cond (.tmp 63)
 (.seq
 (.region [⟨(some 70), .move (.tmp 0), none⟩,
⟨(some 71), .move (.tmp 0), none⟩,
⟨(some 72), .nilCheck (.tmp 71), none⟩,
⟨(some 73), .off 6 (.tmp 72), none⟩,
⟨(some 74), .load (.tmp 73), none⟩,
⟨(some 75), .move (.tmp 1), none⟩,
⟨(some 76), .buildSlice 173 1 1 #[(.pointer none)] [(0, (.tmp 75))], none⟩,
⟨(some 77), .append 173 1 8 (.tmp 74) (.tmp 76), none⟩,
⟨(some 78), .nilCheck (.tmp 70), none⟩,
⟨(some 79), .off 6 (.tmp 78), none⟩,
⟨none, .store 1 (.tmp 79) (.tmp 77), none⟩])
 (.seq
 (.region [⟨(some 4), .move (.const (.int .i64 4)), none⟩])
 .ret
)
)
 (.seq
 (.region [⟨(some 81), .move (.tmp 8), none⟩,
⟨(some 80), .move (.tmp 81), none⟩])
 (.cond (.tmp 80)
 (.seq
 (.region [⟨(some 82), .move (.tmp 0), none⟩,
⟨(some 83), .move (.tmp 1), none⟩,
⟨(some 84), .nilCheck (.tmp 82), none⟩,
⟨(some 85), .off 5 (.tmp 84), none⟩,
⟨none, .store 1 (.tmp 85) (.tmp 83), none⟩])
 (.seq
 (.region [⟨(some 4), .move (.const (.int .i64 3)), none⟩])
 .ret
)
)
 .skip
)
)
)
)
)
)
)
 (.seq
 (.region [⟨(some 86), .move (.tmp 0), none⟩,
⟨(some 87), .move (.tmp 1), none⟩,
⟨(some 88), .nilCheck (.tmp 86), none⟩,
⟨(some 89), .off 5 (.tmp 88), none⟩,
⟨none, .store 1 (.tmp 89) (.tmp 87), none⟩])
 (.seq
 (.region [⟨(some 4), .move (.const (.int .i64 1)), none⟩])
 .ret
)
)
)
)
)
)
)
, [.tmp 4]⟩
theorem c_95 : plainFn Tryz.prog 95 = some a_95 := by kernel_rfl
-- (*haycroft/hlog.Log).Epoch
noncomputable def a_96 : AFun := ⟨9,
(.seq
 (.region [⟨(some 2), .move (.const (.pointer none)), none⟩])
 (.seq
 (.seq
 (.region [⟨(some 3), .move (.tmp 0), none⟩,
⟨(some 4), .eq false .pointer (.tmp 3) (.const (.pointer none)), none⟩])
 (.cond (.tmp 4)
 (.seq
 (.region [⟨(some 2), .move (.const (.pointer none)), none⟩])
 .ret
)
 .skip
)
)
 (.seq
 (.region [⟨(some 5), .move (.tmp 0), none⟩,
⟨(some 6), .nilCheck (.tmp 5), none⟩,
⟨(some 7), .off 3 (.tmp 6), none⟩,
⟨(some 8), .load (.tmp 7), none⟩,
⟨(some 2), .move (.tmp 8), none⟩])
 .ret
)
)
)
, [.tmp 2]⟩
theorem c_96 : plainFn Tryz.prog 96 = some a_96 := by kernel_rfl
-- (*haycroft/epoch.Table).Seen
noncomputable def a_97 : AFun := ⟨16,
(.seq
 (.region [⟨(some 4), .move (.const (.int .u64 0)), none⟩])
 (.seq
 (.seq
 (.region [⟨(some 5), .move (.tmp 0), none⟩,
⟨(some 6), .move (.tmp 1), none⟩,
⟨(some 7), .call 179 [(.tmp 5), (.tmp 6)], none⟩,
⟨(some 8), .un .not (.tmp 7), none⟩])
 (.cond (.tmp 8)
 (.seq
 (.region [⟨(some 4), .move (.const (.int .u64 0)), none⟩])
 .ret
)
 .skip
)
)
 (.seq
 (.region [⟨(some 9), .move (.tmp 0), none⟩,
⟨(some 10), .nilCheck (.tmp 9), none⟩,
⟨(some 11), .off 0 (.tmp 10), none⟩,
⟨(some 12), .load (.tmp 11), none⟩,
⟨(some 13), .move (.tmp 1), none⟩,
⟨(some 14), .bin .add (.const (.int .i64 1)) (.tmp 13), none⟩,
⟨(some 15), .call 160 [(.tmp 12), (.tmp 14)], none⟩,
⟨(some 4), .move (.tmp 15), none⟩])
 .ret
)
)
)
, [.tmp 4]⟩
theorem c_97 : plainFn Tryz.prog 97 = some a_97 := by kernel_rfl
-- (*haycroft/epoch.Table).Enter
noncomputable def a_98 : AFun := ⟨10,
(.seq
 (.region [⟨(some 4), .move (.const (.int .i64 0)), none⟩])
 (.seq
 (.region [⟨(some 5), .move (.tmp 0), none⟩,
⟨(some 6), .move (.tmp 1), none⟩,
⟨(some 7), .move (.tmp 0), none⟩,
⟨(some 8), .call 181 [(.tmp 7)], none⟩,
⟨(some 9), .call 180 [(.tmp 5), (.tmp 6), (.const (.bool false)), (.tmp 8), (.const (.int .i64 8))], none⟩,
⟨(some 4), .move (.tmp 9), none⟩])
 .ret
)
)
, [.tmp 4]⟩
theorem c_98 : plainFn Tryz.prog 98 = some a_98 := by kernel_rfl
-- (*haycroft/task.Task).Move
noncomputable def a_99 : AFun := ⟨38,
(.seq
 (.region [⟨(some 2), .move (.const (.int .i64 0)), none⟩,
⟨(some 3), .move (.const (.int .i64 0)), none⟩])
 (.seq
 (.block 0
 (.seq
 (.region [⟨(some 5), .move (.tmp 0), none⟩,
⟨(some 6), .eq false .pointer (.tmp 5) (.const (.pointer none)), none⟩,
⟨(some 4), .move (.tmp 6), none⟩])
 (.cond (.tmp 4)
 (.seq
 (.region [⟨(some 7), .call 182 [(.const (.int .i64 2))], none⟩,
⟨(some 8), .extract (.tmp 7) 0, none⟩,
⟨(some 9), .extract (.tmp 7) 1, none⟩,
⟨(some 2), .move (.tmp 8), none⟩,
⟨(some 3), .move (.tmp 9), none⟩])
 .ret
)
 (.seq
 (.region [⟨(some 11), .move (.tmp 0), none⟩,
⟨(some 12), .nilCheck (.tmp 11), none⟩,
⟨(some 13), .off 20 (.tmp 12), none⟩,
⟨(some 14), .load (.tmp 13), none⟩,
⟨(some 10), .move (.tmp 14), none⟩])
 (.cond (.tmp 10)
 (.seq
 (.region [⟨(some 2), .move (.const (.int .i64 2)), none⟩,
⟨(some 3), .move (.const (.int .i64 0)), none⟩])
 .ret
)
 (.seq
 (.draw [⟨(some 16), .move (.tmp 0), none⟩,
⟨(some 17), .nilCheck (.tmp 16), none⟩,
⟨(some 18), .off 0 (.tmp 17), none⟩,
⟨(some 19), .load (.tmp 18), none⟩,
⟨(some 20), .call 96 [(.tmp 19)], none⟩,
⟨(some 21), .move (.tmp 0), none⟩,
⟨(some 22), .nilCheck (.tmp 21), none⟩,
⟨(some 23), .off 2 (.tmp 22), none⟩,
⟨(some 24), .load (.tmp 23), none⟩,
⟨(some 25), .call 97 [(.tmp 20), (.tmp 24)], none⟩,
⟨(some 26), .bin .eql (.tmp 25) (.const (.int .u64 0)), none⟩,
⟨(some 15), .move (.tmp 26), none⟩] [[], [], [], [], [], [], [], [], [4], [], [], []])
 (.cond (.tmp 15)
 (.seq
 (.region [⟨(some 27), .call 182 [(.const (.int .i64 7))], none⟩,
⟨(some 28), .extract (.tmp 27) 0, none⟩,
⟨(some 29), .extract (.tmp 27) 1, none⟩,
⟨(some 2), .move (.tmp 28), none⟩,
⟨(some 3), .move (.tmp 29), none⟩])
 .ret
)
 .skip
)
)
)
)
)
)
)
 (.seq
 (.region [⟨(some 30), .move (.tmp 0), none⟩,
⟨(some 31), .nilCheck (.tmp 30), none⟩,
⟨(some 32), .off 8 (.tmp 31), none⟩,
⟨(some 33), .load (.tmp 32), none⟩,
⟨(some 34), .move (.tmp 0), none⟩,
⟨(some 35), .callV (.tmp 33) [(.tmp 34)], none⟩,
⟨(some 36), .extract (.tmp 35) 0, none⟩,
⟨(some 37), .extract (.tmp 35) 1, none⟩,
⟨(some 2), .move (.tmp 36), none⟩,
⟨(some 3), .move (.tmp 37), none⟩])
 .ret
)
)
)
, [.tmp 2, .tmp 3]⟩
theorem c_99 : plainFn Tryz.prog 99 = some a_99 := by kernel_rfl
-- (*haycroft/epoch.Table).Leave
noncomputable def a_100 : AFun := ⟨8,
(.seq
 (.region [⟨(some 4), .move (.const (.int .i64 0)), none⟩])
 (.seq
 (.region [⟨(some 5), .move (.tmp 0), none⟩,
⟨(some 6), .move (.tmp 1), none⟩,
⟨(some 7), .call 180 [(.tmp 5), (.tmp 6), (.const (.bool true)), (.const (.int .u64 0)), (.const (.int .i64 7))], none⟩,
⟨(some 4), .move (.tmp 7), none⟩])
 .ret
)
)
, [.tmp 4]⟩
theorem c_100 : plainFn Tryz.prog 100 = some a_100 := by kernel_rfl
-- (*haycroft/hlog.Log).Settle
noncomputable def a_101 : AFun := ⟨54,
(.seq
 (.region [⟨(some 2), .move (.const (.int .i64 0)), none⟩])
 (.seq
 (.seq
 (.region [⟨(some 6), .move (.tmp 0), none⟩,
⟨(some 7), .eq false .pointer (.tmp 6) (.const (.pointer none)), none⟩])
 (.cond (.tmp 7)
 (.seq
 (.region [⟨(some 2), .move (.const (.int .i64 0)), none⟩])
 .ret
)
 .skip
)
)
 (.seq
 (.draw [⟨(some 8), .move (.tmp 0), none⟩,
⟨(some 9), .nilCheck (.tmp 8), none⟩,
⟨(some 10), .off 4 (.tmp 9), none⟩,
⟨(some 11), .load (.tmp 10), none⟩,
⟨(some 12), .move (.tmp 0), none⟩,
⟨(some 13), .nilCheck (.tmp 12), none⟩,
⟨(some 14), .off 3 (.tmp 13), none⟩,
⟨(some 15), .load (.tmp 14), none⟩,
⟨(some 16), .call 184 [(.tmp 15)], none⟩,
⟨(some 17), .call 183 [(.tmp 11), (.tmp 16)], none⟩,
⟨(some 3), .move (.tmp 17), none⟩] [[], [], [], [8], [], [], [], [], [], [], []])
 (.seq
 (.seq
 (.region [⟨(some 18), .move (.tmp 3), none⟩,
⟨(some 19), .lenSl (.tmp 18), none⟩,
⟨(some 20), .move (.const (.int .i64 0)), none⟩])
 (.block 0
 (.loop none
 (.seq
 (.region [⟨(some 21), .bin .lss (.tmp 20) (.tmp 19), none⟩])
 (.seq
 (.cond (.tmp 21)
 .skip
 (.exit 0)
)
 (.seq
 (.block 1
 (.seq
 (.region [⟨(some 22), .ixSl 3 (.tmp 18) (.tmp 20), none⟩,
⟨(some 23), .loadN 3 (.tmp 22), none⟩,
⟨(some 5), .new 287 #[(.int .u64 0), (.int .i64 0), (.int .i64 0)], none⟩,
⟨none, .store 3 (.tmp 5) (.tmp 23), none⟩])
 (.seq
 (.region [⟨(some 24), .off 1 (.tmp 5), none⟩,
⟨(some 25), .load (.tmp 24), none⟩,
⟨(some 26), .bin .eql (.tmp 25) (.const (.int .i64 1)), none⟩])
 (.cond (.tmp 26)
 (.draw [⟨(some 27), .move (.tmp 0), none⟩,
⟨(some 28), .nilCheck (.tmp 27), none⟩,
⟨(some 29), .off 2 (.tmp 28), none⟩,
⟨(some 30), .load (.tmp 29), none⟩,
⟨(some 31), .off 2 (.tmp 5), none⟩,
⟨(some 32), .load (.tmp 31), none⟩,
⟨(some 33), .move (.tmp 0), none⟩,
⟨(some 34), .nilCheck (.tmp 33), none⟩,
⟨(some 35), .off 0 (.tmp 34), none⟩,
⟨(some 36), .load (.tmp 35), none⟩,
⟨(some 37), .call 149 [(.tmp 36)], none⟩,
⟨(some 38), .call 185 [(.tmp 30), (.const (.int .i64 1)), (.tmp 32), (.tmp 37)], none⟩] [[], [], [], [10], [], [10], [], [], [], [], [], []])
 (.draw [⟨(some 39), .move (.tmp 0), none⟩,
⟨(some 40), .nilCheck (.tmp 39), none⟩,
⟨(some 41), .off 2 (.tmp 40), none⟩,
⟨(some 42), .load (.tmp 41), none⟩,
⟨(some 43), .off 2 (.tmp 5), none⟩,
⟨(some 44), .load (.tmp 43), none⟩,
⟨(some 45), .move (.tmp 0), none⟩,
⟨(some 46), .nilCheck (.tmp 45), none⟩,
⟨(some 47), .off 0 (.tmp 46), none⟩,
⟨(some 48), .load (.tmp 47), none⟩,
⟨(some 49), .call 149 [(.tmp 48)], none⟩,
⟨(some 50), .call 185 [(.tmp 42), (.const (.int .i64 4)), (.tmp 44), (.tmp 49)], none⟩] [[], [], [], [10], [], [10], [], [], [], [], [], []])
)
)
)
)
 (.region [⟨(some 51), .bin .add (.tmp 20) (.const (.int .i64 1)), none⟩,
⟨(some 20), .move (.tmp 51), none⟩])
)
)
)
)
)
)
 (.seq
 (.region [⟨(some 52), .move (.tmp 3), none⟩,
⟨(some 53), .lenSl (.tmp 52), none⟩,
⟨(some 2), .move (.tmp 53), none⟩])
 .ret
)
)
)
)
)
, [.tmp 2]⟩
theorem c_101 : plainFn Tryz.prog 101 = some a_101 := by kernel_rfl
-- (*haycroft/hlog.Log).Device
noncomputable def a_102 : AFun := ⟨9,
(.seq
 (.region [⟨(some 2), .move (.const (.pointer none)), none⟩])
 (.seq
 (.seq
 (.region [⟨(some 3), .move (.tmp 0), none⟩,
⟨(some 4), .eq false .pointer (.tmp 3) (.const (.pointer none)), none⟩])
 (.cond (.tmp 4)
 (.seq
 (.region [⟨(some 2), .move (.const (.pointer none)), none⟩])
 .ret
)
 .skip
)
)
 (.seq
 (.region [⟨(some 5), .move (.tmp 0), none⟩,
⟨(some 6), .nilCheck (.tmp 5), none⟩,
⟨(some 7), .off 5 (.tmp 6), none⟩,
⟨(some 8), .load (.tmp 7), none⟩,
⟨(some 2), .move (.tmp 8), none⟩])
 .ret
)
)
)
, [.tmp 2]⟩
theorem c_102 : plainFn Tryz.prog 102 = some a_102 := by kernel_rfl
-- haycroft/place.May
noncomputable def a_119 : AFun := ⟨9,
(.seq
 (.region [⟨(some 2), .move (.const (.bool false)), none⟩])
 (.seq
 (.region [⟨(some 3), .move (.tmp 0), none⟩,
⟨(some 4), .bin .geq (.tmp 3) (.const (.int .i64 5)), none⟩,
⟨(some 5), .move (.tmp 4), none⟩,
⟨(some 6), .move (.tmp 0), (some (5, true))⟩,
⟨(some 7), .bin .leq (.tmp 6) (.const (.int .i64 9)), (some (5, true))⟩,
⟨(some 8), .pick (.tmp 5) (.tmp 7) (.const (.bool false)), none⟩,
⟨(some 2), .move (.tmp 8), none⟩])
 .ret
)
)
, [.tmp 2]⟩
theorem c_119 : plainFn Tryz.prog 119 = some a_119 := by kernel_rfl
-- haycroft/mix.May
noncomputable def a_120 : AFun := ⟨16,
(.seq
 (.region [⟨(some 2), .move (.const (.bool false)), none⟩])
 (.seq
 (.region [⟨(some 3), .move (.tmp 0), none⟩,
⟨(some 4), .bin .geq (.tmp 3) (.const (.int .i64 1)), none⟩,
⟨(some 5), .move (.tmp 4), none⟩,
⟨(some 6), .move (.tmp 0), (some (5, true))⟩,
⟨(some 7), .bin .leq (.tmp 6) (.const (.int .i64 1024)), (some (5, true))⟩,
⟨(some 8), .pick (.tmp 5) (.tmp 7) (.const (.bool false)), none⟩,
⟨(some 9), .move (.tmp 8), none⟩,
⟨(some 10), .move (.tmp 0), (some (9, true))⟩,
⟨(some 11), .move (.tmp 0), (some (9, true))⟩,
⟨(some 12), .bin .sub (.tmp 11) (.const (.int .i64 1)), (some (9, true))⟩,
⟨(some 13), .bin .and (.tmp 10) (.tmp 12), (some (9, true))⟩,
⟨(some 14), .bin .eql (.tmp 13) (.const (.int .i64 0)), (some (9, true))⟩,
⟨(some 15), .pick (.tmp 9) (.tmp 14) (.const (.bool false)), none⟩,
⟨(some 2), .move (.tmp 15), none⟩])
 .ret
)
)
, [.tmp 2]⟩
theorem c_120 : plainFn Tryz.prog 120 = some a_120 := by kernel_rfl
-- haycroft/save.Find
noncomputable def a_121 : AFun := ⟨54,
(.seq
 (.region [⟨(some 2), .new 202 #[(.int .i64 0), (.int .i64 0), (.slice none 0 0), (.slice none 0 0)], none⟩,
⟨(some 3), .move (.const (.bool false)), none⟩])
 (.seq
 (.region [⟨(some 4), .move (.const (.slice none 0 0)), none⟩])
 (.seq
 (.seq
 (.region [⟨(some 14), .move (.const (.int .i64 0)), none⟩])
 (.block 0
 (.loop none
 (.seq
 (.region [⟨(some 15), .bin .lss (.tmp 14) (.const (.int .i64 2)), none⟩])
 (.seq
 (.cond (.tmp 15)
 .skip
 (.exit 0)
)
 (.seq
 (.block 1
 (.seq
 (.region [⟨(some 16), .move (.tmp 14), none⟩,
⟨(some 5), .move (.tmp 16), none⟩])
 (.seq
 (.region [⟨(some 18), .move (.tmp 0), none⟩,
⟨(some 19), .move (.tmp 5), none⟩,
⟨(some 20), .build #[(.int .i64 0), (.int .i64 0)] #[(0, 1), (1, 1)] [(0, (.const (.int .i64 2))), (1, (.tmp 19))], none⟩,
⟨(some 21), .call 132 [(.tmp 18), (.tmp 20)], none⟩,
⟨(some 17), .move (.tmp 21), none⟩,
⟨(some 22), .extract (.tmp 17) 0, none⟩,
⟨(some 23), .extract (.tmp 17) 1, none⟩,
⟨(some 6), .move (.tmp 22), none⟩,
⟨(some 7), .move (.tmp 23), none⟩])
 (.seq
 (.region [⟨(some 25), .move (.tmp 6), none⟩,
⟨(some 26), .call 213 [(.tmp 25)], none⟩,
⟨(some 24), .move (.tmp 26), none⟩,
⟨(some 27), .extract (.tmp 24) 0, none⟩,
⟨(some 28), .extract (.tmp 24) 1, none⟩,
⟨(some 8), .new 314 #[(.int .i64 0), (.int .i64 0), (.int .u64 0)], none⟩,
⟨none, .store 3 (.tmp 8) (.tmp 27), none⟩,
⟨(some 9), .move (.tmp 28), none⟩])
 (.seq
 (.region [⟨(some 29), .move (.tmp 9), none⟩,
⟨(some 30), .bin .eql (.tmp 29) (.const (.int .i64 0)), none⟩])
 (.cond (.tmp 30)
 (.region [⟨(some 31), .move (.tmp 4), none⟩,
⟨(some 32), .loadN 3 (.tmp 8), none⟩,
⟨(some 33), .buildSlice 314 3 1 #[(.int .i64 0), (.int .i64 0), (.int .u64 0)] [(0, (.tmp 32))], none⟩,
⟨(some 34), .append 314 3 24 (.tmp 31) (.tmp 33), none⟩,
⟨(some 4), .move (.tmp 34), none⟩])
 .skip
)
)
)
)
)
)
 (.region [⟨(some 35), .bin .add (.tmp 14) (.const (.int .i64 1)), none⟩,
⟨(some 14), .move (.tmp 35), none⟩])
)
)
)
)
)
)
 (.seq
 (.region [⟨(some 36), .move (.tmp 4), none⟩,
⟨(some 37), .call 214 [(.tmp 36), (.func 215)], none⟩])
 (.seq
 (.seq
 (.region [⟨(some 38), .move (.tmp 4), none⟩,
⟨(some 39), .lenSl (.tmp 38), none⟩,
⟨(some 40), .move (.const (.int .i64 0)), none⟩])
 (.block 2
 (.loop none
 (.seq
 (.region [⟨(some 41), .bin .lss (.tmp 40) (.tmp 39), none⟩])
 (.seq
 (.cond (.tmp 41)
 .skip
 (.exit 2)
)
 (.seq
 (.block 3
 (.seq
 (.region [⟨(some 42), .ixSl 3 (.tmp 38) (.tmp 40), none⟩,
⟨(some 43), .loadN 3 (.tmp 42), none⟩,
⟨(some 11), .new 314 #[(.int .i64 0), (.int .i64 0), (.int .u64 0)], none⟩,
⟨none, .store 3 (.tmp 11) (.tmp 43), none⟩])
 (.seq
 (.region [⟨(some 45), .move (.tmp 0), none⟩,
⟨(some 46), .loadN 3 (.tmp 11), none⟩,
⟨(some 47), .call 217 [(.tmp 45), (.tmp 46)], none⟩,
⟨(some 44), .move (.tmp 47), none⟩,
⟨(some 48), .extract (.tmp 44) 0, none⟩,
⟨(some 49), .extract (.tmp 44) 1, none⟩,
⟨(some 12), .new 202 #[(.int .i64 0), (.int .i64 0), (.slice none 0 0), (.slice none 0 0)], none⟩,
⟨none, .store 4 (.tmp 12) (.tmp 48), none⟩,
⟨(some 13), .move (.tmp 49), none⟩])
 (.seq
 (.region [⟨(some 50), .move (.tmp 13), none⟩])
 (.cond (.tmp 50)
 (.seq
 (.region [⟨(some 51), .loadN 4 (.tmp 12), none⟩,
⟨none, .store 4 (.tmp 2) (.tmp 51), none⟩,
⟨(some 3), .move (.const (.bool true)), none⟩])
 .ret
)
 .skip
)
)
)
)
)
 (.region [⟨(some 52), .bin .add (.tmp 40) (.const (.int .i64 1)), none⟩,
⟨(some 40), .move (.tmp 52), none⟩])
)
)
)
)
)
)
 (.seq
 (.region [⟨(some 53), .build #[(.int .i64 0), (.int .i64 0), (.slice none 0 0), (.slice none 0 0)] #[(0, 1), (1, 1), (2, 1), (3, 1)] [], none⟩,
⟨none, .store 4 (.tmp 2) (.tmp 53), none⟩,
⟨(some 3), .move (.const (.bool false)), none⟩])
 .ret
)
)
)
)
)
)
, [.cell 2 (some 4), .tmp 3]⟩
theorem c_121 : plainFn Tryz.prog 121 = some a_121 := by kernel_rfl
-- haycroft/store.fresh
noncomputable def a_123 : AFun := ⟨64,
(.seq
 (.region [⟨(some 2), .box 23 (.tmp 0), none⟩,
⟨(some 4), .move (.const (.pointer none)), none⟩,
⟨(some 5), .move (.const (.int .i64 0)), none⟩])
 (.seq
 (.region [⟨(some 14), .loadN 6 (.tmp 2), none⟩,
⟨(some 15), .move (.tmp 1), none⟩,
⟨(some 16), .call 220 [(.tmp 14), (.tmp 15)], none⟩,
⟨(some 13), .move (.tmp 16), none⟩,
⟨(some 17), .extract (.tmp 13) 0, none⟩,
⟨(some 18), .extract (.tmp 13) 1, none⟩,
⟨(some 6), .move (.tmp 17), none⟩,
⟨(some 7), .move (.tmp 18), none⟩])
 (.seq
 (.seq
 (.region [⟨(some 19), .move (.tmp 7), none⟩,
⟨(some 20), .bin .neq (.tmp 19) (.const (.int .i64 0)), none⟩])
 (.cond (.tmp 20)
 (.seq
 (.region [⟨(some 21), .move (.tmp 7), none⟩,
⟨(some 4), .move (.const (.pointer none)), none⟩,
⟨(some 5), .move (.tmp 21), none⟩])
 .ret
)
 .skip
)
)
 (.seq
 (.region [⟨(some 23), .off 3 (.tmp 2), none⟩,
⟨(some 24), .load (.tmp 23), none⟩,
⟨(some 25), .off 4 (.tmp 2), none⟩,
⟨(some 26), .load (.tmp 25), none⟩,
⟨(some 27), .call 221 [(.tmp 24), (.tmp 26)], none⟩,
⟨(some 22), .move (.tmp 27), none⟩,
⟨(some 28), .extract (.tmp 22) 0, none⟩,
⟨(some 29), .extract (.tmp 22) 1, none⟩,
⟨(some 8), .move (.tmp 28), none⟩,
⟨(some 7), .move (.tmp 29), none⟩])
 (.seq
 (.seq
 (.region [⟨(some 30), .move (.tmp 7), none⟩,
⟨(some 31), .bin .neq (.tmp 30) (.const (.int .i64 0)), none⟩])
 (.cond (.tmp 31)
 (.seq
 (.region [⟨(some 32), .move (.tmp 7), none⟩,
⟨(some 4), .move (.const (.pointer none)), none⟩,
⟨(some 5), .move (.tmp 32), none⟩])
 .ret
)
 .skip
)
)
 (.seq
 (.region [⟨(some 33), .move (.tmp 6), none⟩,
⟨(some 34), .move (.tmp 8), none⟩,
⟨(some 35), .build #[(.pointer none), (.pointer none), (.slice none 0 0), (.int .i64 0), (.pointer none)] #[(0, 1), (1, 1), (2, 1), (3, 1), (4, 1)] [(0, (.tmp 33)), (1, (.tmp 34))], none⟩,
⟨(some 36), .box 97 (.tmp 35), none⟩,
⟨(some 9), .move (.tmp 36), none⟩])
 (.seq
 (.seq
 (.region [⟨(some 37), .off 5 (.tmp 2), none⟩,
⟨(some 38), .load (.tmp 37), none⟩,
⟨(some 39), .move (.const (.int .i64 0)), none⟩])
 (.block 0
 (.loop none
 (.seq
 (.region [⟨(some 40), .bin .lss (.tmp 39) (.tmp 38), none⟩])
 (.seq
 (.cond (.tmp 40)
 .skip
 (.exit 0)
)
 (.seq
 (.block 1
 (.seq
 (.region [⟨(some 41), .move (.tmp 39), none⟩,
⟨(some 10), .move (.tmp 41), none⟩])
 (.seq
 (.region [⟨(some 43), .move (.tmp 6), none⟩,
⟨(some 44), .move (.tmp 8), none⟩,
⟨(some 45), .move (.tmp 10), none⟩,
⟨(some 46), .call 222 [(.tmp 43), (.tmp 44), (.tmp 45)], none⟩,
⟨(some 42), .move (.tmp 46), none⟩,
⟨(some 47), .extract (.tmp 42) 0, none⟩,
⟨(some 48), .extract (.tmp 42) 1, none⟩,
⟨(some 11), .move (.tmp 47), none⟩,
⟨(some 12), .move (.tmp 48), none⟩])
 (.seq
 (.seq
 (.region [⟨(some 49), .move (.tmp 12), none⟩,
⟨(some 50), .bin .neq (.tmp 49) (.const (.int .i64 0)), none⟩])
 (.cond (.tmp 50)
 (.seq
 (.region [⟨(some 51), .move (.tmp 12), none⟩,
⟨(some 4), .move (.const (.pointer none)), none⟩,
⟨(some 5), .move (.tmp 51), none⟩])
 .ret
)
 .skip
)
)
 (.region [⟨(some 52), .move (.tmp 9), none⟩,
⟨(some 53), .move (.tmp 9), none⟩,
⟨(some 54), .nilCheck (.tmp 53), none⟩,
⟨(some 55), .off 2 (.tmp 54), none⟩,
⟨(some 56), .load (.tmp 55), none⟩,
⟨(some 57), .move (.tmp 11), none⟩,
⟨(some 58), .buildSlice 51 1 1 #[(.pointer none)] [(0, (.tmp 57))], none⟩,
⟨(some 59), .append 51 1 8 (.tmp 56) (.tmp 58), none⟩,
⟨(some 60), .nilCheck (.tmp 52), none⟩,
⟨(some 61), .off 2 (.tmp 60), none⟩,
⟨none, .store 1 (.tmp 61) (.tmp 59), none⟩])
)
)
)
)
 (.region [⟨(some 62), .bin .add (.tmp 39) (.const (.int .i64 1)), none⟩,
⟨(some 39), .move (.tmp 62), none⟩])
)
)
)
)
)
)
 (.seq
 (.region [⟨(some 63), .move (.tmp 9), none⟩,
⟨(some 4), .move (.tmp 63), none⟩,
⟨(some 5), .move (.const (.int .i64 0)), none⟩])
 .ret
)
)
)
)
)
)
)
)
, [.tmp 4, .tmp 5]⟩
theorem c_123 : plainFn Tryz.prog 123 = some a_123 := by kernel_rfl
-- slices.Sorted[int]
noncomputable def a_124 : AFun := ⟨9,
(.seq
 (.region [⟨(some 2), .move (.const (.slice none 0 0)), none⟩])
 (.seq
 (.region [⟨(some 4), .move (.tmp 0), none⟩,
⟨(some 5), .call 195 [(.tmp 4)], none⟩,
⟨(some 3), .move (.tmp 5), none⟩])
 (.seq
 (.region [⟨(some 6), .move (.tmp 3), none⟩,
⟨(some 7), .call 223 [(.tmp 6)], none⟩])
 (.seq
 (.region [⟨(some 8), .move (.tmp 3), none⟩,
⟨(some 2), .move (.tmp 8), none⟩])
 .ret
)
)
)
)
, [.tmp 2]⟩
theorem c_124 : plainFn Tryz.prog 124 = some a_124 := by kernel_rfl
-- maps.Keys[map[int]haycroft/device.job,int,haycroft/device.job]
noncomputable def a_125 : AFun := ⟨4,
(.seq
 (.region [⟨(some 1), .box 106 (.tmp 0), none⟩,
⟨(some 2), .move (.const .nilFunc), none⟩])
 (.seq
 (.region [⟨(some 3), .makeFunc 224 [] [(.tmp 1)], none⟩,
⟨(some 2), .move (.tmp 3), none⟩])
 .ret
)
)
, [.tmp 2]⟩
theorem c_125 : plainFn Tryz.prog 125 = some a_125 := by kernel_rfl
-- slices.IndexFunc[[]haycroft/watch.asked,haycroft/watch.asked]
noncomputable def a_126 : AFun := ⟨19,
(.seq
 (.region [⟨(some 4), .move (.const (.int .i64 0)), none⟩])
 (.seq
 (.seq
 (.region [⟨(some 6), .move (.tmp 0), none⟩,
⟨(some 7), .lenSl (.tmp 6), none⟩,
⟨(some 8), .move (.const (.int .i64 0)), none⟩])
 (.block 0
 (.loop none
 (.seq
 (.region [⟨(some 9), .bin .lss (.tmp 8) (.tmp 7), none⟩])
 (.seq
 (.cond (.tmp 9)
 .skip
 (.exit 0)
)
 (.seq
 (.block 1
 (.seq
 (.region [⟨(some 10), .move (.tmp 8), none⟩,
⟨(some 5), .move (.tmp 10), none⟩])
 (.seq
 (.region [⟨(some 11), .move (.tmp 1), none⟩,
⟨(some 12), .move (.tmp 0), none⟩,
⟨(some 13), .move (.tmp 5), none⟩,
⟨(some 14), .ixSl 3 (.tmp 12) (.tmp 13), none⟩,
⟨(some 15), .loadN 3 (.tmp 14), none⟩,
⟨(some 16), .callV (.tmp 11) [(.tmp 15)], none⟩])
 (.cond (.tmp 16)
 (.seq
 (.region [⟨(some 17), .move (.tmp 5), none⟩,
⟨(some 4), .move (.tmp 17), none⟩])
 .ret
)
 .skip
)
)
)
)
 (.region [⟨(some 18), .bin .add (.tmp 8) (.const (.int .i64 1)), none⟩,
⟨(some 8), .move (.tmp 18), none⟩])
)
)
)
)
)
)
 (.seq
 (.region [⟨(some 4), .move (.const (.int .i64 (-1))), none⟩])
 .ret
)
)
)
, [.tmp 4]⟩
theorem c_126 : plainFn Tryz.prog 126 = some a_126 := by kernel_rfl
-- haycroft/place.Page
noncomputable def a_130 : AFun := ⟨11,
(.seq
 (.region [⟨(some 4), .move (.const (.int .i64 0)), none⟩])
 (.seq
 (.region [⟨(some 5), .move (.tmp 0), none⟩,
⟨(some 6), .move (.tmp 1), none⟩,
⟨(some 7), .move (.tmp 0), none⟩,
⟨(some 8), .move (.tmp 0), none⟩,
⟨(some 9), .bin .sub (.const (.int .i64 48)) (.tmp 8), none⟩,
⟨(some 10), .call 135 [(.tmp 5), (.tmp 6), (.tmp 7), (.tmp 9)], none⟩,
⟨(some 4), .move (.tmp 10), none⟩])
 .ret
)
)
, [.tmp 4]⟩
theorem c_130 : plainFn Tryz.prog 130 = some a_130 := by kernel_rfl
-- (*haycroft/hlog.Log).Pages
noncomputable def a_131 : AFun := ⟨9,
(.seq
 (.region [⟨(some 2), .move (.const (.pointer none)), none⟩])
 (.seq
 (.seq
 (.region [⟨(some 3), .move (.tmp 0), none⟩,
⟨(some 4), .eq false .pointer (.tmp 3) (.const (.pointer none)), none⟩])
 (.cond (.tmp 4)
 (.seq
 (.region [⟨(some 2), .move (.const (.pointer none)), none⟩])
 .ret
)
 .skip
)
)
 (.seq
 (.region [⟨(some 5), .move (.tmp 0), none⟩,
⟨(some 6), .nilCheck (.tmp 5), none⟩,
⟨(some 7), .off 1 (.tmp 6), none⟩,
⟨(some 8), .load (.tmp 7), none⟩,
⟨(some 2), .move (.tmp 8), none⟩])
 .ret
)
)
)
, [.tmp 2]⟩
theorem c_131 : plainFn Tryz.prog 131 = some a_131 := by kernel_rfl
-- (*haycroft/device.Device).Peek
noncomputable def a_132 : AFun := ⟨21,
(.seq
 (.region [⟨(some 3), .box 113 (.tmp 1), none⟩,
⟨(some 4), .move (.const (.string (strB []))), none⟩,
⟨(some 5), .move (.const (.bool false)), none⟩])
 (.seq
 (.seq
 (.region [⟨(some 8), .move (.tmp 0), none⟩,
⟨(some 9), .eq false .pointer (.tmp 8) (.const (.pointer none)), none⟩])
 (.cond (.tmp 9)
 (.seq
 (.region [⟨(some 4), .move (.const (.string (strB []))), none⟩,
⟨(some 5), .move (.const (.bool false)), none⟩])
 .ret
)
 .skip
)
)
 (.seq
 (.draw [⟨(some 11), .move (.tmp 0), none⟩,
⟨(some 12), .nilCheck (.tmp 11), none⟩,
⟨(some 13), .off 1 (.tmp 12), none⟩,
⟨(some 14), .load (.tmp 13), none⟩,
⟨(some 15), .loadN 2 (.tmp 3), none⟩,
⟨(some 16), .lookup (.flat [(0, 1), (1, 1)]) (.string (strB [])) true (.tmp 14) (.tmp 15), none⟩,
⟨(some 10), .move (.tmp 16), none⟩,
⟨(some 17), .extract (.tmp 10) 0, none⟩,
⟨(some 18), .extract (.tmp 10) 1, none⟩,
⟨(some 6), .move (.tmp 17), none⟩,
⟨(some 7), .move (.tmp 18), none⟩] [[], [], [], [], [], [], [], [], [], [], []])
 (.seq
 (.region [⟨(some 19), .move (.tmp 6), none⟩,
⟨(some 20), .move (.tmp 7), none⟩,
⟨(some 4), .move (.tmp 19), none⟩,
⟨(some 5), .move (.tmp 20), none⟩])
 .ret
)
)
)
)
, [.tmp 4, .tmp 5]⟩
theorem c_132 : plainFn Tryz.prog 132 = some a_132 := by kernel_rfl
-- haycroft/place.Size
noncomputable def a_134 : AFun := ⟨8,
(.seq
 (.region [⟨(some 2), .move (.const (.int .i64 0)), none⟩])
 (.seq
 (.seq
 (.region [⟨(some 3), .move (.tmp 0), none⟩,
⟨(some 4), .call 119 [(.tmp 3)], none⟩,
⟨(some 5), .un .not (.tmp 4), none⟩])
 (.cond (.tmp 5)
 (.seq
 (.region [⟨(some 2), .move (.const (.int .i64 0)), none⟩])
 .ret
)
 .skip
)
)
 (.seq
 (.region [⟨(some 6), .move (.tmp 0), none⟩,
⟨(some 7), .bin .shl (.const (.int .i64 1)) (.tmp 6), none⟩,
⟨(some 2), .move (.tmp 7), none⟩])
 .ret
)
)
)
, [.tmp 2]⟩
theorem c_134 : plainFn Tryz.prog 134 = some a_134 := by kernel_rfl
-- haycroft/place.part
noncomputable def a_135 : AFun := ⟨21,
(.seq
 (.region [⟨(some 8), .move (.const (.int .i64 0)), none⟩])
 (.seq
 (.seq
 (.region [⟨(some 9), .move (.tmp 0), none⟩,
⟨(some 10), .call 119 [(.tmp 9)], none⟩,
⟨(some 11), .un .not (.tmp 10), none⟩,
⟨(some 12), .move (.tmp 11), none⟩,
⟨(some 13), .move (.tmp 1), (some (12, false))⟩,
⟨(some 14), .bin .gtr (.tmp 13) (.const (.int .u64 281474976710655)), (some (12, false))⟩,
⟨(some 15), .pick (.tmp 12) (.const (.bool true)) (.tmp 14), none⟩])
 (.cond (.tmp 15)
 (.seq
 (.region [⟨(some 8), .move (.const (.int .i64 0)), none⟩])
 .ret
)
 .skip
)
)
 (.seq
 (.region [⟨(some 16), .move (.tmp 1), none⟩,
⟨(some 17), .move (.tmp 2), none⟩,
⟨(some 18), .move (.tmp 3), none⟩,
⟨(some 19), .call 162 [(.tmp 16), (.tmp 17), (.tmp 18)], none⟩,
⟨(some 20), .toInt .i64 (.tmp 19), none⟩,
⟨(some 8), .move (.tmp 20), none⟩])
 .ret
)
)
)
, [.tmp 8]⟩
theorem c_135 : plainFn Tryz.prog 135 = some a_135 := by kernel_rfl
-- haycroft/record.Size
noncomputable def a_137 : AFun := ⟨21,
(.seq
 (.region [⟨(some 4), .move (.const (.int .i64 0)), none⟩])
 (.seq
 (.seq
 (.region [⟨(some 8), .move (.tmp 0), none⟩,
⟨(some 9), .move (.tmp 1), none⟩,
⟨(some 10), .call 234 [(.tmp 8), (.tmp 9)], none⟩,
⟨(some 7), .move (.tmp 10), none⟩,
⟨(some 11), .extract (.tmp 7) 0, none⟩,
⟨(some 12), .extract (.tmp 7) 1, none⟩,
⟨(some 5), .move (.tmp 11), none⟩,
⟨(some 6), .move (.tmp 12), none⟩])
 (.seq
 (.region [⟨(some 13), .move (.tmp 6), none⟩,
⟨(some 14), .bin .neq (.tmp 13) (.const (.int .i64 0)), none⟩])
 (.cond (.tmp 14)
 (.seq
 (.region [⟨(some 4), .move (.const (.int .i64 0)), none⟩])
 .ret
)
 .skip
)
)
)
 (.seq
 (.region [⟨(some 15), .move (.tmp 0), none⟩,
⟨(some 16), .call 235 [(.tmp 15)], none⟩,
⟨(some 17), .bin .add (.const (.int .i64 3)) (.tmp 16), none⟩,
⟨(some 18), .move (.tmp 1), none⟩,
⟨(some 19), .call 235 [(.tmp 18)], none⟩,
⟨(some 20), .bin .add (.tmp 17) (.tmp 19), none⟩,
⟨(some 4), .move (.tmp 20), none⟩])
 .ret
)
)
)
, [.tmp 4]⟩
theorem c_137 : plainFn Tryz.prog 137 = some a_137 := by kernel_rfl
-- haycroft/field.Bytes
noncomputable def a_139 : AFun := ⟨64,
(.seq
 (.region [⟨(some 4), .move (.const (.string (strB []))), none⟩,
⟨(some 5), .move (.const (.int .i64 0)), none⟩])
 (.seq
 (.block 0
 (.seq
 (.region [⟨(some 11), .move (.tmp 1), none⟩,
⟨(some 12), .bin .lss (.tmp 11) (.const (.int .i64 0)), none⟩,
⟨(some 10), .move (.tmp 12), none⟩])
 (.cond (.tmp 10)
 (.seq
 (.region [⟨(some 4), .move (.const (.string (strB []))), none⟩,
⟨(some 5), .move (.const (.int .i64 1)), none⟩])
 .ret
)
 (.seq
 (.region [⟨(some 14), .move (.tmp 1), none⟩,
⟨(some 15), .move (.tmp 0), none⟩,
⟨(some 16), .lenSl (.tmp 15), none⟩,
⟨(some 17), .bin .mul (.const (.int .i64 8)) (.tmp 16), none⟩,
⟨(some 18), .bin .gtr (.tmp 14) (.tmp 17), none⟩,
⟨(some 13), .move (.tmp 18), none⟩])
 (.cond (.tmp 13)
 (.seq
 (.region [⟨(some 4), .move (.const (.string (strB []))), none⟩,
⟨(some 5), .move (.const (.int .i64 3)), none⟩])
 .ret
)
 .skip
)
)
)
)
)
 (.seq
 (.region [⟨(some 19), .move (.tmp 0), none⟩,
⟨(some 20), .lenSl (.tmp 19), none⟩,
⟨(some 21), .bin .mul (.const (.int .i64 8)) (.tmp 20), none⟩,
⟨(some 22), .makeSlice 5 1 1 #[(.int .u8 0)] (.tmp 21) (.tmp 21), none⟩,
⟨(some 6), .move (.tmp 22), none⟩])
 (.seq
 (.seq
 (.region [⟨(some 23), .move (.tmp 6), none⟩,
⟨(some 24), .lenSl (.tmp 23), none⟩,
⟨(some 25), .move (.const (.int .i64 0)), none⟩])
 (.block 1
 (.loop none
 (.seq
 (.region [⟨(some 26), .bin .lss (.tmp 25) (.tmp 24), none⟩])
 (.seq
 (.cond (.tmp 26)
 .skip
 (.exit 1)
)
 (.seq
 (.block 2
 (.seq
 (.region [⟨(some 27), .move (.tmp 25), none⟩,
⟨(some 7), .move (.tmp 27), none⟩])
 (.region [⟨(some 28), .move (.tmp 6), none⟩,
⟨(some 29), .move (.tmp 7), none⟩,
⟨(some 30), .move (.tmp 0), none⟩,
⟨(some 31), .move (.tmp 7), none⟩,
⟨(some 32), .bin .quo (.tmp 31) (.const (.int .i64 8)), none⟩,
⟨(some 33), .ixSl 1 (.tmp 30) (.tmp 32), none⟩,
⟨(some 34), .load (.tmp 33), none⟩,
⟨(some 35), .move (.tmp 7), none⟩,
⟨(some 36), .bin .rem (.tmp 35) (.const (.int .i64 8)), none⟩,
⟨(some 37), .bin .mul (.tmp 36) (.const (.int .i64 8)), none⟩,
⟨(some 38), .bin .shr (.tmp 34) (.tmp 37), none⟩,
⟨(some 39), .toInt .u8 (.tmp 38), none⟩,
⟨(some 40), .ixSl 1 (.tmp 28) (.tmp 29), none⟩,
⟨none, .store 1 (.tmp 40) (.tmp 39), none⟩])
)
)
 (.region [⟨(some 41), .bin .add (.tmp 25) (.const (.int .i64 1)), none⟩,
⟨(some 25), .move (.tmp 41), none⟩])
)
)
)
)
)
)
 (.seq
 (.seq
 (.region [⟨(some 42), .move (.tmp 0), none⟩,
⟨(some 43), .lenSl (.tmp 42), none⟩,
⟨(some 44), .move (.tmp 1), none⟩,
⟨(some 45), .bin .add (.tmp 44) (.const (.int .i64 8)), none⟩,
⟨(some 46), .bin .sub (.tmp 45) (.const (.int .i64 1)), none⟩,
⟨(some 47), .bin .quo (.tmp 46) (.const (.int .i64 8)), none⟩,
⟨(some 48), .bin .neq (.tmp 43) (.tmp 47), none⟩])
 (.cond (.tmp 48)
 (.seq
 (.region [⟨(some 4), .move (.const (.string (strB []))), none⟩,
⟨(some 5), .move (.const (.int .i64 4)), none⟩])
 .ret
)
 .skip
)
)
 (.seq
 (.seq
 (.region [⟨(some 49), .move (.tmp 6), none⟩,
⟨(some 50), .move (.tmp 1), none⟩,
⟨(some 51), .sliceSl 1 (.tmp 49) (some (.tmp 50)) none none, none⟩,
⟨(some 52), .lenSl (.tmp 51), none⟩,
⟨(some 53), .move (.const (.int .i64 0)), none⟩])
 (.block 3
 (.loop none
 (.seq
 (.region [⟨(some 54), .bin .lss (.tmp 53) (.tmp 52), none⟩])
 (.seq
 (.cond (.tmp 54)
 .skip
 (.exit 3)
)
 (.seq
 (.block 4
 (.seq
 (.region [⟨(some 55), .ixSl 1 (.tmp 51) (.tmp 53), none⟩,
⟨(some 56), .load (.tmp 55), none⟩,
⟨(some 9), .move (.tmp 56), none⟩])
 (.seq
 (.region [⟨(some 57), .move (.tmp 9), none⟩,
⟨(some 58), .bin .neq (.tmp 57) (.const (.int .u8 0)), none⟩])
 (.cond (.tmp 58)
 (.seq
 (.region [⟨(some 4), .move (.const (.string (strB []))), none⟩,
⟨(some 5), .move (.const (.int .i64 4)), none⟩])
 .ret
)
 .skip
)
)
)
)
 (.region [⟨(some 59), .bin .add (.tmp 53) (.const (.int .i64 1)), none⟩,
⟨(some 53), .move (.tmp 59), none⟩])
)
)
)
)
)
)
 (.seq
 (.region [⟨(some 60), .move (.tmp 6), none⟩,
⟨(some 61), .move (.tmp 1), none⟩,
⟨(some 62), .sliceSl 1 (.tmp 60) none (some (.tmp 61)) none, none⟩,
⟨(some 63), .bytesStr (.tmp 62), none⟩,
⟨(some 4), .move (.tmp 63), none⟩,
⟨(some 5), .move (.const (.int .i64 0)), none⟩])
 .ret
)
)
)
)
)
)
)
, [.tmp 4, .tmp 5]⟩
theorem c_139 : plainFn Tryz.prog 139 = some a_139 := by kernel_rfl
-- haycroft/record.Right
noncomputable def a_142 : AFun := ⟨41,
(.seq
 (.region [⟨(some 1), .box 67 (.tmp 0), none⟩,
⟨(some 2), .move (.const (.int .i64 0)), none⟩])
 (.seq
 (.seq
 (.region [⟨(some 8), .off 0 (.tmp 1), none⟩,
⟨(some 9), .loadN 3 (.tmp 8), none⟩,
⟨(some 10), .call 237 [(.tmp 9)], none⟩,
⟨(some 7), .move (.tmp 10), none⟩,
⟨(some 11), .extract (.tmp 7) 0, none⟩,
⟨(some 12), .extract (.tmp 7) 1, none⟩,
⟨(some 3), .move (.tmp 11), none⟩,
⟨(some 4), .move (.tmp 12), none⟩])
 (.seq
 (.region [⟨(some 13), .move (.tmp 4), none⟩,
⟨(some 14), .bin .neq (.tmp 13) (.const (.int .i64 0)), none⟩,
⟨(some 15), .move (.tmp 14), none⟩,
⟨(some 16), .off 3 (.tmp 1), (some (15, false))⟩,
⟨(some 17), .load (.tmp 16), (some (15, false))⟩,
⟨(some 18), .bin .eql (.tmp 17) (.const (.string (strB []))), (some (15, false))⟩,
⟨(some 19), .pick (.tmp 15) (.const (.bool true)) (.tmp 18), none⟩,
⟨(some 20), .move (.tmp 19), none⟩,
⟨(some 21), .off 0 (.tmp 1), (some (20, false))⟩,
⟨(some 22), .off 1 (.tmp 21), (some (20, false))⟩,
⟨(some 23), .load (.tmp 22), (some (20, false))⟩,
⟨(some 24), .move (.tmp 23), (some (20, false))⟩,
⟨(some 25), .off 4 (.tmp 1), (some (24, true))⟩,
⟨(some 26), .load (.tmp 25), (some (24, true))⟩,
⟨(some 27), .bin .neq (.tmp 26) (.const (.string (strB []))), (some (24, true))⟩,
⟨(some 28), .pick (.tmp 24) (.tmp 27) (.const (.bool false)), (some (20, false))⟩,
⟨(some 29), .pick (.tmp 20) (.const (.bool true)) (.tmp 28), none⟩])
 (.cond (.tmp 29)
 (.seq
 (.region [⟨(some 2), .move (.const (.int .i64 1)), none⟩])
 .ret
)
 .skip
)
)
)
 (.seq
 (.region [⟨(some 31), .off 3 (.tmp 1), none⟩,
⟨(some 32), .load (.tmp 31), none⟩,
⟨(some 33), .lenStr (.tmp 32), none⟩,
⟨(some 34), .off 4 (.tmp 1), none⟩,
⟨(some 35), .load (.tmp 34), none⟩,
⟨(some 36), .lenStr (.tmp 35), none⟩,
⟨(some 37), .call 234 [(.tmp 33), (.tmp 36)], none⟩,
⟨(some 30), .move (.tmp 37), none⟩,
⟨(some 38), .extract (.tmp 30) 0, none⟩,
⟨(some 39), .extract (.tmp 30) 1, none⟩,
⟨(some 5), .move (.tmp 38), none⟩,
⟨(some 6), .move (.tmp 39), none⟩])
 (.seq
 (.region [⟨(some 40), .move (.tmp 6), none⟩,
⟨(some 2), .move (.tmp 40), none⟩])
 .ret
)
)
)
)
, [.tmp 2]⟩
theorem c_142 : plainFn Tryz.prog 142 = some a_142 := by kernel_rfl
-- (*haycroft/index.Index).Chain
noncomputable def a_150 : AFun := ⟨34,
(.seq
 (.region [⟨(some 4), .move (.const (.slice none 0 0)), none⟩])
 (.seq
 (.region [⟨(some 5), .move (.const (.slice none 0 0)), none⟩])
 (.seq
 (.seq
 (.region [⟨(some 7), .move (.tmp 1), none⟩,
⟨(some 8), .bin .geq (.tmp 7) (.const (.int .i64 0)), none⟩,
⟨(some 9), .move (.tmp 8), none⟩,
⟨(some 10), .move (.tmp 1), (some (9, true))⟩,
⟨(some 11), .move (.tmp 0), (some (9, true))⟩,
⟨(some 12), .call 250 [(.tmp 11)], (some (9, true))⟩,
⟨(some 13), .bin .lss (.tmp 10) (.tmp 12), (some (9, true))⟩,
⟨(some 14), .pick (.tmp 9) (.tmp 13) (.const (.bool false)), none⟩,
⟨(some 6), .move (.tmp 14), none⟩])
 (.block 0
 (.loop none
 (.seq
 (.seq
 (.region [⟨(some 15), .move (.tmp 6), none⟩,
⟨(some 16), .move (.tmp 15), none⟩,
⟨(some 17), .move (.tmp 5), (some (16, true))⟩,
⟨(some 18), .lenSl (.tmp 17), (some (16, true))⟩,
⟨(some 19), .move (.tmp 0), (some (16, true))⟩,
⟨(some 20), .call 250 [(.tmp 19)], (some (16, true))⟩,
⟨(some 21), .bin .leq (.tmp 18) (.tmp 20), (some (16, true))⟩,
⟨(some 22), .pick (.tmp 16) (.tmp 21) (.const (.bool false)), none⟩])
 (.cond (.tmp 22)
 .skip
 (.exit 0)
)
)
 (.block 1
 (.seq
 (.region [⟨(some 23), .move (.tmp 5), none⟩,
⟨(some 24), .move (.tmp 1), none⟩,
⟨(some 25), .buildSlice 3 1 1 #[(.int .i64 0)] [(0, (.tmp 24))], none⟩,
⟨(some 26), .append 3 1 8 (.tmp 23) (.tmp 25), none⟩,
⟨(some 5), .move (.tmp 26), none⟩])
 (.region [⟨(some 28), .move (.tmp 0), none⟩,
⟨(some 29), .move (.tmp 1), none⟩,
⟨(some 30), .call 251 [(.tmp 28), (.tmp 29)], none⟩,
⟨(some 27), .move (.tmp 30), none⟩,
⟨(some 31), .extract (.tmp 27) 0, none⟩,
⟨(some 32), .extract (.tmp 27) 1, none⟩,
⟨(some 1), .move (.tmp 31), none⟩,
⟨(some 6), .move (.tmp 32), none⟩])
)
)
)
)
)
)
 (.seq
 (.region [⟨(some 33), .move (.tmp 5), none⟩,
⟨(some 4), .move (.tmp 33), none⟩])
 .ret
)
)
)
)
, [.tmp 4]⟩
theorem c_150 : plainFn Tryz.prog 150 = some a_150 := by kernel_rfl
-- haycroft/mix.Tag
noncomputable def a_153 : AFun := ⟨5,
(.seq
 (.region [⟨(some 2), .move (.const (.int .u64 0)), none⟩])
 (.seq
 (.region [⟨(some 3), .move (.tmp 0), none⟩,
⟨(some 4), .call 162 [(.tmp 3), (.const (.int .i64 50)), (.const (.int .i64 14))], none⟩,
⟨(some 2), .move (.tmp 4), none⟩])
 .ret
)
)
, [.tmp 2]⟩
theorem c_153 : plainFn Tryz.prog 153 = some a_153 := by kernel_rfl
-- haycroft/mix.Bucket
noncomputable def a_154 : AFun := ⟨14,
(.seq
 (.region [⟨(some 4), .move (.const (.int .i64 0)), none⟩])
 (.seq
 (.seq
 (.region [⟨(some 5), .move (.tmp 1), none⟩,
⟨(some 6), .call 120 [(.tmp 5)], none⟩,
⟨(some 7), .un .not (.tmp 6), none⟩])
 (.cond (.tmp 7)
 (.seq
 (.region [⟨(some 4), .move (.const (.int .i64 0)), none⟩])
 .ret
)
 .skip
)
)
 (.seq
 (.region [⟨(some 8), .move (.tmp 0), none⟩,
⟨(some 9), .move (.tmp 1), none⟩,
⟨(some 10), .bin .sub (.tmp 9) (.const (.int .i64 1)), none⟩,
⟨(some 11), .toInt .u64 (.tmp 10), none⟩,
⟨(some 12), .bin .and (.tmp 8) (.tmp 11), none⟩,
⟨(some 13), .toInt .i64 (.tmp 12), none⟩,
⟨(some 4), .move (.tmp 13), none⟩])
 .ret
)
)
)
, [.tmp 4]⟩
theorem c_154 : plainFn Tryz.prog 154 = some a_154 := by kernel_rfl
-- haycroft/index.slots
noncomputable def a_156 : AFun := ⟨26,
(.seq
 (.region [⟨(some 2), .move (.const (.slice none 0 0)), none⟩])
 (.seq
 (.region [⟨(some 3), .move (.const (.slice none 0 0)), none⟩])
 (.seq
 (.seq
 (.region [⟨(some 7), .move (.tmp 0), none⟩,
⟨(some 8), .lenSl (.tmp 7), none⟩,
⟨(some 9), .move (.const (.int .i64 0)), none⟩])
 (.block 0
 (.loop none
 (.seq
 (.region [⟨(some 10), .bin .lss (.tmp 9) (.tmp 8), none⟩])
 (.seq
 (.cond (.tmp 10)
 .skip
 (.exit 0)
)
 (.seq
 (.block 1
 (.seq
 (.region [⟨(some 11), .ixSl 1 (.tmp 7) (.tmp 9), none⟩,
⟨(some 12), .load (.tmp 11), none⟩,
⟨(some 5), .move (.tmp 12), none⟩])
 (.seq
 (.region [⟨(some 13), .move (.const (.int .i64 0)), none⟩])
 (.block 2
 (.loop none
 (.seq
 (.region [⟨(some 14), .bin .lss (.tmp 13) (.const (.int .i64 7)), none⟩])
 (.seq
 (.cond (.tmp 14)
 .skip
 (.exit 2)
)
 (.seq
 (.block 3
 (.seq
 (.region [⟨(some 15), .move (.tmp 13), none⟩,
⟨(some 6), .move (.tmp 15), none⟩])
 (.region [⟨(some 16), .move (.tmp 3), none⟩,
⟨(some 17), .move (.tmp 5), none⟩,
⟨(some 18), .bin .mul (.tmp 17) (.const (.int .i64 8)), none⟩,
⟨(some 19), .move (.tmp 6), none⟩,
⟨(some 20), .bin .add (.tmp 18) (.tmp 19), none⟩,
⟨(some 21), .buildSlice 3 1 1 #[(.int .i64 0)] [(0, (.tmp 20))], none⟩,
⟨(some 22), .append 3 1 8 (.tmp 16) (.tmp 21), none⟩,
⟨(some 3), .move (.tmp 22), none⟩])
)
)
 (.region [⟨(some 23), .bin .add (.tmp 13) (.const (.int .i64 1)), none⟩,
⟨(some 13), .move (.tmp 23), none⟩])
)
)
)
)
)
)
)
)
 (.region [⟨(some 24), .bin .add (.tmp 9) (.const (.int .i64 1)), none⟩,
⟨(some 9), .move (.tmp 24), none⟩])
)
)
)
)
)
)
 (.seq
 (.region [⟨(some 25), .move (.tmp 3), none⟩,
⟨(some 2), .move (.tmp 25), none⟩])
 .ret
)
)
)
)
, [.tmp 2]⟩
theorem c_156 : plainFn Tryz.prog 156 = some a_156 := by kernel_rfl
-- slices.IndexFunc[[]int,int]
noncomputable def a_157 : AFun := ⟨19,
(.seq
 (.region [⟨(some 4), .move (.const (.int .i64 0)), none⟩])
 (.seq
 (.seq
 (.region [⟨(some 6), .move (.tmp 0), none⟩,
⟨(some 7), .lenSl (.tmp 6), none⟩,
⟨(some 8), .move (.const (.int .i64 0)), none⟩])
 (.block 0
 (.loop none
 (.seq
 (.region [⟨(some 9), .bin .lss (.tmp 8) (.tmp 7), none⟩])
 (.seq
 (.cond (.tmp 9)
 .skip
 (.exit 0)
)
 (.seq
 (.block 1
 (.seq
 (.region [⟨(some 10), .move (.tmp 8), none⟩,
⟨(some 5), .move (.tmp 10), none⟩])
 (.seq
 (.region [⟨(some 11), .move (.tmp 1), none⟩,
⟨(some 12), .move (.tmp 0), none⟩,
⟨(some 13), .move (.tmp 5), none⟩,
⟨(some 14), .ixSl 1 (.tmp 12) (.tmp 13), none⟩,
⟨(some 15), .load (.tmp 14), none⟩,
⟨(some 16), .callV (.tmp 11) [(.tmp 15)], none⟩])
 (.cond (.tmp 16)
 (.seq
 (.region [⟨(some 17), .move (.tmp 5), none⟩,
⟨(some 4), .move (.tmp 17), none⟩])
 .ret
)
 .skip
)
)
)
)
 (.region [⟨(some 18), .bin .add (.tmp 8) (.const (.int .i64 1)), none⟩,
⟨(some 8), .move (.tmp 18), none⟩])
)
)
)
)
)
)
 (.seq
 (.region [⟨(some 4), .move (.const (.int .i64 (-1))), none⟩])
 .ret
)
)
)
, [.tmp 4]⟩
theorem c_157 : plainFn Tryz.prog 157 = some a_157 := by kernel_rfl
-- (*haycroft/index.Index).Look$1
noncomputable def a_158 : AFun := ⟨14,
(.seq
 (.region [⟨(some 4), .move (.const (.bool false)), none⟩])
 (.seq
 (.draw [⟨(some 5), .load (.tmp 1), none⟩,
⟨(some 6), .nilCheck (.tmp 5), none⟩,
⟨(some 7), .off 2 (.tmp 6), none⟩,
⟨(some 8), .load (.tmp 7), none⟩,
⟨(some 9), .move (.tmp 0), none⟩,
⟨(some 10), .call 160 [(.tmp 8), (.tmp 9)], none⟩,
⟨(some 11), .load (.tmp 2), none⟩,
⟨(some 12), .call 153 [(.tmp 11)], none⟩,
⟨(some 13), .call 159 [(.tmp 10), (.tmp 12)], none⟩,
⟨(some 4), .move (.tmp 13), none⟩] [[], [], [], [], [], [], [5], [], [], []])
 .ret
)
)
, [.tmp 4]⟩
theorem c_158 : plainFn Tryz.prog 158 = some a_158 := by kernel_rfl
-- haycroft/entry.Has
noncomputable def a_159 : AFun := ⟨20,
(.seq
 (.region [⟨(some 4), .move (.const (.bool false)), none⟩])
 (.seq
 (.region [⟨(some 8), .move (.tmp 0), none⟩,
⟨(some 9), .call 88 [(.tmp 8)], none⟩,
⟨(some 7), .move (.tmp 9), none⟩,
⟨(some 10), .extract (.tmp 7) 0, none⟩,
⟨(some 11), .extract (.tmp 7) 1, none⟩,
⟨(some 5), .new 157 #[(.int .u64 0), (.int .u64 0), (.bool false)], none⟩,
⟨none, .store 3 (.tmp 5) (.tmp 10), none⟩,
⟨(some 6), .move (.tmp 11), none⟩])
 (.seq
 (.region [⟨(some 12), .move (.tmp 6), none⟩,
⟨(some 13), .bin .eql (.tmp 12) (.const (.int .i64 0)), none⟩,
⟨(some 14), .move (.tmp 13), none⟩,
⟨(some 15), .off 1 (.tmp 5), (some (14, true))⟩,
⟨(some 16), .load (.tmp 15), (some (14, true))⟩,
⟨(some 17), .move (.tmp 1), (some (14, true))⟩,
⟨(some 18), .bin .eql (.tmp 16) (.tmp 17), (some (14, true))⟩,
⟨(some 19), .pick (.tmp 14) (.tmp 18) (.const (.bool false)), none⟩,
⟨(some 4), .move (.tmp 19), none⟩])
 .ret
)
)
)
, [.tmp 4]⟩
theorem c_159 : plainFn Tryz.prog 159 = some a_159 := by kernel_rfl
-- (*haycroft/cell.Row).Load
noncomputable def a_160 : AFun := ⟨16,
(.seq
 (.region [⟨(some 4), .move (.const (.int .u64 0)), none⟩])
 (.seq
 (.seq
 (.region [⟨(some 5), .move (.tmp 0), none⟩,
⟨(some 6), .move (.tmp 1), none⟩,
⟨(some 7), .call 254 [(.tmp 5), (.tmp 6)], none⟩,
⟨(some 8), .un .not (.tmp 7), none⟩])
 (.cond (.tmp 8)
 (.seq
 (.region [⟨(some 4), .move (.const (.int .u64 0)), none⟩])
 .ret
)
 .skip
)
)
 (.seq
 (.region [⟨(some 9), .move (.tmp 0), none⟩,
⟨(some 10), .nilCheck (.tmp 9), none⟩,
⟨(some 11), .off 0 (.tmp 10), none⟩,
⟨(some 12), .load (.tmp 11), none⟩,
⟨(some 13), .move (.tmp 1), none⟩,
⟨(some 14), .ixSl 1 (.tmp 12) (.tmp 13), none⟩,
⟨(some 15), .call 255 [(.tmp 14)], none⟩,
⟨(some 4), .move (.tmp 15), none⟩])
 .ret
)
)
)
, [.tmp 4]⟩
theorem c_160 : plainFn Tryz.prog 160 = some a_160 := by kernel_rfl
-- (*haycroft/index.Index).Look$2
noncomputable def a_161 : AFun := ⟨11,
(.seq
 (.region [⟨(some 3), .move (.const (.bool false)), none⟩])
 (.seq
 (.region [⟨(some 4), .load (.tmp 1), none⟩,
⟨(some 5), .nilCheck (.tmp 4), none⟩,
⟨(some 6), .off 2 (.tmp 5), none⟩,
⟨(some 7), .load (.tmp 6), none⟩,
⟨(some 8), .move (.tmp 0), none⟩,
⟨(some 9), .call 160 [(.tmp 7), (.tmp 8)], none⟩,
⟨(some 10), .bin .eql (.tmp 9) (.const (.int .u64 0)), none⟩,
⟨(some 3), .move (.tmp 10), none⟩])
 .ret
)
)
, [.tmp 3]⟩
theorem c_161 : plainFn Tryz.prog 161 = some a_161 := by kernel_rfl
-- haycroft/field.Get
noncomputable def a_162 : AFun := ⟨17,
(.seq
 (.region [⟨(some 6), .move (.const (.int .u64 0)), none⟩])
 (.seq
 (.seq
 (.region [⟨(some 7), .move (.tmp 1), none⟩,
⟨(some 8), .move (.tmp 2), none⟩,
⟨(some 9), .call 256 [(.tmp 7), (.tmp 8)], none⟩,
⟨(some 10), .un .not (.tmp 9), none⟩])
 (.cond (.tmp 10)
 (.seq
 (.region [⟨(some 6), .move (.const (.int .u64 0)), none⟩])
 .ret
)
 .skip
)
)
 (.seq
 (.draw [⟨(some 11), .move (.tmp 0), none⟩,
⟨(some 12), .move (.tmp 1), none⟩,
⟨(some 13), .bin .shr (.tmp 11) (.tmp 12), none⟩,
⟨(some 14), .move (.tmp 2), none⟩,
⟨(some 15), .call 236 [(.tmp 14)], none⟩,
⟨(some 16), .bin .and (.tmp 13) (.tmp 15), none⟩,
⟨(some 6), .move (.tmp 16), none⟩] [[], [], [], [], [], [], []])
 .ret
)
)
)
, [.tmp 6]⟩
theorem c_162 : plainFn Tryz.prog 162 = some a_162 := by kernel_rfl
-- haycroft/field.Flag
noncomputable def a_163 : AFun := ⟨9,
(.seq
 (.region [⟨(some 4), .move (.const (.bool false)), none⟩])
 (.seq
 (.region [⟨(some 5), .move (.tmp 0), none⟩,
⟨(some 6), .move (.tmp 1), none⟩,
⟨(some 7), .call 162 [(.tmp 5), (.tmp 6), (.const (.int .i64 1))], none⟩,
⟨(some 8), .bin .eql (.tmp 7) (.const (.int .u64 1)), none⟩,
⟨(some 4), .move (.tmp 8), none⟩])
 .ret
)
)
, [.tmp 4]⟩
theorem c_163 : plainFn Tryz.prog 163 = some a_163 := by kernel_rfl
-- haycroft/entry.Right
noncomputable def a_164 : AFun := ⟨20,
(.seq
 (.region [⟨(some 1), .box 157 (.tmp 0), none⟩,
⟨(some 2), .move (.const (.bool false)), none⟩])
 (.seq
 (.draw [⟨(some 3), .off 0 (.tmp 1), none⟩,
⟨(some 4), .load (.tmp 3), none⟩,
⟨(some 5), .bin .leq (.tmp 4) (.const (.int .u64 281474976710655)), none⟩,
⟨(some 6), .move (.tmp 5), none⟩,
⟨(some 7), .off 1 (.tmp 1), (some (6, true))⟩,
⟨(some 8), .load (.tmp 7), (some (6, true))⟩,
⟨(some 9), .call 236 [(.const (.int .i64 14))], (some (6, true))⟩,
⟨(some 10), .bin .leq (.tmp 8) (.tmp 9), (some (6, true))⟩,
⟨(some 11), .pick (.tmp 6) (.tmp 10) (.const (.bool false)), none⟩,
⟨(some 12), .move (.tmp 11), none⟩,
⟨(some 13), .off 2 (.tmp 1), (some (12, true))⟩,
⟨(some 14), .load (.tmp 13), (some (12, true))⟩,
⟨(some 15), .off 0 (.tmp 1), (some (12, true))⟩,
⟨(some 16), .load (.tmp 15), (some (12, true))⟩,
⟨(some 17), .bin .eql (.tmp 16) (.const (.int .u64 0)), (some (12, true))⟩,
⟨(some 18), .eq false .bool (.tmp 14) (.tmp 17), (some (12, true))⟩,
⟨(some 19), .pick (.tmp 12) (.tmp 18) (.const (.bool false)), none⟩,
⟨(some 2), .move (.tmp 19), none⟩] [[], [], [], [], [], [6], [], [], [], [], [], [], [], [], [], [], [], []])
 .ret
)
)
, [.tmp 2]⟩
theorem c_164 : plainFn Tryz.prog 164 = some a_164 := by kernel_rfl
-- haycroft/task.New
noncomputable def a_175 : AFun := ⟨34,
(.seq
 (.region [⟨(some 8), .box 26 (.tmp 3), none⟩,
⟨(some 10), .move (.const (.pointer none)), none⟩,
⟨(some 11), .move (.const (.int .i64 0)), none⟩])
 (.seq
 (.seq
 (.region [⟨(some 13), .move (.tmp 0), none⟩,
⟨(some 14), .eq false .pointer (.tmp 13) (.const (.pointer none)), none⟩,
⟨(some 15), .move (.tmp 14), none⟩,
⟨(some 16), .move (.tmp 1), (some (15, false))⟩,
⟨(some 17), .eq false .pointer (.tmp 16) (.const (.pointer none)), (some (15, false))⟩,
⟨(some 18), .pick (.tmp 15) (.const (.bool true)) (.tmp 17), none⟩])
 (.cond (.tmp 18)
 (.seq
 (.region [⟨(some 10), .move (.const (.pointer none)), none⟩,
⟨(some 11), .move (.const (.int .i64 2)), none⟩])
 .ret
)
 .skip
)
)
 (.seq
 (.seq
 (.region [⟨(some 19), .loadN 4 (.tmp 8), none⟩,
⟨(some 20), .call 270 [(.tmp 19)], none⟩,
⟨(some 12), .move (.tmp 20), none⟩])
 (.seq
 (.region [⟨(some 21), .move (.tmp 12), none⟩,
⟨(some 22), .bin .neq (.tmp 21) (.const (.int .i64 0)), none⟩])
 (.cond (.tmp 22)
 (.seq
 (.region [⟨(some 23), .move (.tmp 12), none⟩,
⟨(some 10), .move (.const (.pointer none)), none⟩,
⟨(some 11), .move (.tmp 23), none⟩])
 .ret
)
 .skip
)
)
)
 (.seq
 (.draw [⟨(some 24), .move (.tmp 0), none⟩,
⟨(some 25), .move (.tmp 1), none⟩,
⟨(some 26), .move (.tmp 2), none⟩,
⟨(some 27), .loadN 4 (.tmp 8), none⟩,
⟨(some 28), .off 1 (.tmp 8), none⟩,
⟨(some 29), .load (.tmp 28), none⟩,
⟨(some 30), .call 87 [(.tmp 29)], none⟩,
⟨(some 31), .move (.tmp 4), none⟩,
⟨(some 32), .build #[(.pointer none), (.pointer none), (.int .i64 0), (.int .i64 0), (.string (strB [])), (.string (strB [])), (.int .u64 0), (.int .u64 0), .nilFunc, (.int .i64 0), (.int .u64 0), (.int .i64 0), (.int .i64 0), (.int .u64 0), (.int .u64 0), (.int .u64 0), (.string (strB [])), (.pointer none), (.pointer none), (.bool false), (.bool false), (.int .i64 0), (.string (strB [])), (.int .i64 0)] #[(0, 1), (1, 1), (2, 1), (3, 4), (7, 1), (8, 1), (9, 1), (10, 1), (11, 1), (12, 1), (13, 1), (14, 1), (15, 1), (16, 1), (17, 1), (18, 1), (19, 1), (20, 1), (21, 2), (23, 1)] [(0, (.tmp 24)), (1, (.tmp 25)), (2, (.tmp 26)), (3, (.tmp 27)), (4, (.tmp 30)), (5, (.func 271)), (9, (.tmp 31))], none⟩,
⟨(some 33), .box 277 (.tmp 32), none⟩,
⟨(some 10), .move (.tmp 33), none⟩,
⟨(some 11), .move (.const (.int .i64 0)), none⟩] [[], [], [], [6], [], [], [], [], [], [], [], []])
 .ret
)
)
)
)
, [.tmp 10, .tmp 11]⟩
theorem c_175 : plainFn Tryz.prog 175 = some a_175 := by kernel_rfl
-- (*haycroft/task.Task).Outcome
noncomputable def a_176 : AFun := ⟨15,
(.seq
 (.region [⟨(some 2), .new 36 #[(.int .i64 0), (.string (strB []))], none⟩,
⟨(some 3), .move (.const (.bool false)), none⟩])
 (.seq
 (.seq
 (.region [⟨(some 4), .move (.tmp 0), none⟩,
⟨(some 5), .eq false .pointer (.tmp 4) (.const (.pointer none)), none⟩])
 (.cond (.tmp 5)
 (.seq
 (.region [⟨(some 6), .build #[(.int .i64 0), (.string (strB []))] #[(0, 1), (1, 1)] [], none⟩,
⟨none, .store 2 (.tmp 2) (.tmp 6), none⟩,
⟨(some 3), .move (.const (.bool false)), none⟩])
 .ret
)
 .skip
)
)
 (.seq
 (.draw [⟨(some 7), .move (.tmp 0), none⟩,
⟨(some 8), .nilCheck (.tmp 7), none⟩,
⟨(some 9), .off 21 (.tmp 8), none⟩,
⟨(some 10), .loadN 2 (.tmp 9), none⟩,
⟨(some 11), .move (.tmp 0), none⟩,
⟨(some 12), .nilCheck (.tmp 11), none⟩,
⟨(some 13), .off 20 (.tmp 12), none⟩,
⟨(some 14), .load (.tmp 13), none⟩,
⟨none, .store 2 (.tmp 2) (.tmp 10), none⟩,
⟨(some 3), .move (.tmp 14), none⟩] [[], [], [], [], [], [], [], [8], [], []])
 .ret
)
)
)
, [.cell 2 (some 2), .tmp 3]⟩
theorem c_176 : plainFn Tryz.prog 176 = some a_176 := by kernel_rfl
-- (*haycroft/task.Task).Held
noncomputable def a_177 : AFun := ⟨9,
(.seq
 (.region [⟨(some 2), .move (.const (.int .i64 0)), none⟩])
 (.seq
 (.seq
 (.region [⟨(some 3), .move (.tmp 0), none⟩,
⟨(some 4), .eq false .pointer (.tmp 3) (.const (.pointer none)), none⟩])
 (.cond (.tmp 4)
 (.seq
 (.region [⟨(some 2), .move (.const (.int .i64 0)), none⟩])
 .ret
)
 .skip
)
)
 (.seq
 (.region [⟨(some 5), .move (.tmp 0), none⟩,
⟨(some 6), .nilCheck (.tmp 5), none⟩,
⟨(some 7), .off 12 (.tmp 6), none⟩,
⟨(some 8), .load (.tmp 7), none⟩,
⟨(some 2), .move (.tmp 8), none⟩])
 .ret
)
)
)
, [.tmp 2]⟩
theorem c_177 : plainFn Tryz.prog 177 = some a_177 := by kernel_rfl
-- (*haycroft/task.Task).Lost
noncomputable def a_178 : AFun := ⟨9,
(.seq
 (.region [⟨(some 2), .move (.const (.int .i64 0)), none⟩])
 (.seq
 (.seq
 (.region [⟨(some 3), .move (.tmp 0), none⟩,
⟨(some 4), .eq false .pointer (.tmp 3) (.const (.pointer none)), none⟩])
 (.cond (.tmp 4)
 (.seq
 (.region [⟨(some 2), .move (.const (.int .i64 0)), none⟩])
 .ret
)
 .skip
)
)
 (.seq
 (.region [⟨(some 5), .move (.tmp 0), none⟩,
⟨(some 6), .nilCheck (.tmp 5), none⟩,
⟨(some 7), .off 23 (.tmp 6), none⟩,
⟨(some 8), .load (.tmp 7), none⟩,
⟨(some 2), .move (.tmp 8), none⟩])
 .ret
)
)
)
, [.tmp 2]⟩
theorem c_178 : plainFn Tryz.prog 178 = some a_178 := by kernel_rfl
-- (*haycroft/epoch.Table).there
noncomputable def a_179 : AFun := ⟨21,
(.seq
 (.region [⟨(some 4), .move (.const (.bool false)), none⟩])
 (.seq
 (.region [⟨(some 5), .move (.tmp 0), none⟩,
⟨(some 6), .eq true .pointer (.tmp 5) (.const (.pointer none)), none⟩,
⟨(some 7), .move (.tmp 6), none⟩,
⟨(some 8), .move (.tmp 1), (some (7, true))⟩,
⟨(some 9), .bin .geq (.tmp 8) (.const (.int .i64 0)), (some (7, true))⟩,
⟨(some 10), .pick (.tmp 7) (.tmp 9) (.const (.bool false)), none⟩,
⟨(some 11), .move (.tmp 10), none⟩,
⟨(some 12), .move (.tmp 1), (some (11, true))⟩,
⟨(some 13), .move (.tmp 0), (some (11, true))⟩,
⟨(some 14), .nilCheck (.tmp 13), (some (11, true))⟩,
⟨(some 15), .off 0 (.tmp 14), (some (11, true))⟩,
⟨(some 16), .load (.tmp 15), (some (11, true))⟩,
⟨(some 17), .call 272 [(.tmp 16)], (some (11, true))⟩,
⟨(some 18), .bin .sub (.tmp 17) (.const (.int .i64 1)), (some (11, true))⟩,
⟨(some 19), .bin .lss (.tmp 12) (.tmp 18), (some (11, true))⟩,
⟨(some 20), .pick (.tmp 11) (.tmp 19) (.const (.bool false)), none⟩,
⟨(some 4), .move (.tmp 20), none⟩])
 .ret
)
)
, [.tmp 4]⟩
theorem c_179 : plainFn Tryz.prog 179 = some a_179 := by kernel_rfl
-- (*haycroft/epoch.Table).turn
noncomputable def a_180 : AFun := ⟨35,
(.seq
 (.region [⟨(some 10), .move (.const (.int .i64 0)), none⟩])
 (.seq
 (.block 0
 (.seq
 (.region [⟨(some 12), .move (.tmp 0), none⟩,
⟨(some 13), .eq false .pointer (.tmp 12) (.const (.pointer none)), none⟩,
⟨(some 11), .move (.tmp 13), none⟩])
 (.cond (.tmp 11)
 (.seq
 (.region [⟨(some 10), .move (.const (.int .i64 2)), none⟩])
 .ret
)
 (.seq
 (.region [⟨(some 15), .move (.tmp 0), none⟩,
⟨(some 16), .move (.tmp 1), none⟩,
⟨(some 17), .call 179 [(.tmp 15), (.tmp 16)], none⟩,
⟨(some 18), .un .not (.tmp 17), none⟩,
⟨(some 14), .move (.tmp 18), none⟩])
 (.cond (.tmp 14)
 (.seq
 (.region [⟨(some 10), .move (.const (.int .i64 1)), none⟩])
 .ret
)
 (.seq
 (.region [⟨(some 20), .move (.tmp 2), none⟩,
⟨(some 21), .move (.tmp 0), none⟩,
⟨(some 22), .move (.tmp 1), none⟩,
⟨(some 23), .call 97 [(.tmp 21), (.tmp 22)], none⟩,
⟨(some 24), .bin .gtr (.tmp 23) (.const (.int .u64 0)), none⟩,
⟨(some 25), .eq true .bool (.tmp 20) (.tmp 24), none⟩,
⟨(some 19), .move (.tmp 25), none⟩])
 (.cond (.tmp 19)
 (.seq
 (.region [⟨(some 26), .move (.tmp 4), none⟩,
⟨(some 10), .move (.tmp 26), none⟩])
 .ret
)
 .skip
)
)
)
)
)
)
)
 (.seq
 (.region [⟨(some 27), .move (.tmp 0), none⟩,
⟨(some 28), .nilCheck (.tmp 27), none⟩,
⟨(some 29), .off 0 (.tmp 28), none⟩,
⟨(some 30), .load (.tmp 29), none⟩,
⟨(some 31), .move (.tmp 1), none⟩,
⟨(some 32), .bin .add (.const (.int .i64 1)) (.tmp 31), none⟩,
⟨(some 33), .move (.tmp 3), none⟩,
⟨(some 34), .call 273 [(.tmp 30), (.tmp 32), (.tmp 33)], none⟩,
⟨(some 10), .move (.tmp 34), none⟩])
 .ret
)
)
)
, [.tmp 10]⟩
theorem c_180 : plainFn Tryz.prog 180 = some a_180 := by kernel_rfl
-- (*haycroft/epoch.Table).Now
noncomputable def a_181 : AFun := ⟨10,
(.seq
 (.region [⟨(some 2), .move (.const (.int .u64 0)), none⟩])
 (.seq
 (.seq
 (.region [⟨(some 3), .move (.tmp 0), none⟩,
⟨(some 4), .eq false .pointer (.tmp 3) (.const (.pointer none)), none⟩])
 (.cond (.tmp 4)
 (.seq
 (.region [⟨(some 2), .move (.const (.int .u64 0)), none⟩])
 .ret
)
 .skip
)
)
 (.seq
 (.region [⟨(some 5), .move (.tmp 0), none⟩,
⟨(some 6), .nilCheck (.tmp 5), none⟩,
⟨(some 7), .off 0 (.tmp 6), none⟩,
⟨(some 8), .load (.tmp 7), none⟩,
⟨(some 9), .call 160 [(.tmp 8), (.const (.int .i64 0))], none⟩,
⟨(some 2), .move (.tmp 9), none⟩])
 .ret
)
)
)
, [.tmp 2]⟩
theorem c_181 : plainFn Tryz.prog 181 = some a_181 := by kernel_rfl
-- (*haycroft/drain.List).Ready
noncomputable def a_183 : AFun := ⟨38,
(.seq
 (.region [⟨(some 4), .move (.const (.slice none 0 0)), none⟩])
 (.seq
 (.seq
 (.region [⟨(some 9), .move (.tmp 0), none⟩,
⟨(some 10), .eq false .pointer (.tmp 9) (.const (.pointer none)), none⟩])
 (.cond (.tmp 10)
 (.seq
 (.region [⟨(some 4), .move (.const (.slice none 0 0)), none⟩])
 .ret
)
 .skip
)
)
 (.seq
 (.region [⟨(some 5), .move (.const (.slice none 0 0)), none⟩,
⟨(some 6), .move (.const (.slice none 0 0)), none⟩])
 (.seq
 (.seq
 (.region [⟨(some 11), .move (.tmp 0), none⟩,
⟨(some 12), .nilCheck (.tmp 11), none⟩,
⟨(some 13), .off 0 (.tmp 12), none⟩,
⟨(some 14), .load (.tmp 13), none⟩,
⟨(some 15), .lenSl (.tmp 14), none⟩,
⟨(some 16), .move (.const (.int .i64 0)), none⟩])
 (.block 0
 (.loop none
 (.seq
 (.region [⟨(some 17), .bin .lss (.tmp 16) (.tmp 15), none⟩])
 (.seq
 (.cond (.tmp 17)
 .skip
 (.exit 0)
)
 (.seq
 (.block 1
 (.seq
 (.region [⟨(some 18), .ixSl 3 (.tmp 14) (.tmp 16), none⟩,
⟨(some 19), .loadN 3 (.tmp 18), none⟩,
⟨(some 8), .new 287 #[(.int .u64 0), (.int .i64 0), (.int .i64 0)], none⟩,
⟨none, .store 3 (.tmp 8) (.tmp 19), none⟩])
 (.seq
 (.region [⟨(some 20), .off 0 (.tmp 8), none⟩,
⟨(some 21), .load (.tmp 20), none⟩,
⟨(some 22), .move (.tmp 1), none⟩,
⟨(some 23), .bin .leq (.tmp 21) (.tmp 22), none⟩])
 (.cond (.tmp 23)
 (.region [⟨(some 24), .move (.tmp 5), none⟩,
⟨(some 25), .loadN 3 (.tmp 8), none⟩,
⟨(some 26), .buildSlice 287 3 1 #[(.int .u64 0), (.int .i64 0), (.int .i64 0)] [(0, (.tmp 25))], none⟩,
⟨(some 27), .append 287 3 24 (.tmp 24) (.tmp 26), none⟩,
⟨(some 5), .move (.tmp 27), none⟩])
 (.region [⟨(some 28), .move (.tmp 6), none⟩,
⟨(some 29), .loadN 3 (.tmp 8), none⟩,
⟨(some 30), .buildSlice 287 3 1 #[(.int .u64 0), (.int .i64 0), (.int .i64 0)] [(0, (.tmp 29))], none⟩,
⟨(some 31), .append 287 3 24 (.tmp 28) (.tmp 30), none⟩,
⟨(some 6), .move (.tmp 31), none⟩])
)
)
)
)
 (.region [⟨(some 32), .bin .add (.tmp 16) (.const (.int .i64 1)), none⟩,
⟨(some 16), .move (.tmp 32), none⟩])
)
)
)
)
)
)
 (.seq
 (.region [⟨(some 33), .move (.tmp 0), none⟩,
⟨(some 34), .move (.tmp 6), none⟩,
⟨(some 35), .nilCheck (.tmp 33), none⟩,
⟨(some 36), .off 0 (.tmp 35), none⟩,
⟨none, .store 1 (.tmp 36) (.tmp 34), none⟩])
 (.seq
 (.region [⟨(some 37), .move (.tmp 5), none⟩,
⟨(some 4), .move (.tmp 37), none⟩])
 .ret
)
)
)
)
)
)
, [.tmp 4]⟩
theorem c_183 : plainFn Tryz.prog 183 = some a_183 := by kernel_rfl
-- (*haycroft/epoch.Table).Safe
noncomputable def a_184 : AFun := ⟨25,
(.seq
 (.region [⟨(some 2), .move (.const (.int .u64 0)), none⟩])
 (.seq
 (.seq
 (.region [⟨(some 6), .move (.tmp 0), none⟩,
⟨(some 7), .eq false .pointer (.tmp 6) (.const (.pointer none)), none⟩])
 (.cond (.tmp 7)
 (.seq
 (.region [⟨(some 2), .move (.const (.int .u64 0)), none⟩])
 .ret
)
 .skip
)
)
 (.seq
 (.region [⟨(some 8), .move (.tmp 0), none⟩,
⟨(some 9), .call 181 [(.tmp 8)], none⟩,
⟨(some 3), .move (.tmp 9), none⟩])
 (.seq
 (.seq
 (.region [⟨(some 10), .move (.tmp 0), none⟩,
⟨(some 11), .call 274 [(.tmp 10)], none⟩,
⟨(some 12), .lenSl (.tmp 11), none⟩,
⟨(some 13), .move (.const (.int .i64 0)), none⟩])
 (.block 0
 (.loop none
 (.seq
 (.region [⟨(some 14), .bin .lss (.tmp 13) (.tmp 12), none⟩])
 (.seq
 (.cond (.tmp 14)
 .skip
 (.exit 0)
)
 (.seq
 (.block 1
 (.seq
 (.region [⟨(some 15), .ixSl 1 (.tmp 11) (.tmp 13), none⟩,
⟨(some 16), .load (.tmp 15), none⟩,
⟨(some 5), .move (.tmp 16), none⟩])
 (.region [⟨(some 17), .move (.tmp 3), none⟩,
⟨(some 18), .move (.tmp 0), none⟩,
⟨(some 19), .move (.tmp 5), none⟩,
⟨(some 20), .call 97 [(.tmp 18), (.tmp 19)], none⟩,
⟨(some 21), .minI (.tmp 17) (.tmp 20), none⟩,
⟨(some 3), .move (.tmp 21), none⟩])
)
)
 (.region [⟨(some 22), .bin .add (.tmp 13) (.const (.int .i64 1)), none⟩,
⟨(some 13), .move (.tmp 22), none⟩])
)
)
)
)
)
)
 (.seq
 (.region [⟨(some 23), .move (.tmp 3), none⟩,
⟨(some 24), .bin .sub (.tmp 23) (.const (.int .u64 1)), none⟩,
⟨(some 2), .move (.tmp 24), none⟩])
 .ret
)
)
)
)
)
, [.tmp 2]⟩
theorem c_184 : plainFn Tryz.prog 184 = some a_184 := by kernel_rfl
-- (*haycroft/pages.Buffer).Has
noncomputable def a_197 : AFun := ⟨24,
(.seq
 (.region [⟨(some 4), .move (.const (.bool false)), none⟩])
 (.seq
 (.draw [⟨(some 5), .move (.tmp 0), none⟩,
⟨(some 6), .eq true .pointer (.tmp 5) (.const (.pointer none)), none⟩,
⟨(some 7), .move (.tmp 6), none⟩,
⟨(some 8), .move (.tmp 1), (some (7, true))⟩,
⟨(some 9), .bin .geq (.tmp 8) (.const (.int .i64 0)), (some (7, true))⟩,
⟨(some 10), .pick (.tmp 7) (.tmp 9) (.const (.bool false)), none⟩,
⟨(some 11), .move (.tmp 10), none⟩,
⟨(some 12), .move (.tmp 0), (some (11, true))⟩,
⟨(some 13), .nilCheck (.tmp 12), (some (11, true))⟩,
⟨(some 14), .off 2 (.tmp 13), (some (11, true))⟩,
⟨(some 15), .load (.tmp 14), (some (11, true))⟩,
⟨(some 16), .move (.tmp 0), (some (11, true))⟩,
⟨(some 17), .move (.tmp 1), (some (11, true))⟩,
⟨(some 18), .call 199 [(.tmp 16), (.tmp 17)], (some (11, true))⟩,
⟨(some 19), .call 160 [(.tmp 15), (.tmp 18)], (some (11, true))⟩,
⟨(some 20), .move (.tmp 1), (some (11, true))⟩,
⟨(some 21), .call 288 [(.tmp 20)], (some (11, true))⟩,
⟨(some 22), .bin .eql (.tmp 19) (.tmp 21), (some (11, true))⟩,
⟨(some 23), .pick (.tmp 11) (.tmp 22) (.const (.bool false)), none⟩,
⟨(some 4), .move (.tmp 23), none⟩] [[], [], [], [], [], [], [], [], [], [], [13], [], [], [], [], [], [], [], [], []])
 .ret
)
)
, [.tmp 4]⟩
theorem c_197 : plainFn Tryz.prog 197 = some a_197 := by kernel_rfl
-- (*haycroft/pages.Buffer).frame
noncomputable def a_199 : AFun := ⟨12,
(.seq
 (.region [⟨(some 4), .move (.const (.int .i64 0)), none⟩])
 (.seq
 (.region [⟨(some 5), .move (.tmp 1), none⟩,
⟨(some 6), .move (.tmp 0), none⟩,
⟨(some 7), .nilCheck (.tmp 6), none⟩,
⟨(some 8), .off 2 (.tmp 7), none⟩,
⟨(some 9), .load (.tmp 8), none⟩,
⟨(some 10), .call 272 [(.tmp 9)], none⟩,
⟨(some 11), .bin .rem (.tmp 5) (.tmp 10), none⟩,
⟨(some 4), .move (.tmp 11), none⟩])
 .ret
)
)
, [.tmp 4]⟩
theorem c_199 : plainFn Tryz.prog 199 = some a_199 := by kernel_rfl
-- haycroft/image.Heard
noncomputable def a_213 : AFun := ⟨41,
(.seq
 (.region [⟨(some 2), .new 314 #[(.int .i64 0), (.int .i64 0), (.int .u64 0)], none⟩,
⟨(some 3), .move (.const (.int .i64 0)), none⟩])
 (.seq
 (.seq
 (.region [⟨(some 7), .move (.tmp 0), none⟩,
⟨(some 8), .lenStr (.tmp 7), none⟩,
⟨(some 9), .bin .neq (.tmp 8) (.const (.int .i64 32)), none⟩])
 (.cond (.tmp 9)
 (.seq
 (.region [⟨(some 10), .build #[(.int .i64 0), (.int .i64 0), (.int .u64 0)] #[(0, 1), (1, 1), (2, 1)] [], none⟩,
⟨none, .store 3 (.tmp 2) (.tmp 10), none⟩,
⟨(some 3), .move (.const (.int .i64 4)), none⟩])
 .ret
)
 .skip
)
)
 (.seq
 (.region [⟨(some 11), .move (.tmp 0), none⟩,
⟨(some 12), .call 232 [(.tmp 11)], none⟩,
⟨(some 13), .build #[(.slice none 0 0), (.bool false)] #[(0, 1), (1, 1)] [(0, (.tmp 12))], none⟩,
⟨(some 14), .box 415 (.tmp 13), none⟩,
⟨(some 4), .move (.tmp 14), none⟩])
 (.seq
 (.region [⟨(some 15), .move (.tmp 4), none⟩,
⟨(some 16), .call 308 [(.tmp 15)], none⟩,
⟨(some 17), .move (.tmp 4), none⟩,
⟨(some 18), .call 308 [(.tmp 17)], none⟩,
⟨(some 19), .move (.tmp 4), none⟩,
⟨(some 20), .call 309 [(.tmp 19)], none⟩,
⟨(some 21), .build #[(.int .i64 0), (.int .i64 0), (.int .u64 0)] #[(0, 1), (1, 1), (2, 1)] [(0, (.tmp 16)), (1, (.tmp 18)), (2, (.tmp 20))], none⟩,
⟨(some 5), .new 314 #[(.int .i64 0), (.int .i64 0), (.int .u64 0)], none⟩,
⟨none, .store 3 (.tmp 5) (.tmp 21), none⟩])
 (.seq
 (.region [⟨(some 22), .move (.tmp 4), none⟩,
⟨(some 23), .call 308 [(.tmp 22)], none⟩,
⟨(some 6), .move (.tmp 23), none⟩])
 (.seq
 (.seq
 (.region [⟨(some 24), .move (.tmp 4), none⟩,
⟨(some 25), .nilCheck (.tmp 24), none⟩,
⟨(some 26), .off 1 (.tmp 25), none⟩,
⟨(some 27), .load (.tmp 26), none⟩,
⟨(some 28), .move (.tmp 27), none⟩,
⟨(some 29), .move (.tmp 6), (some (28, false))⟩,
⟨(some 30), .off 0 (.tmp 5), (some (28, false))⟩,
⟨(some 31), .load (.tmp 30), (some (28, false))⟩,
⟨(some 32), .bin .neq (.tmp 29) (.tmp 31), (some (28, false))⟩,
⟨(some 33), .pick (.tmp 28) (.const (.bool true)) (.tmp 32), none⟩,
⟨(some 34), .move (.tmp 33), none⟩,
⟨(some 35), .loadN 3 (.tmp 5), (some (34, false))⟩,
⟨(some 36), .call 310 [(.tmp 35)], (some (34, false))⟩,
⟨(some 37), .un .not (.tmp 36), (some (34, false))⟩,
⟨(some 38), .pick (.tmp 34) (.const (.bool true)) (.tmp 37), none⟩])
 (.cond (.tmp 38)
 (.seq
 (.region [⟨(some 39), .build #[(.int .i64 0), (.int .i64 0), (.int .u64 0)] #[(0, 1), (1, 1), (2, 1)] [], none⟩,
⟨none, .store 3 (.tmp 2) (.tmp 39), none⟩,
⟨(some 3), .move (.const (.int .i64 4)), none⟩])
 .ret
)
 .skip
)
)
 (.seq
 (.region [⟨(some 40), .loadN 3 (.tmp 5), none⟩,
⟨none, .store 3 (.tmp 2) (.tmp 40), none⟩,
⟨(some 3), .move (.const (.int .i64 0)), none⟩])
 .ret
)
)
)
)
)
)
)
, [.cell 2 (some 3), .tmp 3]⟩
theorem c_213 : plainFn Tryz.prog 213 = some a_213 := by kernel_rfl
-- slices.SortStableFunc[[]haycroft/api.Commit,haycroft/api.Commit]
noncomputable def a_214 : AFun := ⟨9,
(.region [⟨(some 4), .move (.tmp 0), none⟩,
⟨(some 5), .move (.tmp 0), none⟩,
⟨(some 6), .lenSl (.tmp 5), none⟩,
⟨(some 7), .move (.tmp 1), none⟩,
⟨(some 8), .call 311 [(.tmp 4), (.tmp 6), (.tmp 7)], none⟩])
, []⟩
theorem c_214 : plainFn Tryz.prog 214 = some a_214 := by kernel_rfl
-- haycroft/hlog.New
noncomputable def a_220 : AFun := ⟨58,
(.seq
 (.region [⟨(some 2), .box 23 (.tmp 0), none⟩,
⟨(some 4), .move (.const (.pointer none)), none⟩,
⟨(some 5), .move (.const (.int .i64 0)), none⟩])
 (.seq
 (.seq
 (.region [⟨(some 12), .move (.tmp 1), none⟩,
⟨(some 13), .eq false .pointer (.tmp 12) (.const (.pointer none)), none⟩])
 (.cond (.tmp 13)
 (.seq
 (.region [⟨(some 4), .move (.const (.pointer none)), none⟩,
⟨(some 5), .move (.const (.int .i64 2)), none⟩])
 .ret
)
 .skip
)
)
 (.seq
 (.region [⟨(some 15), .off 0 (.tmp 2), none⟩,
⟨(some 16), .load (.tmp 15), none⟩,
⟨(some 17), .off 2 (.tmp 2), none⟩,
⟨(some 18), .load (.tmp 17), none⟩,
⟨(some 19), .call 319 [(.tmp 16), (.tmp 18)], none⟩,
⟨(some 14), .move (.tmp 19), none⟩,
⟨(some 20), .extract (.tmp 14) 0, none⟩,
⟨(some 21), .extract (.tmp 14) 1, none⟩,
⟨(some 6), .move (.tmp 20), none⟩,
⟨(some 7), .move (.tmp 21), none⟩])
 (.seq
 (.region [⟨(some 23), .off 0 (.tmp 2), none⟩,
⟨(some 24), .load (.tmp 23), none⟩,
⟨(some 25), .off 1 (.tmp 2), none⟩,
⟨(some 26), .load (.tmp 25), none⟩,
⟨(some 27), .call 320 [(.tmp 24), (.tmp 26)], none⟩,
⟨(some 22), .move (.tmp 27), none⟩,
⟨(some 28), .extract (.tmp 22) 0, none⟩,
⟨(some 29), .extract (.tmp 22) 1, none⟩,
⟨(some 8), .move (.tmp 28), none⟩,
⟨(some 9), .move (.tmp 29), none⟩])
 (.seq
 (.region [⟨(some 31), .off 5 (.tmp 2), none⟩,
⟨(some 32), .load (.tmp 31), none⟩,
⟨(some 33), .call 321 [(.tmp 32)], none⟩,
⟨(some 30), .move (.tmp 33), none⟩,
⟨(some 34), .extract (.tmp 30) 0, none⟩,
⟨(some 35), .extract (.tmp 30) 1, none⟩,
⟨(some 10), .move (.tmp 34), none⟩,
⟨(some 11), .move (.tmp 35), none⟩])
 (.seq
 (.seq
 (.region [⟨(some 36), .move (.tmp 7), none⟩,
⟨(some 37), .bin .neq (.tmp 36) (.const (.int .i64 0)), none⟩,
⟨(some 38), .move (.tmp 37), none⟩,
⟨(some 39), .move (.tmp 9), (some (38, false))⟩,
⟨(some 40), .bin .neq (.tmp 39) (.const (.int .i64 0)), (some (38, false))⟩,
⟨(some 41), .pick (.tmp 38) (.const (.bool true)) (.tmp 40), none⟩,
⟨(some 42), .move (.tmp 41), none⟩,
⟨(some 43), .move (.tmp 11), (some (42, false))⟩,
⟨(some 44), .bin .neq (.tmp 43) (.const (.int .i64 0)), (some (42, false))⟩,
⟨(some 45), .pick (.tmp 42) (.const (.bool true)) (.tmp 44), none⟩])
 (.cond (.tmp 45)
 (.seq
 (.region [⟨(some 4), .move (.const (.pointer none)), none⟩,
⟨(some 5), .move (.const (.int .i64 1)), none⟩])
 .ret
)
 .skip
)
)
 (.seq
 (.region [⟨(some 46), .move (.tmp 6), none⟩,
⟨(some 47), .move (.tmp 8), none⟩,
⟨(some 48), .call 322 [], none⟩,
⟨(some 49), .move (.tmp 10), none⟩,
⟨(some 50), .call 323 [], none⟩,
⟨(some 51), .move (.tmp 1), none⟩,
⟨(some 52), .makeMap, none⟩,
⟨(some 53), .makeMap, none⟩,
⟨(some 54), .build #[(.pointer none), (.pointer none), (.pointer none), (.pointer none), (.pointer none), (.pointer none), (.map none), (.map none)] #[(0, 1), (1, 1), (2, 1), (3, 1), (4, 1), (5, 1), (6, 1), (7, 1)] [(0, (.tmp 46)), (1, (.tmp 47)), (2, (.tmp 48)), (3, (.tmp 49)), (4, (.tmp 50)), (5, (.tmp 51)), (6, (.tmp 52)), (7, (.tmp 53))], none⟩,
⟨(some 55), .box 197 (.tmp 54), none⟩,
⟨(some 56), .move (.tmp 8), none⟩,
⟨(some 57), .call 324 [(.tmp 56), (.const (.int .i64 0))], none⟩,
⟨(some 4), .move (.tmp 55), none⟩,
⟨(some 5), .move (.tmp 57), none⟩])
 .ret
)
)
)
)
)
)
)
, [.tmp 4, .tmp 5]⟩
theorem c_220 : plainFn Tryz.prog 220 = some a_220 := by kernel_rfl
-- haycroft/index.New
noncomputable def a_221 : AFun := ⟨44,
(.seq
 (.region [⟨(some 4), .move (.const (.pointer none)), none⟩,
⟨(some 5), .move (.const (.int .i64 0)), none⟩])
 (.seq
 (.seq
 (.region [⟨(some 9), .move (.tmp 0), none⟩,
⟨(some 10), .call 120 [(.tmp 9)], none⟩,
⟨(some 11), .un .not (.tmp 10), none⟩,
⟨(some 12), .move (.tmp 11), none⟩,
⟨(some 13), .move (.tmp 1), (some (12, false))⟩,
⟨(some 14), .bin .lss (.tmp 13) (.const (.int .i64 0)), (some (12, false))⟩,
⟨(some 15), .pick (.tmp 12) (.const (.bool true)) (.tmp 14), none⟩,
⟨(some 16), .move (.tmp 15), none⟩,
⟨(some 17), .move (.tmp 1), (some (16, false))⟩,
⟨(some 18), .bin .gtr (.tmp 17) (.const (.int .i64 64)), (some (16, false))⟩,
⟨(some 19), .pick (.tmp 16) (.const (.bool true)) (.tmp 18), none⟩])
 (.cond (.tmp 19)
 (.seq
 (.region [⟨(some 4), .move (.const (.pointer none)), none⟩,
⟨(some 5), .move (.const (.int .i64 1)), none⟩])
 .ret
)
 .skip
)
)
 (.seq
 (.region [⟨(some 21), .move (.tmp 0), none⟩,
⟨(some 22), .move (.tmp 1), none⟩,
⟨(some 23), .bin .add (.tmp 21) (.tmp 22), none⟩,
⟨(some 24), .bin .mul (.tmp 23) (.const (.int .i64 8)), none⟩,
⟨(some 25), .call 325 [(.tmp 24)], none⟩,
⟨(some 20), .move (.tmp 25), none⟩,
⟨(some 26), .extract (.tmp 20) 0, none⟩,
⟨(some 27), .extract (.tmp 20) 1, none⟩,
⟨(some 6), .move (.tmp 26), none⟩,
⟨(some 7), .move (.tmp 27), none⟩])
 (.seq
 (.seq
 (.region [⟨(some 28), .move (.tmp 7), none⟩,
⟨(some 29), .bin .neq (.tmp 28) (.const (.int .i64 0)), none⟩])
 (.cond (.tmp 29)
 (.seq
 (.region [⟨(some 30), .move (.tmp 7), none⟩,
⟨(some 4), .move (.const (.pointer none)), none⟩,
⟨(some 5), .move (.tmp 30), none⟩])
 .ret
)
 .skip
)
)
 (.seq
 (.region [⟨(some 32), .call 325 [(.const (.int .i64 1))], none⟩,
⟨(some 31), .move (.tmp 32), none⟩,
⟨(some 33), .extract (.tmp 31) 0, none⟩,
⟨(some 34), .extract (.tmp 31) 1, none⟩,
⟨(some 8), .move (.tmp 33), none⟩,
⟨(some 7), .move (.tmp 34), none⟩])
 (.seq
 (.seq
 (.region [⟨(some 35), .move (.tmp 7), none⟩,
⟨(some 36), .bin .neq (.tmp 35) (.const (.int .i64 0)), none⟩])
 (.cond (.tmp 36)
 (.seq
 (.region [⟨(some 37), .move (.tmp 7), none⟩,
⟨(some 4), .move (.const (.pointer none)), none⟩,
⟨(some 5), .move (.tmp 37), none⟩])
 .ret
)
 .skip
)
)
 (.seq
 (.region [⟨(some 38), .move (.tmp 0), none⟩,
⟨(some 39), .move (.tmp 1), none⟩,
⟨(some 40), .move (.tmp 6), none⟩,
⟨(some 41), .move (.tmp 8), none⟩,
⟨(some 42), .build #[(.int .i64 0), (.int .i64 0), (.pointer none), (.pointer none)] #[(0, 1), (1, 1), (2, 1), (3, 1)] [(0, (.tmp 38)), (1, (.tmp 39)), (2, (.tmp 40)), (3, (.tmp 41))], none⟩,
⟨(some 43), .box 242 (.tmp 42), none⟩,
⟨(some 4), .move (.tmp 43), none⟩,
⟨(some 5), .move (.const (.int .i64 0)), none⟩])
 .ret
)
)
)
)
)
)
)
, [.tmp 4, .tmp 5]⟩
theorem c_221 : plainFn Tryz.prog 221 = some a_221 := by kernel_rfl
-- haycroft/session.New
noncomputable def a_222 : AFun := ⟨28,
(.seq
 (.region [⟨(some 6), .move (.const (.pointer none)), none⟩,
⟨(some 7), .move (.const (.int .i64 0)), none⟩])
 (.seq
 (.block 0
 (.seq
 (.region [⟨(some 9), .move (.tmp 0), none⟩,
⟨(some 10), .eq false .pointer (.tmp 9) (.const (.pointer none)), none⟩,
⟨(some 11), .move (.tmp 10), none⟩,
⟨(some 12), .move (.tmp 1), (some (11, false))⟩,
⟨(some 13), .eq false .pointer (.tmp 12) (.const (.pointer none)), (some (11, false))⟩,
⟨(some 14), .pick (.tmp 11) (.const (.bool true)) (.tmp 13), none⟩,
⟨(some 8), .move (.tmp 14), none⟩])
 (.cond (.tmp 8)
 (.seq
 (.region [⟨(some 6), .move (.const (.pointer none)), none⟩,
⟨(some 7), .move (.const (.int .i64 2)), none⟩])
 .ret
)
 (.seq
 (.region [⟨(some 16), .move (.tmp 2), none⟩,
⟨(some 17), .bin .lss (.tmp 16) (.const (.int .i64 0)), none⟩,
⟨(some 18), .move (.tmp 17), none⟩,
⟨(some 19), .move (.tmp 2), (some (18, false))⟩,
⟨(some 20), .bin .geq (.tmp 19) (.const (.int .i64 8)), (some (18, false))⟩,
⟨(some 21), .pick (.tmp 18) (.const (.bool true)) (.tmp 20), none⟩,
⟨(some 15), .move (.tmp 21), none⟩])
 (.cond (.tmp 15)
 (.seq
 (.region [⟨(some 6), .move (.const (.pointer none)), none⟩,
⟨(some 7), .move (.const (.int .i64 1)), none⟩])
 .ret
)
 .skip
)
)
)
)
)
 (.seq
 (.region [⟨(some 22), .move (.tmp 0), none⟩,
⟨(some 23), .move (.tmp 1), none⟩,
⟨(some 24), .move (.tmp 2), none⟩,
⟨(some 25), .makeMap, none⟩,
⟨(some 26), .build #[(.pointer none), (.pointer none), (.int .i64 0), (.int .i64 0), (.bool false), (.pointer none), (.slice none 0 0), (.int .i64 0), (.map none), (.int .i64 0)] #[(0, 1), (1, 1), (2, 1), (3, 1), (4, 1), (5, 1), (6, 1), (7, 1), (8, 1), (9, 1)] [(0, (.tmp 22)), (1, (.tmp 23)), (2, (.tmp 24)), (8, (.tmp 25))], none⟩,
⟨(some 27), .box 177 (.tmp 26), none⟩,
⟨(some 6), .move (.tmp 27), none⟩,
⟨(some 7), .move (.const (.int .i64 0)), none⟩])
 .ret
)
)
)
, [.tmp 6, .tmp 7]⟩
theorem c_222 : plainFn Tryz.prog 222 = some a_222 := by kernel_rfl
-- haycroft/field.Words
noncomputable def a_232 : AFun := ⟨33,
(.seq
 (.region [⟨(some 2), .move (.const (.slice none 0 0)), none⟩])
 (.seq
 (.region [⟨(some 5), .move (.tmp 0), none⟩,
⟨(some 6), .lenStr (.tmp 5), none⟩,
⟨(some 7), .bin .add (.tmp 6) (.const (.int .i64 8)), none⟩,
⟨(some 8), .bin .sub (.tmp 7) (.const (.int .i64 1)), none⟩,
⟨(some 9), .bin .quo (.tmp 8) (.const (.int .i64 8)), none⟩,
⟨(some 10), .makeSlice 24 1 8 #[(.int .u64 0)] (.tmp 9) (.tmp 9), none⟩,
⟨(some 3), .move (.tmp 10), none⟩])
 (.seq
 (.seq
 (.region [⟨(some 11), .move (.tmp 0), none⟩,
⟨(some 12), .lenStr (.tmp 11), none⟩,
⟨(some 13), .move (.const (.int .i64 0)), none⟩])
 (.block 0
 (.loop none
 (.seq
 (.region [⟨(some 14), .bin .lss (.tmp 13) (.tmp 12), none⟩])
 (.seq
 (.cond (.tmp 14)
 .skip
 (.exit 0)
)
 (.seq
 (.block 1
 (.seq
 (.region [⟨(some 15), .move (.tmp 13), none⟩,
⟨(some 4), .move (.tmp 15), none⟩])
 (.draw [⟨(some 16), .move (.tmp 3), none⟩,
⟨(some 17), .move (.tmp 4), none⟩,
⟨(some 18), .bin .quo (.tmp 17) (.const (.int .i64 8)), none⟩,
⟨(some 19), .ixSl 1 (.tmp 16) (.tmp 18), none⟩,
⟨(some 20), .load (.tmp 19), none⟩,
⟨(some 21), .move (.tmp 0), none⟩,
⟨(some 22), .move (.tmp 4), none⟩,
⟨(some 23), .ixStr (.tmp 21) (.tmp 22), none⟩,
⟨(some 24), .toInt .u64 (.tmp 23), none⟩,
⟨(some 25), .move (.tmp 4), none⟩,
⟨(some 26), .bin .rem (.tmp 25) (.const (.int .i64 8)), none⟩,
⟨(some 27), .bin .mul (.tmp 26) (.const (.int .i64 8)), none⟩,
⟨(some 28), .bin .shl (.tmp 24) (.tmp 27), none⟩,
⟨(some 29), .bin .or (.tmp 20) (.tmp 28), none⟩,
⟨(some 30), .ixSl 1 (.tmp 16) (.tmp 18), none⟩,
⟨none, .store 1 (.tmp 30) (.tmp 29), none⟩] [[], [], [], [], [], [], [], [], [], [], [], [], [], [], [], []])
)
)
 (.region [⟨(some 31), .bin .add (.tmp 13) (.const (.int .i64 1)), none⟩,
⟨(some 13), .move (.tmp 31), none⟩])
)
)
)
)
)
)
 (.seq
 (.region [⟨(some 32), .move (.tmp 3), none⟩,
⟨(some 2), .move (.tmp 32), none⟩])
 .ret
)
)
)
)
, [.tmp 2]⟩
theorem c_232 : plainFn Tryz.prog 232 = some a_232 := by kernel_rfl
-- haycroft/header.Lengths
noncomputable def a_234 : AFun := ⟨29,
(.seq
 (.region [⟨(some 4), .move (.const (.int .u64 0)), none⟩,
⟨(some 5), .move (.const (.int .i64 0)), none⟩])
 (.seq
 (.block 0
 (.seq
 (.region [⟨(some 7), .move (.tmp 0), none⟩,
⟨(some 8), .bin .lss (.tmp 7) (.const (.int .i64 0)), none⟩,
⟨(some 9), .move (.tmp 8), none⟩,
⟨(some 10), .move (.tmp 1), (some (9, false))⟩,
⟨(some 11), .bin .lss (.tmp 10) (.const (.int .i64 0)), (some (9, false))⟩,
⟨(some 12), .pick (.tmp 9) (.const (.bool true)) (.tmp 11), none⟩,
⟨(some 6), .move (.tmp 12), none⟩])
 (.cond (.tmp 6)
 (.seq
 (.region [⟨(some 4), .move (.const (.int .u64 0)), none⟩,
⟨(some 5), .move (.const (.int .i64 1)), none⟩])
 .ret
)
 (.seq
 (.region [⟨(some 14), .move (.tmp 0), none⟩,
⟨(some 15), .bin .gtr (.tmp 14) (.const (.int .i64 64)), none⟩,
⟨(some 16), .move (.tmp 15), none⟩,
⟨(some 17), .move (.tmp 1), (some (16, false))⟩,
⟨(some 18), .bin .gtr (.tmp 17) (.const (.int .i64 128)), (some (16, false))⟩,
⟨(some 19), .pick (.tmp 16) (.const (.bool true)) (.tmp 18), none⟩,
⟨(some 13), .move (.tmp 19), none⟩])
 (.cond (.tmp 13)
 (.seq
 (.region [⟨(some 4), .move (.const (.int .u64 0)), none⟩,
⟨(some 5), .move (.const (.int .i64 5)), none⟩])
 .ret
)
 .skip
)
)
)
)
)
 (.seq
 (.region [⟨(some 20), .move (.tmp 0), none⟩,
⟨(some 21), .toInt .u64 (.tmp 20), none⟩,
⟨(some 22), .move (.tmp 1), none⟩,
⟨(some 23), .toInt .u64 (.tmp 22), none⟩,
⟨(some 24), .buildSlice 24 1 3 #[(.int .u64 0), (.int .u64 0), (.int .u64 0)] [(0, (.tmp 21)), (1, (.tmp 23)), (2, (.const (.int .u64 44203)))], none⟩,
⟨(some 25), .buildSlice 3 1 3 #[(.int .i64 0), (.int .i64 0), (.int .i64 0)] [(0, (.const (.int .i64 16))), (1, (.const (.int .i64 16))), (2, (.const (.int .i64 16)))], none⟩,
⟨(some 26), .call 334 [(.tmp 24), (.tmp 25)], none⟩,
⟨(some 27), .extract (.tmp 26) 0, none⟩,
⟨(some 28), .extract (.tmp 26) 1, none⟩,
⟨(some 4), .move (.tmp 27), none⟩,
⟨(some 5), .move (.tmp 28), none⟩])
 .ret
)
)
)
, [.tmp 4, .tmp 5]⟩
theorem c_234 : plainFn Tryz.prog 234 = some a_234 := by kernel_rfl
-- haycroft/record.words
noncomputable def a_235 : AFun := ⟨7,
(.seq
 (.region [⟨(some 2), .move (.const (.int .i64 0)), none⟩])
 (.seq
 (.region [⟨(some 3), .move (.tmp 0), none⟩,
⟨(some 4), .bin .add (.tmp 3) (.const (.int .i64 8)), none⟩,
⟨(some 5), .bin .sub (.tmp 4) (.const (.int .i64 1)), none⟩,
⟨(some 6), .bin .quo (.tmp 5) (.const (.int .i64 8)), none⟩,
⟨(some 2), .move (.tmp 6), none⟩])
 .ret
)
)
, [.tmp 2]⟩
theorem c_235 : plainFn Tryz.prog 235 = some a_235 := by kernel_rfl
-- haycroft/field.Most
noncomputable def a_236 : AFun := ⟨12,
(.seq
 (.region [⟨(some 2), .move (.const (.int .u64 0)), none⟩])
 (.seq
 (.block 0
 (.seq
 (.region [⟨(some 4), .move (.tmp 0), none⟩,
⟨(some 5), .bin .lss (.tmp 4) (.const (.int .i64 1)), none⟩,
⟨(some 3), .move (.tmp 5), none⟩])
 (.cond (.tmp 3)
 (.seq
 (.region [⟨(some 2), .move (.const (.int .u64 0)), none⟩])
 .ret
)
 (.seq
 (.region [⟨(some 7), .move (.tmp 0), none⟩,
⟨(some 8), .bin .geq (.tmp 7) (.const (.int .i64 64)), none⟩,
⟨(some 6), .move (.tmp 8), none⟩])
 (.cond (.tmp 6)
 (.seq
 (.region [⟨(some 2), .move (.const (.int .u64 18446744073709551615)), none⟩])
 .ret
)
 .skip
)
)
)
)
)
 (.seq
 (.region [⟨(some 9), .move (.tmp 0), none⟩,
⟨(some 10), .bin .shl (.const (.int .u64 1)) (.tmp 9), none⟩,
⟨(some 11), .bin .sub (.tmp 10) (.const (.int .u64 1)), none⟩,
⟨(some 2), .move (.tmp 11), none⟩])
 .ret
)
)
)
, [.tmp 2]⟩
theorem c_236 : plainFn Tryz.prog 236 = some a_236 := by kernel_rfl
-- haycroft/header.Pack
noncomputable def a_237 : AFun := ⟨20,
(.seq
 (.region [⟨(some 1), .box 65 (.tmp 0), none⟩,
⟨(some 2), .move (.const (.int .u64 0)), none⟩,
⟨(some 3), .move (.const (.int .i64 0)), none⟩])
 (.seq
 (.seq
 (.region [⟨(some 4), .off 0 (.tmp 1), none⟩,
⟨(some 5), .load (.tmp 4), none⟩,
⟨(some 6), .bin .gtr (.tmp 5) (.const (.int .u64 281474976710655)), none⟩])
 (.cond (.tmp 6)
 (.seq
 (.region [⟨(some 2), .move (.const (.int .u64 0)), none⟩,
⟨(some 3), .move (.const (.int .i64 1)), none⟩])
 .ret
)
 .skip
)
)
 (.seq
 (.draw [⟨(some 7), .off 0 (.tmp 1), none⟩,
⟨(some 8), .load (.tmp 7), none⟩,
⟨(some 9), .off 1 (.tmp 1), none⟩,
⟨(some 10), .load (.tmp 9), none⟩,
⟨(some 11), .call 335 [(.tmp 10)], none⟩,
⟨(some 12), .off 2 (.tmp 1), none⟩,
⟨(some 13), .load (.tmp 12), none⟩,
⟨(some 14), .call 335 [(.tmp 13)], none⟩,
⟨(some 15), .buildSlice 24 1 3 #[(.int .u64 0), (.int .u64 0), (.int .u64 0)] [(0, (.tmp 8)), (1, (.tmp 11)), (2, (.tmp 14))], none⟩,
⟨(some 16), .buildSlice 3 1 3 #[(.int .i64 0), (.int .i64 0), (.int .i64 0)] [(0, (.const (.int .i64 48))), (1, (.const (.int .i64 1))), (2, (.const (.int .i64 1)))], none⟩,
⟨(some 17), .call 334 [(.tmp 15), (.tmp 16)], none⟩,
⟨(some 18), .extract (.tmp 17) 0, none⟩,
⟨(some 19), .extract (.tmp 17) 1, none⟩,
⟨(some 2), .move (.tmp 18), none⟩,
⟨(some 3), .move (.tmp 19), none⟩] [[], [4, 7], [], [], [], [], [4], [], [], [4, 7], [], [], [], [], []])
 .ret
)
)
)
, [.tmp 2, .tmp 3]⟩
theorem c_237 : plainFn Tryz.prog 237 = some a_237 := by kernel_rfl
-- (*haycroft/tail.Tail).now
noncomputable def a_249 : AFun := ⟨17,
(.seq
 (.region [⟨(some 2), .move (.const (.int .i64 0)), none⟩,
⟨(some 3), .move (.const (.int .i64 0)), none⟩])
 (.seq
 (.region [⟨(some 5), .move (.tmp 0), none⟩,
⟨(some 6), .nilCheck (.tmp 5), none⟩,
⟨(some 7), .off 2 (.tmp 6), none⟩,
⟨(some 8), .load (.tmp 7), none⟩,
⟨(some 9), .call 160 [(.tmp 8), (.const (.int .i64 0))], none⟩,
⟨(some 4), .move (.tmp 9), none⟩])
 (.seq
 (.region [⟨(some 10), .move (.tmp 4), none⟩,
⟨(some 11), .bin .shr (.tmp 10) (.const (.int .u64 32)), none⟩,
⟨(some 12), .toInt .i64 (.tmp 11), none⟩,
⟨(some 13), .move (.tmp 4), none⟩,
⟨(some 14), .call 236 [(.const (.int .i64 32))], none⟩,
⟨(some 15), .bin .and (.tmp 13) (.tmp 14), none⟩,
⟨(some 16), .toInt .i64 (.tmp 15), none⟩,
⟨(some 2), .move (.tmp 12), none⟩,
⟨(some 3), .move (.tmp 16), none⟩])
 .ret
)
)
)
, [.tmp 2, .tmp 3]⟩
theorem c_249 : plainFn Tryz.prog 249 = some a_249 := by kernel_rfl
-- (*haycroft/index.Index).all
noncomputable def a_250 : AFun := ⟨14,
(.seq
 (.region [⟨(some 2), .move (.const (.int .i64 0)), none⟩])
 (.seq
 (.seq
 (.region [⟨(some 3), .move (.tmp 0), none⟩,
⟨(some 4), .eq false .pointer (.tmp 3) (.const (.pointer none)), none⟩])
 (.cond (.tmp 4)
 (.seq
 (.region [⟨(some 2), .move (.const (.int .i64 0)), none⟩])
 .ret
)
 .skip
)
)
 (.seq
 (.draw [⟨(some 5), .move (.tmp 0), none⟩,
⟨(some 6), .nilCheck (.tmp 5), none⟩,
⟨(some 7), .off 0 (.tmp 6), none⟩,
⟨(some 8), .load (.tmp 7), none⟩,
⟨(some 9), .move (.tmp 0), none⟩,
⟨(some 10), .nilCheck (.tmp 9), none⟩,
⟨(some 11), .off 1 (.tmp 10), none⟩,
⟨(some 12), .load (.tmp 11), none⟩,
⟨(some 13), .bin .add (.tmp 8) (.tmp 12), none⟩,
⟨(some 2), .move (.tmp 13), none⟩] [[], [], [], [], [], [], [], [], [], []])
 .ret
)
)
)
, [.tmp 2]⟩
theorem c_250 : plainFn Tryz.prog 250 = some a_250 := by kernel_rfl
-- (*haycroft/index.Index).link
noncomputable def a_251 : AFun := ⟨20,
(.seq
 (.region [⟨(some 4), .move (.const (.int .i64 0)), none⟩,
⟨(some 5), .move (.const (.bool false)), none⟩])
 (.seq
 (.region [⟨(some 7), .move (.tmp 0), none⟩,
⟨(some 8), .nilCheck (.tmp 7), none⟩,
⟨(some 9), .off 2 (.tmp 8), none⟩,
⟨(some 10), .load (.tmp 9), none⟩,
⟨(some 11), .move (.tmp 1), none⟩,
⟨(some 12), .bin .mul (.tmp 11) (.const (.int .i64 8)), none⟩,
⟨(some 13), .bin .add (.tmp 12) (.const (.int .i64 7)), none⟩,
⟨(some 14), .call 160 [(.tmp 10), (.tmp 13)], none⟩,
⟨(some 6), .move (.tmp 14), none⟩])
 (.seq
 (.region [⟨(some 15), .move (.tmp 6), none⟩,
⟨(some 16), .toInt .i64 (.tmp 15), none⟩,
⟨(some 17), .bin .sub (.tmp 16) (.const (.int .i64 1)), none⟩,
⟨(some 18), .move (.tmp 6), none⟩,
⟨(some 19), .bin .gtr (.tmp 18) (.const (.int .u64 0)), none⟩,
⟨(some 4), .move (.tmp 17), none⟩,
⟨(some 5), .move (.tmp 19), none⟩])
 .ret
)
)
)
, [.tmp 4, .tmp 5]⟩
theorem c_251 : plainFn Tryz.prog 251 = some a_251 := by kernel_rfl
-- (*haycroft/index.Index).slot
noncomputable def a_252 : AFun := ⟨25,
(.seq
 (.region [⟨(some 4), .move (.const (.bool false)), none⟩])
 (.seq
 (.region [⟨(some 5), .move (.tmp 0), none⟩,
⟨(some 6), .eq true .pointer (.tmp 5) (.const (.pointer none)), none⟩,
⟨(some 7), .move (.tmp 6), none⟩,
⟨(some 8), .move (.tmp 1), (some (7, true))⟩,
⟨(some 9), .bin .geq (.tmp 8) (.const (.int .i64 0)), (some (7, true))⟩,
⟨(some 10), .pick (.tmp 7) (.tmp 9) (.const (.bool false)), none⟩,
⟨(some 11), .move (.tmp 10), none⟩,
⟨(some 12), .move (.tmp 1), (some (11, true))⟩,
⟨(some 13), .move (.tmp 0), (some (11, true))⟩,
⟨(some 14), .nilCheck (.tmp 13), (some (11, true))⟩,
⟨(some 15), .off 2 (.tmp 14), (some (11, true))⟩,
⟨(some 16), .load (.tmp 15), (some (11, true))⟩,
⟨(some 17), .call 272 [(.tmp 16)], (some (11, true))⟩,
⟨(some 18), .bin .lss (.tmp 12) (.tmp 17), (some (11, true))⟩,
⟨(some 19), .pick (.tmp 11) (.tmp 18) (.const (.bool false)), none⟩,
⟨(some 20), .move (.tmp 19), none⟩,
⟨(some 21), .move (.tmp 1), (some (20, true))⟩,
⟨(some 22), .bin .rem (.tmp 21) (.const (.int .i64 8)), (some (20, true))⟩,
⟨(some 23), .bin .neq (.tmp 22) (.const (.int .i64 7)), (some (20, true))⟩,
⟨(some 24), .pick (.tmp 20) (.tmp 23) (.const (.bool false)), none⟩,
⟨(some 4), .move (.tmp 24), none⟩])
 .ret
)
)
, [.tmp 4]⟩
theorem c_252 : plainFn Tryz.prog 252 = some a_252 := by kernel_rfl
-- (*haycroft/cell.Row).there
noncomputable def a_254 : AFun := ⟨13,
(.seq
 (.region [⟨(some 4), .move (.const (.bool false)), none⟩])
 (.seq
 (.region [⟨(some 5), .move (.tmp 1), none⟩,
⟨(some 6), .bin .geq (.tmp 5) (.const (.int .i64 0)), none⟩,
⟨(some 7), .move (.tmp 6), none⟩,
⟨(some 8), .move (.tmp 1), (some (7, true))⟩,
⟨(some 9), .move (.tmp 0), (some (7, true))⟩,
⟨(some 10), .call 272 [(.tmp 9)], (some (7, true))⟩,
⟨(some 11), .bin .lss (.tmp 8) (.tmp 10), (some (7, true))⟩,
⟨(some 12), .pick (.tmp 7) (.tmp 11) (.const (.bool false)), none⟩,
⟨(some 4), .move (.tmp 12), none⟩])
 .ret
)
)
, [.tmp 4]⟩
theorem c_254 : plainFn Tryz.prog 254 = some a_254 := by kernel_rfl
-- (*sync/atomic.Uint64).Load
noncomputable def a_255 : AFun := ⟨7,
(.seq
 (.region [⟨(some 2), .move (.const (.int .u64 0)), none⟩])
 (.seq
 (.region [⟨(some 3), .move (.tmp 0), none⟩,
⟨(some 4), .nilCheck (.tmp 3), none⟩,
⟨(some 5), .off 0 (.tmp 4), none⟩,
⟨(some 6), .aload .u64 (.tmp 5), none⟩,
⟨(some 2), .move (.tmp 6), none⟩])
 .ret
)
)
, [.tmp 2]⟩
theorem c_255 : plainFn Tryz.prog 255 = some a_255 := by kernel_rfl
-- haycroft/field.Right
noncomputable def a_256 : AFun := ⟨21,
(.seq
 (.region [⟨(some 4), .move (.const (.bool false)), none⟩])
 (.seq
 (.region [⟨(some 5), .move (.tmp 0), none⟩,
⟨(some 6), .bin .geq (.tmp 5) (.const (.int .i64 0)), none⟩,
⟨(some 7), .move (.tmp 6), none⟩,
⟨(some 8), .move (.tmp 0), (some (7, true))⟩,
⟨(some 9), .bin .lss (.tmp 8) (.const (.int .i64 64)), (some (7, true))⟩,
⟨(some 10), .pick (.tmp 7) (.tmp 9) (.const (.bool false)), none⟩,
⟨(some 11), .move (.tmp 10), none⟩,
⟨(some 12), .move (.tmp 1), (some (11, true))⟩,
⟨(some 13), .bin .geq (.tmp 12) (.const (.int .i64 1)), (some (11, true))⟩,
⟨(some 14), .pick (.tmp 11) (.tmp 13) (.const (.bool false)), none⟩,
⟨(some 15), .move (.tmp 14), none⟩,
⟨(some 16), .move (.tmp 1), (some (15, true))⟩,
⟨(some 17), .move (.tmp 0), (some (15, true))⟩,
⟨(some 18), .bin .sub (.const (.int .i64 64)) (.tmp 17), (some (15, true))⟩,
⟨(some 19), .bin .leq (.tmp 16) (.tmp 18), (some (15, true))⟩,
⟨(some 20), .pick (.tmp 15) (.tmp 19) (.const (.bool false)), none⟩,
⟨(some 4), .move (.tmp 20), none⟩])
 .ret
)
)
, [.tmp 4]⟩
theorem c_256 : plainFn Tryz.prog 256 = some a_256 := by kernel_rfl
-- haycroft/task.Right
noncomputable def a_270 : AFun := ⟨29,
(.seq
 (.region [⟨(some 1), .box 26 (.tmp 0), none⟩,
⟨(some 2), .move (.const (.int .i64 0)), none⟩])
 (.seq
 (.block 0
 (.seq
 (.seq
 (.region [⟨(some 4), .off 0 (.tmp 1), none⟩,
⟨(some 5), .load (.tmp 4), none⟩,
⟨(some 6), .bin .lss (.tmp 5) (.const (.int .i64 1)), none⟩,
⟨(some 7), .move (.tmp 6), none⟩,
⟨(some 8), .off 0 (.tmp 1), (some (7, false))⟩,
⟨(some 9), .load (.tmp 8), (some (7, false))⟩,
⟨(some 10), .bin .gtr (.tmp 9) (.const (.int .i64 4)), (some (7, false))⟩,
⟨(some 11), .pick (.tmp 7) (.const (.bool true)) (.tmp 10), none⟩,
⟨(some 3), .move (.tmp 11), none⟩])
 (.cond (.tmp 3)
 .skip
 (.region [⟨(some 12), .off 1 (.tmp 1), none⟩,
⟨(some 13), .load (.tmp 12), none⟩,
⟨(some 14), .bin .eql (.tmp 13) (.const (.string (strB []))), none⟩,
⟨(some 3), .move (.tmp 14), none⟩])
)
)
 (.cond (.tmp 3)
 (.seq
 (.region [⟨(some 2), .move (.const (.int .i64 1)), none⟩])
 .ret
)
 (.seq
 (.seq
 (.region [⟨(some 16), .off 1 (.tmp 1), none⟩,
⟨(some 17), .load (.tmp 16), none⟩,
⟨(some 18), .lenStr (.tmp 17), none⟩,
⟨(some 19), .bin .gtr (.tmp 18) (.const (.int .i64 64)), none⟩,
⟨(some 15), .move (.tmp 19), none⟩])
 (.cond (.tmp 15)
 .skip
 (.region [⟨(some 20), .off 0 (.tmp 1), none⟩,
⟨(some 21), .load (.tmp 20), none⟩,
⟨(some 22), .bin .eql (.tmp 21) (.const (.int .i64 2)), none⟩,
⟨(some 23), .move (.tmp 22), none⟩,
⟨(some 24), .off 2 (.tmp 1), (some (23, true))⟩,
⟨(some 25), .load (.tmp 24), (some (23, true))⟩,
⟨(some 26), .lenStr (.tmp 25), (some (23, true))⟩,
⟨(some 27), .bin .gtr (.tmp 26) (.const (.int .i64 128)), (some (23, true))⟩,
⟨(some 28), .pick (.tmp 23) (.tmp 27) (.const (.bool false)), none⟩,
⟨(some 15), .move (.tmp 28), none⟩])
)
)
 (.cond (.tmp 15)
 (.seq
 (.region [⟨(some 2), .move (.const (.int .i64 5)), none⟩])
 .ret
)
 .skip
)
)
)
)
)
 (.seq
 (.region [⟨(some 2), .move (.const (.int .i64 0)), none⟩])
 .ret
)
)
)
, [.tmp 2]⟩
theorem c_270 : plainFn Tryz.prog 270 = some a_270 := by kernel_rfl
noncomputable def L1 : List (Nat × AFun) := [(95, a_95), (96, a_96), (97, a_97), (98, a_98), (99, a_99), (100, a_100), (101, a_101), (102, a_102), (119, a_119), (120, a_120), (121, a_121), (123, a_123), (124, a_124), (125, a_125), (126, a_126), (130, a_130), (131, a_131), (132, a_132), (134, a_134), (135, a_135), (137, a_137), (139, a_139), (142, a_142), (150, a_150), (153, a_153), (154, a_154), (156, a_156), (157, a_157), (158, a_158), (159, a_159), (160, a_160), (161, a_161), (162, a_162), (163, a_163), (164, a_164), (175, a_175), (176, a_176), (177, a_177), (178, a_178), (179, a_179), (180, a_180), (181, a_181), (183, a_183), (184, a_184), (197, a_197), (199, a_199), (213, a_213), (214, a_214), (220, a_220), (221, a_221), (222, a_222), (232, a_232), (234, a_234), (235, a_235), (236, a_236), (237, a_237), (249, a_249), (250, a_250), (251, a_251), (252, a_252), (254, a_254), (255, a_255), (256, a_256), (270, a_270)]
theorem L1_ok : ∀ p ∈ L1, plainFn Tryz.prog p.1 = some p.2 := List.forall_mem_cons.2 ⟨c_95, List.forall_mem_cons.2 ⟨c_96, List.forall_mem_cons.2 ⟨c_97, List.forall_mem_cons.2 ⟨c_98, List.forall_mem_cons.2 ⟨c_99, List.forall_mem_cons.2 ⟨c_100, List.forall_mem_cons.2 ⟨c_101, List.forall_mem_cons.2 ⟨c_102, List.forall_mem_cons.2 ⟨c_119, List.forall_mem_cons.2 ⟨c_120, List.forall_mem_cons.2 ⟨c_121, List.forall_mem_cons.2 ⟨c_123, List.forall_mem_cons.2 ⟨c_124, List.forall_mem_cons.2 ⟨c_125, List.forall_mem_cons.2 ⟨c_126, List.forall_mem_cons.2 ⟨c_130, List.forall_mem_cons.2 ⟨c_131, List.forall_mem_cons.2 ⟨c_132, List.forall_mem_cons.2 ⟨c_134, List.forall_mem_cons.2 ⟨c_135, List.forall_mem_cons.2 ⟨c_137, List.forall_mem_cons.2 ⟨c_139, List.forall_mem_cons.2 ⟨c_142, List.forall_mem_cons.2 ⟨c_150, List.forall_mem_cons.2 ⟨c_153, List.forall_mem_cons.2 ⟨c_154, List.forall_mem_cons.2 ⟨c_156, List.forall_mem_cons.2 ⟨c_157, List.forall_mem_cons.2 ⟨c_158, List.forall_mem_cons.2 ⟨c_159, List.forall_mem_cons.2 ⟨c_160, List.forall_mem_cons.2 ⟨c_161, List.forall_mem_cons.2 ⟨c_162, List.forall_mem_cons.2 ⟨c_163, List.forall_mem_cons.2 ⟨c_164, List.forall_mem_cons.2 ⟨c_175, List.forall_mem_cons.2 ⟨c_176, List.forall_mem_cons.2 ⟨c_177, List.forall_mem_cons.2 ⟨c_178, List.forall_mem_cons.2 ⟨c_179, List.forall_mem_cons.2 ⟨c_180, List.forall_mem_cons.2 ⟨c_181, List.forall_mem_cons.2 ⟨c_183, List.forall_mem_cons.2 ⟨c_184, List.forall_mem_cons.2 ⟨c_197, List.forall_mem_cons.2 ⟨c_199, List.forall_mem_cons.2 ⟨c_213, List.forall_mem_cons.2 ⟨c_214, List.forall_mem_cons.2 ⟨c_220, List.forall_mem_cons.2 ⟨c_221, List.forall_mem_cons.2 ⟨c_222, List.forall_mem_cons.2 ⟨c_232, List.forall_mem_cons.2 ⟨c_234, List.forall_mem_cons.2 ⟨c_235, List.forall_mem_cons.2 ⟨c_236, List.forall_mem_cons.2 ⟨c_237, List.forall_mem_cons.2 ⟨c_249, List.forall_mem_cons.2 ⟨c_250, List.forall_mem_cons.2 ⟨c_251, List.forall_mem_cons.2 ⟨c_252, List.forall_mem_cons.2 ⟨c_254, List.forall_mem_cons.2 ⟨c_255, List.forall_mem_cons.2 ⟨c_256, List.forall_mem_cons.2 ⟨c_270, fun _ h => (nomatch h)⟩⟩⟩⟩⟩⟩⟩⟩⟩⟩⟩⟩⟩⟩⟩⟩⟩⟩⟩⟩⟩⟩⟩⟩⟩⟩⟩⟩⟩⟩⟩⟩⟩⟩⟩⟩⟩⟩⟩⟩⟩⟩⟩⟩⟩⟩⟩⟩⟩⟩⟩⟩⟩⟩⟩⟩⟩⟩⟩⟩⟩⟩⟩⟩
end Go.Aev.LitW
