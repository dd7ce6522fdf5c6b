/- Functions of the program, as the evaluator takes them. -/
import Derived.Test.YtklkahckkelglaaGreatProg
import Derived.Test.YtklkahckkelglaaGreatAevX
import Derived.KernelRfl
namespace Go.Aev.LitW
open Go Go.Aev Go.Proofs
set_option maxRecDepth 100000
-- haycroft/haycroftlaw26.WatchNil
noncomputable def a_4 : AFun := ⟨82,
(.seq
 (.region [⟨(some 1), .box 29 (.tmp 0), none⟩,
⟨(some 2), .move (.const (.bool false)), none⟩])
 (.seq
 (.seq
 (.region [⟨(some 10), .call 22 [], none⟩,
⟨(some 11), .un .not (.tmp 10), none⟩])
 (.cond (.tmp 11)
 (.seq
 (.region [⟨(some 2), .move (.const (.bool false)), none⟩])
 .ret
)
 .skip
)
)
 (.seq
 (.region [⟨(some 3), .move (.const (.pointer none)), none⟩])
 (.seq
 (.region [⟨(some 13), .move (.tmp 3), none⟩,
⟨(some 14), .loadN 8 (.tmp 1), none⟩,
⟨(some 15), .call 23 [(.tmp 13), (.tmp 14)], none⟩,
⟨(some 12), .move (.tmp 15), none⟩,
⟨(some 16), .extract (.tmp 12) 0, none⟩,
⟨(some 17), .extract (.tmp 12) 1, none⟩,
⟨(some 4), .move (.tmp 16), none⟩,
⟨(some 5), .move (.tmp 17), none⟩])
 (.seq
 (.region [⟨(some 19), .move (.tmp 3), none⟩,
⟨(some 20), .call 24 [(.tmp 19)], none⟩,
⟨(some 18), .move (.tmp 20), none⟩,
⟨(some 21), .extract (.tmp 18) 0, none⟩,
⟨(some 22), .extract (.tmp 18) 1, none⟩,
⟨(some 6), .move (.tmp 21), none⟩,
⟨(some 7), .move (.tmp 22), none⟩])
 (.seq
 (.region [⟨(some 24), .call 25 [(.const (.pointer none))], none⟩,
⟨(some 23), .move (.tmp 24), none⟩,
⟨(some 25), .extract (.tmp 23) 0, none⟩,
⟨(some 26), .extract (.tmp 23) 1, none⟩,
⟨(some 8), .move (.tmp 25), none⟩,
⟨(some 9), .move (.tmp 26), none⟩])
 (.seq
 (.region [⟨(some 27), .move (.tmp 4), none⟩,
⟨(some 28), .bin .eql (.tmp 27) (.const (.int .i64 0)), none⟩,
⟨(some 29), .move (.tmp 28), none⟩,
⟨(some 30), .move (.tmp 5), (some (29, true))⟩,
⟨(some 31), .bin .eql (.tmp 30) (.const (.int .i64 2)), (some (29, true))⟩,
⟨(some 32), .pick (.tmp 29) (.tmp 31) (.const (.bool false)), none⟩,
⟨(some 33), .move (.tmp 32), none⟩,
⟨(some 34), .move (.tmp 6), (some (33, true))⟩,
⟨(some 35), .un .not (.tmp 34), (some (33, true))⟩,
⟨(some 36), .pick (.tmp 33) (.tmp 35) (.const (.bool false)), none⟩,
⟨(some 37), .move (.tmp 36), none⟩,
⟨(some 38), .move (.tmp 7), (some (37, true))⟩,
⟨(some 39), .bin .eql (.tmp 38) (.const (.int .i64 2)), (some (37, true))⟩,
⟨(some 40), .pick (.tmp 37) (.tmp 39) (.const (.bool false)), none⟩,
⟨(some 41), .move (.tmp 40), none⟩,
⟨(some 42), .move (.tmp 8), (some (41, true))⟩,
⟨(some 43), .eq false .pointer (.tmp 42) (.const (.pointer none)), (some (41, true))⟩,
⟨(some 44), .pick (.tmp 41) (.tmp 43) (.const (.bool false)), none⟩,
⟨(some 45), .move (.tmp 44), none⟩,
⟨(some 46), .move (.tmp 9), (some (45, true))⟩,
⟨(some 47), .bin .eql (.tmp 46) (.const (.int .i64 2)), (some (45, true))⟩,
⟨(some 48), .pick (.tmp 45) (.tmp 47) (.const (.bool false)), none⟩,
⟨(some 49), .move (.tmp 48), none⟩,
⟨(some 50), .move (.tmp 3), (some (49, true))⟩,
⟨(some 51), .off 2 (.tmp 1), (some (49, true))⟩,
⟨(some 52), .load (.tmp 51), (some (49, true))⟩,
⟨(some 53), .call 26 [(.tmp 50), (.tmp 52)], (some (49, true))⟩,
⟨(some 54), .bin .eql (.tmp 53) (.const (.int .i64 0)), (some (49, true))⟩,
⟨(some 55), .pick (.tmp 49) (.tmp 54) (.const (.bool false)), none⟩,
⟨(some 56), .move (.tmp 55), none⟩,
⟨(some 57), .move (.tmp 3), (some (56, true))⟩,
⟨(some 58), .call 27 [(.tmp 57)], (some (56, true))⟩,
⟨(some 59), .eq false .pointer (.tmp 58) (.const (.pointer none)), (some (56, true))⟩,
⟨(some 60), .pick (.tmp 56) (.tmp 59) (.const (.bool false)), none⟩,
⟨(some 61), .move (.tmp 60), none⟩,
⟨(some 62), .move (.tmp 3), (some (61, true))⟩,
⟨(some 63), .call 28 [(.tmp 62)], (some (61, true))⟩,
⟨(some 64), .bin .eql (.tmp 63) (.const (.int .i64 0)), (some (61, true))⟩,
⟨(some 65), .pick (.tmp 61) (.tmp 64) (.const (.bool false)), none⟩,
⟨(some 66), .move (.tmp 65), none⟩,
⟨(some 67), .move (.tmp 3), (some (66, true))⟩,
⟨(some 68), .call 29 [(.tmp 67)], (some (66, true))⟩,
⟨(some 69), .lenSl (.tmp 68), (some (66, true))⟩,
⟨(some 70), .bin .eql (.tmp 69) (.const (.int .i64 0)), (some (66, true))⟩,
⟨(some 71), .pick (.tmp 66) (.tmp 70) (.const (.bool false)), none⟩,
⟨(some 72), .move (.tmp 71), none⟩,
⟨(some 73), .move (.tmp 3), (some (72, true))⟩,
⟨(some 74), .call 30 [(.tmp 73)], (some (72, true))⟩,
⟨(some 75), .bin .eql (.tmp 74) (.const (.int .i64 0)), (some (72, true))⟩,
⟨(some 76), .pick (.tmp 72) (.tmp 75) (.const (.bool false)), none⟩,
⟨(some 77), .move (.tmp 76), none⟩,
⟨(some 78), .move (.tmp 3), (some (77, true))⟩,
⟨(some 79), .call 31 [(.tmp 78)], (some (77, true))⟩,
⟨(some 80), .bin .eql (.tmp 79) (.const (.int .i64 0)), (some (77, true))⟩,
⟨(some 81), .pick (.tmp 77) (.tmp 80) (.const (.bool false)), none⟩,
⟨(some 2), .move (.tmp 81), none⟩])
 .ret
)
)
)
)
)
)
)
, [.tmp 2]⟩
theorem c_4 : plainFn Tryz.prog 4 = some a_4 := by kernel_rfl
-- (*haycroft/store.Store).Do
noncomputable def a_8 : AFun := ⟨118,
(.seq
 (.region [⟨(some 3), .box 29 (.tmp 1), none⟩,
⟨(some 4), .move (.const (.int .i64 0)), none⟩,
⟨(some 5), .move (.const (.int .i64 0)), none⟩])
 (.seq
 (.seq
 (.region [⟨(some 7), .move (.tmp 0), none⟩,
⟨(some 8), .loadN 8 (.tmp 3), none⟩,
⟨(some 9), .call 44 [(.tmp 7), (.tmp 8)], none⟩,
⟨(some 6), .move (.tmp 9), none⟩])
 (.seq
 (.region [⟨(some 10), .move (.tmp 6), none⟩,
⟨(some 11), .bin .neq (.tmp 10) (.const (.int .i64 0)), none⟩])
 (.cond (.tmp 11)
 (.seq
 (.region [⟨(some 12), .move (.tmp 6), none⟩,
⟨(some 4), .move (.const (.int .i64 0)), none⟩,
⟨(some 5), .move (.tmp 12), none⟩])
 .ret
)
 .skip
)
)
)
 (.seq
 (.seq
 (.region [⟨(some 13), .off 0 (.tmp 3), none⟩,
⟨(some 14), .load (.tmp 13), none⟩])
 (.block 0
 (.seq
 (.region [⟨(some 16), .bin .eql (.tmp 14) (.const (.int .i64 1)), none⟩,
⟨(some 15), .move (.tmp 16), none⟩])
 (.cond (.tmp 15)
 (.seq
 (.region [⟨(some 17), .move (.tmp 0), none⟩,
⟨(some 18), .loadN 8 (.tmp 3), none⟩,
⟨(some 19), .call 45 [(.tmp 17), (.tmp 18)], none⟩,
⟨(some 20), .extract (.tmp 19) 0, none⟩,
⟨(some 21), .extract (.tmp 19) 1, none⟩,
⟨(some 4), .move (.tmp 20), none⟩,
⟨(some 5), .move (.tmp 21), none⟩])
 .ret
)
 (.seq
 (.region [⟨(some 23), .bin .eql (.tmp 14) (.const (.int .i64 2)), none⟩,
⟨(some 22), .move (.tmp 23), none⟩])
 (.cond (.tmp 22)
 (.seq
 (.draw [⟨(some 24), .move (.tmp 0), none⟩,
⟨(some 25), .nilCheck (.tmp 24), none⟩,
⟨(some 26), .off 7 (.tmp 25), none⟩,
⟨(some 27), .load (.tmp 26), none⟩,
⟨(some 28), .nilCheck (.tmp 27), none⟩,
⟨(some 29), .off 2 (.tmp 28), none⟩,
⟨(some 30), .load (.tmp 29), none⟩,
⟨(some 31), .off 1 (.tmp 3), none⟩,
⟨(some 32), .load (.tmp 31), none⟩,
⟨(some 33), .ixSl 1 (.tmp 30) (.tmp 32), none⟩,
⟨(some 34), .load (.tmp 33), none⟩,
⟨(some 35), .call 46 [(.tmp 34)], none⟩,
⟨(some 36), .extract (.tmp 35) 0, none⟩,
⟨(some 37), .extract (.tmp 35) 1, none⟩,
⟨(some 4), .move (.tmp 36), none⟩,
⟨(some 5), .move (.tmp 37), none⟩] [[], [], [], [], [], [], [], [], [], [], [], [], [], [], [], []])
 .ret
)
 (.seq
 (.region [⟨(some 39), .bin .eql (.tmp 14) (.const (.int .i64 3)), none⟩,
⟨(some 38), .move (.tmp 39), none⟩])
 (.cond (.tmp 38)
 (.seq
 (.draw [⟨(some 40), .move (.tmp 0), none⟩,
⟨(some 41), .nilCheck (.tmp 40), none⟩,
⟨(some 42), .off 7 (.tmp 41), none⟩,
⟨(some 43), .load (.tmp 42), none⟩,
⟨(some 44), .nilCheck (.tmp 43), none⟩,
⟨(some 45), .off 2 (.tmp 44), none⟩,
⟨(some 46), .load (.tmp 45), none⟩,
⟨(some 47), .off 1 (.tmp 3), none⟩,
⟨(some 48), .load (.tmp 47), none⟩,
⟨(some 49), .ixSl 1 (.tmp 46) (.tmp 48), none⟩,
⟨(some 50), .load (.tmp 49), none⟩,
⟨(some 51), .call 47 [(.tmp 50)], none⟩,
⟨(some 52), .extract (.tmp 51) 0, none⟩,
⟨(some 53), .extract (.tmp 51) 1, none⟩,
⟨(some 4), .move (.tmp 52), none⟩,
⟨(some 5), .move (.tmp 53), none⟩] [[], [], [], [], [], [], [], [], [], [], [], [], [], [], [], []])
 .ret
)
 (.seq
 (.region [⟨(some 55), .bin .eql (.tmp 14) (.const (.int .i64 4)), none⟩,
⟨(some 54), .move (.tmp 55), none⟩])
 (.cond (.tmp 54)
 (.seq
 (.region [⟨(some 56), .move (.tmp 0), none⟩,
⟨(some 57), .off 2 (.tmp 3), none⟩,
⟨(some 58), .load (.tmp 57), none⟩,
⟨(some 59), .call 48 [(.tmp 56), (.tmp 58)], none⟩,
⟨(some 60), .extract (.tmp 59) 0, none⟩,
⟨(some 61), .extract (.tmp 59) 1, none⟩,
⟨(some 4), .move (.tmp 60), none⟩,
⟨(some 5), .move (.tmp 61), none⟩])
 .ret
)
 (.seq
 (.region [⟨(some 63), .bin .eql (.tmp 14) (.const (.int .i64 5)), none⟩,
⟨(some 62), .move (.tmp 63), none⟩])
 (.cond (.tmp 62)
 (.seq
 (.draw [⟨(some 64), .move (.tmp 0), none⟩,
⟨(some 65), .nilCheck (.tmp 64), none⟩,
⟨(some 66), .off 7 (.tmp 65), none⟩,
⟨(some 67), .load (.tmp 66), none⟩,
⟨(some 68), .nilCheck (.tmp 67), none⟩,
⟨(some 69), .off 0 (.tmp 68), none⟩,
⟨(some 70), .load (.tmp 69), none⟩,
⟨(some 71), .off 2 (.tmp 3), none⟩,
⟨(some 72), .load (.tmp 71), none⟩,
⟨(some 73), .call 49 [(.tmp 70), (.tmp 72)], none⟩,
⟨(some 4), .move (.const (.int .i64 0)), none⟩,
⟨(some 5), .move (.tmp 73), none⟩] [[], [], [], [], [], [], [], [], [], [], [], []])
 .ret
)
 (.seq
 (.region [⟨(some 75), .bin .eql (.tmp 14) (.const (.int .i64 6)), none⟩,
⟨(some 74), .move (.tmp 75), none⟩])
 (.cond (.tmp 74)
 (.seq
 (.draw [⟨(some 76), .move (.tmp 0), none⟩,
⟨(some 77), .nilCheck (.tmp 76), none⟩,
⟨(some 78), .off 7 (.tmp 77), none⟩,
⟨(some 79), .load (.tmp 78), none⟩,
⟨(some 80), .nilCheck (.tmp 79), none⟩,
⟨(some 81), .off 0 (.tmp 80), none⟩,
⟨(some 82), .load (.tmp 81), none⟩,
⟨(some 83), .off 2 (.tmp 3), none⟩,
⟨(some 84), .load (.tmp 83), none⟩,
⟨(some 85), .call 50 [(.tmp 82), (.tmp 84)], none⟩,
⟨(some 4), .move (.const (.int .i64 0)), none⟩,
⟨(some 5), .move (.tmp 85), none⟩] [[], [], [], [], [], [], [], [], [], [], [], []])
 .ret
)
 (.seq
 (.region [⟨(some 87), .bin .eql (.tmp 14) (.const (.int .i64 7)), none⟩,
⟨(some 86), .move (.tmp 87), none⟩])
 (.cond (.tmp 86)
 (.seq
 (.draw [⟨(some 88), .move (.tmp 0), none⟩,
⟨(some 89), .nilCheck (.tmp 88), none⟩,
⟨(some 90), .off 7 (.tmp 89), none⟩,
⟨(some 91), .load (.tmp 90), none⟩,
⟨(some 92), .nilCheck (.tmp 91), none⟩,
⟨(some 93), .off 0 (.tmp 92), none⟩,
⟨(some 94), .load (.tmp 93), none⟩,
⟨(some 95), .off 2 (.tmp 3), none⟩,
⟨(some 96), .load (.tmp 95), none⟩,
⟨(some 97), .call 51 [(.tmp 94), (.tmp 96)], none⟩,
⟨(some 98), .extract (.tmp 97) 0, none⟩,
⟨(some 99), .extract (.tmp 97) 1, none⟩,
⟨(some 4), .move (.tmp 98), none⟩,
⟨(some 5), .move (.tmp 99), none⟩] [[], [], [], [], [], [], [], [], [], [], [], [], [], []])
 .ret
)
 (.seq
 (.region [⟨(some 101), .bin .eql (.tmp 14) (.const (.int .i64 8)), none⟩,
⟨(some 100), .move (.tmp 101), none⟩])
 (.cond (.tmp 100)
 (.seq
 (.region [⟨(some 102), .move (.tmp 0), none⟩,
⟨(some 103), .call 52 [(.tmp 102)], none⟩,
⟨(some 104), .extract (.tmp 103) 0, none⟩,
⟨(some 105), .extract (.tmp 103) 1, none⟩,
⟨(some 4), .move (.tmp 104), none⟩,
⟨(some 5), .move (.tmp 105), none⟩])
 .ret
)
 (.seq
 (.region [⟨(some 107), .bin .eql (.tmp 14) (.const (.int .i64 9)), none⟩,
⟨(some 106), .move (.tmp 107), none⟩])
 (.cond (.tmp 106)
 (.seq
 (.region [⟨(some 108), .move (.tmp 0), none⟩,
⟨(some 109), .off 7 (.tmp 3), none⟩,
⟨(some 110), .load (.tmp 109), none⟩,
⟨(some 111), .call 53 [(.tmp 108), (.tmp 110)], none⟩,
⟨(some 112), .extract (.tmp 111) 0, none⟩,
⟨(some 113), .extract (.tmp 111) 1, none⟩,
⟨(some 4), .move (.tmp 112), none⟩,
⟨(some 5), .move (.tmp 113), none⟩])
 .ret
)
 .skip
)
)
)
)
)
)
)
)
)
)
)
)
)
)
)
)
)
)
)
)
 (.seq
 (.region [⟨(some 114), .move (.tmp 0), none⟩,
⟨(some 115), .call 54 [(.tmp 114)], none⟩,
⟨(some 116), .extract (.tmp 115) 0, none⟩,
⟨(some 117), .extract (.tmp 115) 1, none⟩,
⟨(some 4), .move (.tmp 116), none⟩,
⟨(some 5), .move (.tmp 117), none⟩])
 .ret
)
)
)
)
, [.tmp 4, .tmp 5]⟩
theorem c_8 : plainFn Tryz.prog 8 = some a_8 := by kernel_rfl
-- (*haycroft/store.Store).Outcome
noncomputable def a_9 : AFun := ⟨15,
(.seq
 (.region [⟨(some 6), .new 36 #[(.int .i64 0), (.string (strB []))], none⟩,
⟨(some 7), .move (.const (.bool false)), none⟩])
 (.seq
 (.region [⟨(some 8), .move (.tmp 0), none⟩,
⟨(some 9), .move (.tmp 1), none⟩,
⟨(some 10), .call 21 [(.tmp 8), (.tmp 9)], none⟩,
⟨(some 11), .move (.tmp 2), none⟩,
⟨(some 12), .call 55 [(.tmp 10), (.tmp 11)], none⟩,
⟨(some 13), .extract (.tmp 12) 0, none⟩,
⟨(some 14), .extract (.tmp 12) 1, none⟩,
⟨none, .store 2 (.tmp 6) (.tmp 13), none⟩,
⟨(some 7), .move (.tmp 14), none⟩])
 .ret
)
)
, [.cell 6 (some 2), .tmp 7]⟩
theorem c_9 : plainFn Tryz.prog 9 = some a_9 := by kernel_rfl
-- haycroft/store.Open
noncomputable def a_10 : AFun := ⟨33,
(.seq
 (.region [⟨(some 2), .box 23 (.tmp 0), none⟩,
⟨(some 4), .move (.const (.pointer none)), none⟩,
⟨(some 5), .move (.const (.int .i64 0)), none⟩])
 (.seq
 (.block 0
 (.seq
 (.region [⟨(some 9), .move (.tmp 1), none⟩,
⟨(some 10), .eq false .pointer (.tmp 9) (.const (.pointer none)), none⟩,
⟨(some 8), .move (.tmp 10), none⟩])
 (.cond (.tmp 8)
 (.seq
 (.region [⟨(some 4), .move (.const (.pointer none)), none⟩,
⟨(some 5), .move (.const (.int .i64 2)), none⟩])
 .ret
)
 (.seq
 (.region [⟨(some 12), .loadN 6 (.tmp 2), none⟩,
⟨(some 13), .call 56 [(.tmp 12)], none⟩,
⟨(some 14), .un .not (.tmp 13), none⟩,
⟨(some 11), .move (.tmp 14), none⟩])
 (.cond (.tmp 11)
 (.seq
 (.region [⟨(some 4), .move (.const (.pointer none)), none⟩,
⟨(some 5), .move (.const (.int .i64 1)), none⟩])
 .ret
)
 (.seq
 (.region [⟨(some 16), .move (.tmp 1), none⟩,
⟨(some 17), .call 57 [(.tmp 16)], none⟩,
⟨(some 18), .un .not (.tmp 17), none⟩,
⟨(some 15), .move (.tmp 18), none⟩])
 (.cond (.tmp 15)
 (.seq
 (.region [⟨(some 4), .move (.const (.pointer none)), none⟩,
⟨(some 5), .move (.const (.int .i64 6)), none⟩])
 .ret
)
 .skip
)
)
)
)
)
)
)
 (.seq
 (.region [⟨(some 20), .loadN 6 (.tmp 2), none⟩,
⟨(some 21), .move (.tmp 1), none⟩,
⟨(some 22), .call 58 [(.tmp 20), (.tmp 21)], none⟩,
⟨(some 19), .move (.tmp 22), none⟩,
⟨(some 23), .extract (.tmp 19) 0, none⟩,
⟨(some 24), .extract (.tmp 19) 1, none⟩,
⟨(some 6), .move (.tmp 23), none⟩,
⟨(some 7), .move (.tmp 24), none⟩])
 (.seq
 (.seq
 (.region [⟨(some 25), .move (.tmp 7), none⟩,
⟨(some 26), .bin .neq (.tmp 25) (.const (.int .i64 0)), none⟩])
 (.cond (.tmp 26)
 (.seq
 (.region [⟨(some 27), .move (.tmp 7), none⟩,
⟨(some 4), .move (.const (.pointer none)), none⟩,
⟨(some 5), .move (.tmp 27), none⟩])
 .ret
)
 .skip
)
)
 (.seq
 (.region [⟨(some 28), .loadN 6 (.tmp 2), none⟩,
⟨(some 29), .move (.tmp 1), none⟩,
⟨(some 30), .move (.tmp 6), none⟩,
⟨(some 31), .build #[(.int .i64 0), (.int .i64 0), (.int .i64 0), (.int .i64 0), (.int .i64 0), (.int .i64 0), (.pointer none), (.pointer none)] #[(0, 6), (6, 1), (7, 1)] [(0, (.tmp 28)), (1, (.tmp 29)), (2, (.tmp 30))], none⟩,
⟨(some 32), .box 93 (.tmp 31), none⟩,
⟨(some 4), .move (.tmp 32), none⟩,
⟨(some 5), .move (.const (.int .i64 0)), none⟩])
 .ret
)
)
)
)
)
, [.tmp 4, .tmp 5]⟩
theorem c_10 : plainFn Tryz.prog 10 = some a_10 := by kernel_rfl
-- haycroft/device.New
noncomputable def a_11 : AFun := ⟨6,
(.seq
 (.region [⟨(some 0), .move (.const (.pointer none)), none⟩])
 (.seq
 (.region [⟨(some 1), .makeMap, none⟩,
⟨(some 2), .makeMap, none⟩,
⟨(some 3), .makeMap, none⟩,
⟨(some 4), .build #[(.bool false), (.map none), (.map none), (.map none), (.int .i64 0)] #[(0, 1), (1, 1), (2, 1), (3, 1), (4, 1)] [(1, (.tmp 1)), (2, (.tmp 2)), (3, (.tmp 3))], none⟩,
⟨(some 5), .box 109 (.tmp 4), none⟩,
⟨(some 0), .move (.tmp 5), none⟩])
 .ret
)
)
, [.tmp 0]⟩
theorem c_11 : plainFn Tryz.prog 11 = some a_11 := by kernel_rfl
-- (*haycroft/store.Store).Up
noncomputable def a_14 : AFun := ⟨12,
(.seq
 (.region [⟨(some 2), .move (.const (.bool false)), none⟩])
 (.seq
 (.region [⟨(some 3), .move (.tmp 0), none⟩,
⟨(some 4), .eq true .pointer (.tmp 3) (.const (.pointer none)), none⟩,
⟨(some 5), .move (.tmp 4), none⟩,
⟨(some 6), .move (.tmp 0), (some (5, true))⟩,
⟨(some 7), .nilCheck (.tmp 6), (some (5, true))⟩,
⟨(some 8), .off 7 (.tmp 7), (some (5, true))⟩,
⟨(some 9), .load (.tmp 8), (some (5, true))⟩,
⟨(some 10), .eq true .pointer (.tmp 9) (.const (.pointer none)), (some (5, true))⟩,
⟨(some 11), .pick (.tmp 5) (.tmp 10) (.const (.bool false)), none⟩,
⟨(some 2), .move (.tmp 11), none⟩])
 .ret
)
)
, [.tmp 2]⟩
theorem c_14 : plainFn Tryz.prog 14 = some a_14 := by kernel_rfl
-- (*haycroft/store.Store).Config
noncomputable def a_17 : AFun := ⟨10,
(.seq
 (.region [⟨(some 2), .new 23 #[(.int .i64 0), (.int .i64 0), (.int .i64 0), (.int .i64 0), (.int .i64 0), (.int .i64 0)], none⟩])
 (.seq
 (.seq
 (.region [⟨(some 3), .move (.tmp 0), none⟩,
⟨(some 4), .eq false .pointer (.tmp 3) (.const (.pointer none)), none⟩])
 (.cond (.tmp 4)
 (.seq
 (.region [⟨(some 5), .build #[(.int .i64 0), (.int .i64 0), (.int .i64 0), (.int .i64 0), (.int .i64 0), (.int .i64 0)] #[(0, 1), (1, 1), (2, 1), (3, 1), (4, 1), (5, 1)] [], none⟩,
⟨none, .store 6 (.tmp 2) (.tmp 5), none⟩])
 .ret
)
 .skip
)
)
 (.seq
 (.region [⟨(some 6), .move (.tmp 0), none⟩,
⟨(some 7), .nilCheck (.tmp 6), none⟩,
⟨(some 8), .off 0 (.tmp 7), none⟩,
⟨(some 9), .loadN 6 (.tmp 8), none⟩,
⟨none, .store 6 (.tmp 2) (.tmp 9), none⟩])
 .ret
)
)
)
, [.cell 2 (some 6)]⟩
theorem c_17 : plainFn Tryz.prog 17 = some a_17 := by kernel_rfl
-- (*haycroft/store.Store).Device
noncomputable def a_20 : AFun := ⟨9,
(.seq
 (.region [⟨(some 2), .move (.const (.pointer none)), none⟩])
 (.seq
 (.seq
 (.region [⟨(some 3), .move (.tmp 0), none⟩,
⟨(some 4), .eq false .pointer (.tmp 3) (.const (.pointer none)), none⟩])
 (.cond (.tmp 4)
 (.seq
 (.region [⟨(some 2), .move (.const (.pointer none)), none⟩])
 .ret
)
 .skip
)
)
 (.seq
 (.region [⟨(some 5), .move (.tmp 0), none⟩,
⟨(some 6), .nilCheck (.tmp 5), none⟩,
⟨(some 7), .off 6 (.tmp 6), none⟩,
⟨(some 8), .load (.tmp 7), none⟩,
⟨(some 2), .move (.tmp 8), none⟩])
 .ret
)
)
)
, [.tmp 2]⟩
theorem c_20 : plainFn Tryz.prog 20 = some a_20 := by kernel_rfl
-- (*haycroft/store.Store).Session
noncomputable def a_21 : AFun := ⟨29,
(.seq
 (.region [⟨(some 4), .move (.const (.pointer none)), none⟩])
 (.seq
 (.seq
 (.region [⟨(some 5), .move (.tmp 0), none⟩,
⟨(some 6), .call 14 [(.tmp 5)], none⟩,
⟨(some 7), .un .not (.tmp 6), none⟩,
⟨(some 8), .move (.tmp 7), none⟩,
⟨(some 9), .move (.tmp 1), (some (8, false))⟩,
⟨(some 10), .move (.tmp 0), (some (8, false))⟩,
⟨(some 11), .nilCheck (.tmp 10), (some (8, false))⟩,
⟨(some 12), .off 0 (.tmp 11), (some (8, false))⟩,
⟨(some 13), .off 5 (.tmp 12), (some (8, false))⟩,
⟨(some 14), .load (.tmp 13), (some (8, false))⟩,
⟨(some 15), .bin .sub (.tmp 14) (.const (.int .i64 1)), (some (8, false))⟩,
⟨(some 16), .call 64 [(.tmp 9), (.const (.int .i64 0)), (.tmp 15)], (some (8, false))⟩,
⟨(some 17), .un .not (.tmp 16), (some (8, false))⟩,
⟨(some 18), .pick (.tmp 8) (.const (.bool true)) (.tmp 17), none⟩])
 (.cond (.tmp 18)
 (.seq
 (.region [⟨(some 4), .move (.const (.pointer none)), none⟩])
 .ret
)
 .skip
)
)
 (.seq
 (.region [⟨(some 19), .move (.tmp 0), none⟩,
⟨(some 20), .nilCheck (.tmp 19), none⟩,
⟨(some 21), .off 7 (.tmp 20), none⟩,
⟨(some 22), .load (.tmp 21), none⟩,
⟨(some 23), .nilCheck (.tmp 22), none⟩,
⟨(some 24), .off 2 (.tmp 23), none⟩,
⟨(some 25), .load (.tmp 24), none⟩,
⟨(some 26), .move (.tmp 1), none⟩,
⟨(some 27), .ixSl 1 (.tmp 25) (.tmp 26), none⟩,
⟨(some 28), .load (.tmp 27), none⟩,
⟨(some 4), .move (.tmp 28), none⟩])
 .ret
)
)
)
, [.tmp 4]⟩
theorem c_21 : plainFn Tryz.prog 21 = some a_21 := by kernel_rfl
-- haycroft/haycroftlaw26.awake
noncomputable def a_22 : AFun := ⟨55,
(.seq
 (.region [⟨(some 0), .move (.const (.bool false)), none⟩])
 (.seq
 (.region [⟨(some 9), .call 43 [], none⟩,
⟨(some 10), .call 65 [(.tmp 9)], none⟩,
⟨(some 8), .move (.tmp 10), none⟩,
⟨(some 11), .extract (.tmp 8) 0, none⟩,
⟨(some 12), .extract (.tmp 8) 1, none⟩,
⟨(some 1), .move (.tmp 11), none⟩,
⟨(some 2), .move (.tmp 12), none⟩])
 (.seq
 (.seq
 (.region [⟨(some 13), .move (.tmp 2), none⟩,
⟨(some 14), .un .not (.tmp 13), none⟩])
 (.cond (.tmp 14)
 (.seq
 (.region [⟨(some 0), .move (.const (.bool false)), none⟩])
 .ret
)
 .skip
)
)
 (.seq
 (.region [⟨(some 16), .move (.tmp 1), none⟩,
⟨(some 17), .build #[(.int .i64 0), (.string (strB [])), (.string (strB [])), (.int .u64 0)] #[(0, 1), (1, 1), (2, 1), (3, 1)] [(0, (.const (.int .i64 3))), (1, (.const (.string (strB [107])))), (3, (.const (.int .u64 1)))], none⟩,
⟨(some 18), .build #[(.int .i64 0), (.int .i64 0), (.int .i64 0), (.int .i64 0), (.string (strB [])), (.string (strB [])), (.int .u64 0), (.slice none 0 0)] #[(0, 1), (1, 1), (2, 1), (3, 4), (7, 1)] [(0, (.const (.int .i64 1))), (3, (.tmp 17))], none⟩,
⟨(some 19), .call 23 [(.tmp 16), (.tmp 18)], none⟩,
⟨(some 15), .move (.tmp 19), none⟩,
⟨(some 20), .extract (.tmp 15) 0, none⟩,
⟨(some 21), .extract (.tmp 15) 1, none⟩,
⟨(some 3), .move (.tmp 20), none⟩,
⟨(some 4), .move (.tmp 21), none⟩])
 (.seq
 (.region [⟨(some 22), .move (.tmp 1), none⟩,
⟨(some 23), .call 30 [(.tmp 22)], none⟩,
⟨(some 5), .move (.tmp 23), none⟩])
 (.seq
 (.region [⟨(some 24), .move (.tmp 1), none⟩,
⟨(some 25), .call 26 [(.tmp 24), (.const (.int .i64 20))], none⟩,
⟨(some 6), .move (.tmp 25), none⟩])
 (.seq
 (.region [⟨(some 26), .move (.tmp 1), none⟩,
⟨(some 27), .call 29 [(.tmp 26)], none⟩,
⟨(some 7), .move (.tmp 27), none⟩])
 (.seq
 (.region [⟨(some 28), .move (.tmp 4), none⟩,
⟨(some 29), .bin .eql (.tmp 28) (.const (.int .i64 0)), none⟩,
⟨(some 30), .move (.tmp 29), none⟩,
⟨(some 31), .move (.tmp 5), (some (30, true))⟩,
⟨(some 32), .bin .eql (.tmp 31) (.const (.int .i64 1)), (some (30, true))⟩,
⟨(some 33), .pick (.tmp 30) (.tmp 32) (.const (.bool false)), none⟩,
⟨(some 34), .move (.tmp 33), none⟩,
⟨(some 35), .move (.tmp 6), (some (34, true))⟩,
⟨(some 36), .bin .gtr (.tmp 35) (.const (.int .i64 1)), (some (34, true))⟩,
⟨(some 37), .pick (.tmp 34) (.tmp 36) (.const (.bool false)), none⟩,
⟨(some 38), .move (.tmp 37), none⟩,
⟨(some 39), .move (.tmp 1), (some (38, true))⟩,
⟨(some 40), .call 30 [(.tmp 39)], (some (38, true))⟩,
⟨(some 41), .bin .eql (.tmp 40) (.const (.int .i64 0)), (some (38, true))⟩,
⟨(some 42), .pick (.tmp 38) (.tmp 41) (.const (.bool false)), none⟩,
⟨(some 43), .move (.tmp 42), none⟩,
⟨(some 44), .move (.tmp 7), (some (43, true))⟩,
⟨(some 45), .lenSl (.tmp 44), (some (43, true))⟩,
⟨(some 46), .bin .eql (.tmp 45) (.const (.int .i64 1)), (some (43, true))⟩,
⟨(some 47), .pick (.tmp 43) (.tmp 46) (.const (.bool false)), none⟩,
⟨(some 48), .move (.tmp 47), none⟩,
⟨(some 49), .move (.tmp 7), (some (48, true))⟩,
⟨(some 50), .ixSl 8 (.tmp 49) (.const (.int .i64 0)), (some (48, true))⟩,
⟨(some 51), .off 7 (.tmp 50), (some (48, true))⟩,
⟨(some 52), .load (.tmp 51), (some (48, true))⟩,
⟨(some 53), .bin .gtr (.tmp 52) (.const (.int .i64 0)), (some (48, true))⟩,
⟨(some 54), .pick (.tmp 48) (.tmp 53) (.const (.bool false)), none⟩,
⟨(some 0), .move (.tmp 54), none⟩])
 .ret
)
)
)
)
)
)
)
)
, [.tmp 0]⟩
theorem c_22 : plainFn Tryz.prog 22 = some a_22 := by kernel_rfl
-- (*haycroft/watch.Watch).Do
noncomputable def a_23 : AFun := ⟨99,
(.seq
 (.region [⟨(some 3), .box 29 (.tmp 1), none⟩,
⟨(some 4), .move (.const (.int .i64 0)), none⟩,
⟨(some 5), .move (.const (.int .i64 0)), none⟩])
 (.seq
 (.seq
 (.region [⟨(some 8), .move (.tmp 0), none⟩,
⟨(some 9), .eq false .pointer (.tmp 8) (.const (.pointer none)), none⟩])
 (.cond (.tmp 9)
 (.seq
 (.region [⟨(some 4), .move (.const (.int .i64 0)), none⟩,
⟨(some 5), .move (.const (.int .i64 2)), none⟩])
 .ret
)
 .skip
)
)
 (.seq
 (.region [⟨(some 10), .move (.tmp 0), none⟩,
⟨(some 11), .nilCheck (.tmp 10), none⟩,
⟨(some 12), .off 1 (.tmp 11), none⟩,
⟨(some 13), .load (.tmp 12), none⟩,
⟨(some 14), .bin .add (.tmp 13) (.const (.int .i64 2)), none⟩,
⟨(some 15), .nilCheck (.tmp 10), none⟩,
⟨(some 16), .off 1 (.tmp 15), none⟩,
⟨none, .store 1 (.tmp 16) (.tmp 14), none⟩])
 (.seq
 (.draw [⟨(some 18), .move (.tmp 0), none⟩,
⟨(some 19), .nilCheck (.tmp 18), none⟩,
⟨(some 20), .off 0 (.tmp 19), none⟩,
⟨(some 21), .load (.tmp 20), none⟩,
⟨(some 22), .loadN 8 (.tmp 3), none⟩,
⟨(some 23), .call 8 [(.tmp 21), (.tmp 22)], none⟩,
⟨(some 17), .move (.tmp 23), none⟩,
⟨(some 24), .extract (.tmp 17) 0, none⟩,
⟨(some 25), .extract (.tmp 17) 1, none⟩,
⟨(some 6), .move (.tmp 24), none⟩,
⟨(some 7), .move (.tmp 25), none⟩] [[], [], [], [], [], [], [], [], [], [], []])
 (.seq
 (.block 0
 (.seq
 (.region [⟨(some 27), .move (.tmp 7), none⟩,
⟨(some 28), .bin .neq (.tmp 27) (.const (.int .i64 0)), none⟩,
⟨(some 26), .move (.tmp 28), none⟩])
 (.cond (.tmp 26)
 .skip
 (.seq
 (.region [⟨(some 30), .off 0 (.tmp 3), none⟩,
⟨(some 31), .load (.tmp 30), none⟩,
⟨(some 32), .bin .eql (.tmp 31) (.const (.int .i64 1)), none⟩,
⟨(some 29), .move (.tmp 32), none⟩])
 (.cond (.tmp 29)
 (.seq
 (.draw [⟨(some 33), .move (.tmp 0), none⟩,
⟨(some 34), .move (.tmp 0), none⟩,
⟨(some 35), .nilCheck (.tmp 34), none⟩,
⟨(some 36), .off 3 (.tmp 35), none⟩,
⟨(some 37), .load (.tmp 36), none⟩,
⟨(some 38), .off 1 (.tmp 3), none⟩,
⟨(some 39), .load (.tmp 38), none⟩,
⟨(some 40), .move (.tmp 6), none⟩,
⟨(some 41), .move (.tmp 0), none⟩,
⟨(some 42), .nilCheck (.tmp 41), none⟩,
⟨(some 43), .off 2 (.tmp 42), none⟩,
⟨(some 44), .load (.tmp 43), none⟩,
⟨(some 45), .lenSl (.tmp 44), none⟩,
⟨(some 46), .build #[(.int .i64 0), (.int .i64 0), (.int .i64 0)] #[(0, 1), (1, 1), (2, 1)] [(0, (.tmp 39)), (1, (.tmp 40)), (2, (.tmp 45))], none⟩,
⟨(some 47), .buildSlice 127 3 1 #[(.int .i64 0), (.int .i64 0), (.int .i64 0)] [(0, (.tmp 46))], none⟩,
⟨(some 48), .append 127 3 24 (.tmp 37) (.tmp 47), none⟩,
⟨(some 49), .nilCheck (.tmp 33), none⟩,
⟨(some 50), .off 3 (.tmp 49), none⟩,
⟨none, .store 1 (.tmp 50) (.tmp 48), none⟩] [[], [], [], [], [], [], [], [], [], [], [], [], [], [], [], [], [], [], []])
 (.draw [⟨(some 51), .move (.tmp 0), none⟩,
⟨(some 52), .move (.tmp 0), none⟩,
⟨(some 53), .nilCheck (.tmp 52), none⟩,
⟨(some 54), .off 2 (.tmp 53), none⟩,
⟨(some 55), .load (.tmp 54), none⟩,
⟨(some 56), .off 3 (.tmp 3), none⟩,
⟨(some 57), .loadN 4 (.tmp 56), none⟩,
⟨(some 58), .move (.tmp 0), none⟩,
⟨(some 59), .nilCheck (.tmp 58), none⟩,
⟨(some 60), .off 1 (.tmp 59), none⟩,
⟨(some 61), .load (.tmp 60), none⟩,
⟨(some 62), .build #[(.int .i64 0), (.string (strB [])), (.string (strB [])), (.int .u64 0), (.int .i64 0), (.string (strB [])), (.int .i64 0), (.int .i64 0)] #[(0, 4), (4, 2), (6, 1), (7, 1)] [(0, (.tmp 57)), (2, (.tmp 61))], none⟩,
⟨(some 63), .buildSlice 122 8 1 #[(.int .i64 0), (.string (strB [])), (.string (strB [])), (.int .u64 0), (.int .i64 0), (.string (strB [])), (.int .i64 0), (.int .i64 0)] [(0, (.tmp 62))], none⟩,
⟨(some 64), .append 122 8 88 (.tmp 55) (.tmp 63), none⟩,
⟨(some 65), .nilCheck (.tmp 51), none⟩,
⟨(some 66), .off 2 (.tmp 65), none⟩,
⟨none, .store 1 (.tmp 66) (.tmp 64), none⟩] [[], [], [], [], [], [], [], [], [], [], [], [], [], [], [], [], []])
)
 (.seq
 (.region [⟨(some 68), .off 0 (.tmp 3), none⟩,
⟨(some 69), .load (.tmp 68), none⟩,
⟨(some 70), .bin .eql (.tmp 69) (.const (.int .i64 9)), none⟩,
⟨(some 67), .move (.tmp 70), none⟩])
 (.cond (.tmp 67)
 (.seq
 (.region [⟨(some 71), .move (.tmp 0), none⟩,
⟨(some 72), .nilCheck (.tmp 71), none⟩,
⟨(some 73), .off 3 (.tmp 72), none⟩,
⟨none, .store 1 (.tmp 73) (.const (.slice none 0 0)), none⟩])
 (.seq
 (.region [⟨(some 74), .move (.tmp 0), none⟩,
⟨(some 75), .nilCheck (.tmp 74), none⟩,
⟨(some 76), .off 4 (.tmp 75), none⟩,
⟨(some 77), .load (.tmp 76), none⟩,
⟨(some 78), .bin .lss (.tmp 77) (.const (.int .i64 0)), none⟩])
 (.cond (.tmp 78)
 (.region [⟨(some 79), .move (.tmp 0), none⟩,
⟨(some 80), .move (.tmp 0), none⟩,
⟨(some 81), .nilCheck (.tmp 80), none⟩,
⟨(some 82), .off 2 (.tmp 81), none⟩,
⟨(some 83), .load (.tmp 82), none⟩,
⟨(some 84), .lenSl (.tmp 83), none⟩,
⟨(some 85), .nilCheck (.tmp 79), none⟩,
⟨(some 86), .off 4 (.tmp 85), none⟩,
⟨none, .store 1 (.tmp 86) (.tmp 84), none⟩])
 .skip
)
)
)
 .skip
)
)
)
)
)
)
)
 (.seq
 (.region [⟨(some 87), .move (.tmp 0), none⟩,
⟨(some 88), .move (.tmp 0), none⟩,
⟨(some 89), .nilCheck (.tmp 88), none⟩,
⟨(some 90), .off 3 (.tmp 89), none⟩,
⟨(some 91), .load (.tmp 90), none⟩,
⟨(some 92), .move (.tmp 0), none⟩,
⟨(some 93), .makeFunc 67 [(.tmp 92)] [], none⟩,
⟨(some 94), .call 66 [(.tmp 91), (.tmp 93)], none⟩,
⟨(some 95), .nilCheck (.tmp 87), none⟩,
⟨(some 96), .off 3 (.tmp 95), none⟩,
⟨none, .store 1 (.tmp 96) (.tmp 94), none⟩])
 (.seq
 (.region [⟨(some 97), .move (.tmp 6), none⟩,
⟨(some 98), .move (.tmp 7), none⟩,
⟨(some 4), .move (.tmp 97), none⟩,
⟨(some 5), .move (.tmp 98), none⟩])
 .ret
)
)
)
)
)
)
)
, [.tmp 4, .tmp 5]⟩
theorem c_23 : plainFn Tryz.prog 23 = some a_23 := by kernel_rfl
-- (*haycroft/watch.Watch).Ordered
noncomputable def a_24 : AFun := ⟨26,
(.seq
 (.region [⟨(some 2), .move (.const (.bool false)), none⟩,
⟨(some 3), .move (.const (.int .i64 0)), none⟩])
 (.seq
 (.seq
 (.region [⟨(some 5), .move (.tmp 0), none⟩,
⟨(some 6), .eq false .pointer (.tmp 5) (.const (.pointer none)), none⟩])
 (.cond (.tmp 6)
 (.seq
 (.region [⟨(some 2), .move (.const (.bool false)), none⟩,
⟨(some 3), .move (.const (.int .i64 2)), none⟩])
 .ret
)
 .skip
)
)
 (.seq
 (.region [⟨(some 7), .move (.tmp 0), none⟩,
⟨(some 8), .nilCheck (.tmp 7), none⟩,
⟨(some 9), .off 2 (.tmp 8), none⟩,
⟨(some 10), .load (.tmp 9), none⟩,
⟨(some 4), .move (.tmp 10), none⟩])
 (.seq
 (.seq
 (.region [⟨(some 11), .move (.tmp 0), none⟩,
⟨(some 12), .nilCheck (.tmp 11), none⟩,
⟨(some 13), .off 4 (.tmp 12), none⟩,
⟨(some 14), .load (.tmp 13), none⟩,
⟨(some 15), .bin .geq (.tmp 14) (.const (.int .i64 0)), none⟩])
 (.cond (.tmp 15)
 (.region [⟨(some 16), .move (.tmp 4), none⟩,
⟨(some 17), .move (.tmp 0), none⟩,
⟨(some 18), .nilCheck (.tmp 17), none⟩,
⟨(some 19), .off 4 (.tmp 18), none⟩,
⟨(some 20), .load (.tmp 19), none⟩,
⟨(some 21), .sliceSl 8 (.tmp 16) none (some (.tmp 20)) none, none⟩,
⟨(some 4), .move (.tmp 21), none⟩])
 .skip
)
)
 (.seq
 (.region [⟨(some 22), .move (.tmp 4), none⟩,
⟨(some 23), .call 68 [(.tmp 22)], none⟩,
⟨(some 24), .extract (.tmp 23) 0, none⟩,
⟨(some 25), .extract (.tmp 23) 1, none⟩,
⟨(some 2), .move (.tmp 24), none⟩,
⟨(some 3), .move (.tmp 25), none⟩])
 .ret
)
)
)
)
)
, [.tmp 2, .tmp 3]⟩
theorem c_24 : plainFn Tryz.prog 24 = some a_24 := by kernel_rfl
-- haycroft/watch.New
noncomputable def a_25 : AFun := ⟨9,
(.seq
 (.region [⟨(some 2), .move (.const (.pointer none)), none⟩,
⟨(some 3), .move (.const (.int .i64 0)), none⟩])
 (.seq
 (.seq
 (.region [⟨(some 4), .move (.tmp 0), none⟩,
⟨(some 5), .eq false .pointer (.tmp 4) (.const (.pointer none)), none⟩])
 (.cond (.tmp 5)
 (.seq
 (.region [⟨(some 2), .move (.const (.pointer none)), none⟩,
⟨(some 3), .move (.const (.int .i64 2)), none⟩])
 .ret
)
 .skip
)
)
 (.seq
 (.region [⟨(some 6), .move (.tmp 0), none⟩,
⟨(some 7), .build #[(.pointer none), (.int .i64 0), (.slice none 0 0), (.slice none 0 0), (.int .i64 0)] #[(0, 1), (1, 1), (2, 1), (3, 1), (4, 1)] [(0, (.tmp 6)), (4, (.const (.int .i64 (-1))))], none⟩,
⟨(some 8), .box 125 (.tmp 7), none⟩,
⟨(some 2), .move (.tmp 8), none⟩,
⟨(some 3), .move (.const (.int .i64 0)), none⟩])
 .ret
)
)
)
, [.tmp 2, .tmp 3]⟩
theorem c_25 : plainFn Tryz.prog 25 = some a_25 := by kernel_rfl
-- (*haycroft/watch.Watch).Calm
noncomputable def a_26 : AFun := ⟨27,
(.seq
 (.region [⟨(some 4), .move (.const (.int .i64 0)), none⟩])
 (.seq
 (.region [⟨(some 5), .move (.const (.int .i64 0)), none⟩])
 (.seq
 (.block 0
 (.loop none
 (.seq
 (.seq
 (.region [⟨(some 6), .move (.tmp 0), none⟩,
⟨(some 7), .call 30 [(.tmp 6)], none⟩,
⟨(some 8), .bin .gtr (.tmp 7) (.const (.int .i64 0)), none⟩,
⟨(some 9), .move (.tmp 8), none⟩,
⟨(some 10), .move (.tmp 0), (some (9, true))⟩,
⟨(some 11), .nilCheck (.tmp 10), (some (9, true))⟩,
⟨(some 12), .off 0 (.tmp 11), (some (9, true))⟩,
⟨(some 13), .load (.tmp 12), (some (9, true))⟩,
⟨(some 14), .call 14 [(.tmp 13)], (some (9, true))⟩,
⟨(some 15), .pick (.tmp 9) (.tmp 14) (.const (.bool false)), none⟩,
⟨(some 16), .move (.tmp 15), none⟩,
⟨(some 17), .move (.tmp 5), (some (16, true))⟩,
⟨(some 18), .move (.tmp 1), (some (16, true))⟩,
⟨(some 19), .minI (.tmp 18) (.const (.int .i64 65536)), (some (16, true))⟩,
⟨(some 20), .bin .lss (.tmp 17) (.tmp 19), (some (16, true))⟩,
⟨(some 21), .pick (.tmp 16) (.tmp 20) (.const (.bool false)), none⟩])
 (.cond (.tmp 21)
 .skip
 (.exit 0)
)
)
 (.block 1
 (.seq
 (.region [⟨(some 22), .move (.tmp 0), none⟩,
⟨(some 23), .call 69 [(.tmp 22)], none⟩])
 (.region [⟨(some 24), .move (.tmp 5), none⟩,
⟨(some 25), .bin .add (.tmp 24) (.const (.int .i64 1)), none⟩,
⟨(some 5), .move (.tmp 25), none⟩])
)
)
)
)
)
 (.seq
 (.region [⟨(some 26), .move (.tmp 5), none⟩,
⟨(some 4), .move (.tmp 26), none⟩])
 .ret
)
)
)
)
, [.tmp 4]⟩
theorem c_26 : plainFn Tryz.prog 26 = some a_26 := by kernel_rfl
-- (*haycroft/watch.Watch).Store
noncomputable def a_27 : AFun := ⟨9,
(.seq
 (.region [⟨(some 2), .move (.const (.pointer none)), none⟩])
 (.seq
 (.seq
 (.region [⟨(some 3), .move (.tmp 0), none⟩,
⟨(some 4), .eq false .pointer (.tmp 3) (.const (.pointer none)), none⟩])
 (.cond (.tmp 4)
 (.seq
 (.region [⟨(some 2), .move (.const (.pointer none)), none⟩])
 .ret
)
 .skip
)
)
 (.seq
 (.region [⟨(some 5), .move (.tmp 0), none⟩,
⟨(some 6), .nilCheck (.tmp 5), none⟩,
⟨(some 7), .off 0 (.tmp 6), none⟩,
⟨(some 8), .load (.tmp 7), none⟩,
⟨(some 2), .move (.tmp 8), none⟩])
 .ret
)
)
)
, [.tmp 2]⟩
theorem c_27 : plainFn Tryz.prog 27 = some a_27 := by kernel_rfl
-- (*haycroft/watch.Watch).Now
noncomputable def a_28 : AFun := ⟨9,
(.seq
 (.region [⟨(some 2), .move (.const (.int .i64 0)), none⟩])
 (.seq
 (.seq
 (.region [⟨(some 3), .move (.tmp 0), none⟩,
⟨(some 4), .eq false .pointer (.tmp 3) (.const (.pointer none)), none⟩])
 (.cond (.tmp 4)
 (.seq
 (.region [⟨(some 2), .move (.const (.int .i64 0)), none⟩])
 .ret
)
 .skip
)
)
 (.seq
 (.region [⟨(some 5), .move (.tmp 0), none⟩,
⟨(some 6), .nilCheck (.tmp 5), none⟩,
⟨(some 7), .off 1 (.tmp 6), none⟩,
⟨(some 8), .load (.tmp 7), none⟩,
⟨(some 2), .move (.tmp 8), none⟩])
 .ret
)
)
)
, [.tmp 2]⟩
theorem c_28 : plainFn Tryz.prog 28 = some a_28 := by kernel_rfl
-- (*haycroft/watch.Watch).Events
noncomputable def a_29 : AFun := ⟨10,
(.seq
 (.region [⟨(some 2), .move (.const (.slice none 0 0)), none⟩])
 (.seq
 (.seq
 (.region [⟨(some 3), .move (.tmp 0), none⟩,
⟨(some 4), .eq false .pointer (.tmp 3) (.const (.pointer none)), none⟩])
 (.cond (.tmp 4)
 (.seq
 (.region [⟨(some 2), .move (.const (.slice none 0 0)), none⟩])
 .ret
)
 .skip
)
)
 (.seq
 (.region [⟨(some 5), .move (.tmp 0), none⟩,
⟨(some 6), .nilCheck (.tmp 5), none⟩,
⟨(some 7), .off 2 (.tmp 6), none⟩,
⟨(some 8), .load (.tmp 7), none⟩,
⟨(some 9), .call 70 [(.tmp 8)], none⟩,
⟨(some 2), .move (.tmp 9), none⟩])
 .ret
)
)
)
, [.tmp 2]⟩
theorem c_29 : plainFn Tryz.prog 29 = some a_29 := by kernel_rfl
-- (*haycroft/watch.Watch).Open
noncomputable def a_30 : AFun := ⟨10,
(.seq
 (.region [⟨(some 2), .move (.const (.int .i64 0)), none⟩])
 (.seq
 (.seq
 (.region [⟨(some 3), .move (.tmp 0), none⟩,
⟨(some 4), .eq false .pointer (.tmp 3) (.const (.pointer none)), none⟩])
 (.cond (.tmp 4)
 (.seq
 (.region [⟨(some 2), .move (.const (.int .i64 0)), none⟩])
 .ret
)
 .skip
)
)
 (.seq
 (.region [⟨(some 5), .move (.tmp 0), none⟩,
⟨(some 6), .nilCheck (.tmp 5), none⟩,
⟨(some 7), .off 3 (.tmp 6), none⟩,
⟨(some 8), .load (.tmp 7), none⟩,
⟨(some 9), .lenSl (.tmp 8), none⟩,
⟨(some 2), .move (.tmp 9), none⟩])
 .ret
)
)
)
, [.tmp 2]⟩
theorem c_30 : plainFn Tryz.prog 30 = some a_30 := by kernel_rfl
-- (*haycroft/watch.Watch).Bound
noncomputable def a_31 : AFun := ⟨28,
(.seq
 (.region [⟨(some 2), .move (.const (.int .i64 0)), none⟩])
 (.seq
 (.seq
 (.region [⟨(some 4), .move (.tmp 0), none⟩,
⟨(some 5), .eq false .pointer (.tmp 4) (.const (.pointer none)), none⟩])
 (.cond (.tmp 5)
 (.seq
 (.region [⟨(some 2), .move (.const (.int .i64 0)), none⟩])
 .ret
)
 .skip
)
)
 (.seq
 (.region [⟨(some 6), .move (.tmp 0), none⟩,
⟨(some 7), .nilCheck (.tmp 6), none⟩,
⟨(some 8), .off 0 (.tmp 7), none⟩,
⟨(some 9), .load (.tmp 8), none⟩,
⟨(some 10), .call 17 [(.tmp 9)], none⟩,
⟨(some 3), .new 23 #[(.int .i64 0), (.int .i64 0), (.int .i64 0), (.int .i64 0), (.int .i64 0), (.int .i64 0)], none⟩,
⟨none, .store 6 (.tmp 3) (.tmp 10), none⟩])
 (.seq
 (.draw [⟨(some 11), .move (.tmp 0), none⟩,
⟨(some 12), .call 30 [(.tmp 11)], none⟩,
⟨(some 13), .bin .add (.tmp 12) (.const (.int .i64 1)), none⟩,
⟨(some 14), .bin .mul (.const (.int .i64 64)) (.tmp 13), none⟩,
⟨(some 15), .off 1 (.tmp 3), none⟩,
⟨(some 16), .load (.tmp 15), none⟩,
⟨(some 17), .off 5 (.tmp 3), none⟩,
⟨(some 18), .load (.tmp 17), none⟩,
⟨(some 19), .bin .add (.tmp 16) (.tmp 18), none⟩,
⟨(some 20), .bin .add (.tmp 19) (.const (.int .i64 8)), none⟩,
⟨(some 21), .move (.tmp 0), none⟩,
⟨(some 22), .nilCheck (.tmp 21), none⟩,
⟨(some 23), .off 2 (.tmp 22), none⟩,
⟨(some 24), .load (.tmp 23), none⟩,
⟨(some 25), .lenSl (.tmp 24), none⟩,
⟨(some 26), .bin .add (.tmp 20) (.tmp 25), none⟩,
⟨(some 27), .bin .mul (.tmp 14) (.tmp 26), none⟩,
⟨(some 2), .move (.tmp 27), none⟩] [[], [], [], [], [], [1], [], [1], [], [], [], [], [], [1], [], [], [], []])
 .ret
)
)
)
)
, [.tmp 2]⟩
theorem c_31 : plainFn Tryz.prog 31 = some a_31 := by kernel_rfl
-- haycroft/haycroftlaw24.Plain
noncomputable def a_43 : AFun := ⟨2,
(.seq
 (.region [⟨(some 0), .new 23 #[(.int .i64 0), (.int .i64 0), (.int .i64 0), (.int .i64 0), (.int .i64 0), (.int .i64 0)], none⟩])
 (.seq
 (.region [⟨(some 1), .build #[(.int .i64 0), (.int .i64 0), (.int .i64 0), (.int .i64 0), (.int .i64 0), (.int .i64 0)] #[(0, 1), (1, 1), (2, 1), (3, 1), (4, 1), (5, 1)] [(0, (.const (.int .i64 5))), (1, (.const (.int .i64 2))), (2, (.const (.int .i64 8))), (3, (.const (.int .i64 1))), (4, (.const (.int .i64 1))), (5, (.const (.int .i64 2)))], none⟩,
⟨none, .store 6 (.tmp 0) (.tmp 1), none⟩])
 .ret
)
)
, [.cell 0 (some 6)]⟩
theorem c_43 : plainFn Tryz.prog 43 = some a_43 := by kernel_rfl
-- (*haycroft/store.Store).may
noncomputable def a_44 : AFun := ⟨48,
(.seq
 (.region [⟨(some 3), .box 29 (.tmp 1), none⟩,
⟨(some 4), .move (.const (.int .i64 0)), none⟩])
 (.seq
 (.region [⟨(some 6), .off 0 (.tmp 3), none⟩,
⟨(some 7), .load (.tmp 6), none⟩,
⟨(some 8), .call 64 [(.tmp 7), (.const (.int .i64 1)), (.const (.int .i64 3))], none⟩,
⟨(some 5), .move (.tmp 8), none⟩])
 (.seq
 (.block 0
 (.seq
 (.region [⟨(some 10), .move (.tmp 0), none⟩,
⟨(some 11), .eq false .pointer (.tmp 10) (.const (.pointer none)), none⟩,
⟨(some 9), .move (.tmp 11), none⟩])
 (.cond (.tmp 9)
 (.seq
 (.region [⟨(some 4), .move (.const (.int .i64 2)), none⟩])
 .ret
)
 (.seq
 (.region [⟨(some 13), .off 0 (.tmp 3), none⟩,
⟨(some 14), .load (.tmp 13), none⟩,
⟨(some 15), .call 64 [(.tmp 14), (.const (.int .i64 1)), (.const (.int .i64 10))], none⟩,
⟨(some 16), .un .not (.tmp 15), none⟩,
⟨(some 12), .move (.tmp 16), none⟩])
 (.cond (.tmp 12)
 (.seq
 (.region [⟨(some 4), .move (.const (.int .i64 1)), none⟩])
 .ret
)
 (.seq
 (.region [⟨(some 18), .off 0 (.tmp 3), none⟩,
⟨(some 19), .load (.tmp 18), none⟩,
⟨(some 20), .bin .eql (.tmp 19) (.const (.int .i64 10)), none⟩,
⟨(some 21), .move (.tmp 20), none⟩,
⟨(some 22), .move (.tmp 0), (some (21, true))⟩,
⟨(some 23), .call 14 [(.tmp 22)], (some (21, true))⟩,
⟨(some 24), .pick (.tmp 21) (.tmp 23) (.const (.bool false)), none⟩,
⟨(some 17), .move (.tmp 24), none⟩])
 (.cond (.tmp 17)
 (.seq
 (.region [⟨(some 4), .move (.const (.int .i64 8)), none⟩])
 .ret
)
 (.seq
 (.region [⟨(some 26), .off 0 (.tmp 3), none⟩,
⟨(some 27), .load (.tmp 26), none⟩,
⟨(some 28), .bin .neq (.tmp 27) (.const (.int .i64 10)), none⟩,
⟨(some 29), .move (.tmp 28), none⟩,
⟨(some 30), .move (.tmp 0), (some (29, true))⟩,
⟨(some 31), .call 14 [(.tmp 30)], (some (29, true))⟩,
⟨(some 32), .un .not (.tmp 31), (some (29, true))⟩,
⟨(some 33), .pick (.tmp 29) (.tmp 32) (.const (.bool false)), none⟩,
⟨(some 25), .move (.tmp 33), none⟩])
 (.cond (.tmp 25)
 (.seq
 (.region [⟨(some 4), .move (.const (.int .i64 6)), none⟩])
 .ret
)
 (.seq
 (.draw [⟨(some 35), .move (.tmp 5), none⟩,
⟨(some 36), .move (.tmp 35), none⟩,
⟨(some 37), .off 1 (.tmp 3), (some (36, true))⟩,
⟨(some 38), .load (.tmp 37), (some (36, true))⟩,
⟨(some 39), .move (.tmp 0), (some (36, true))⟩,
⟨(some 40), .nilCheck (.tmp 39), (some (36, true))⟩,
⟨(some 41), .off 0 (.tmp 40), (some (36, true))⟩,
⟨(some 42), .off 5 (.tmp 41), (some (36, true))⟩,
⟨(some 43), .load (.tmp 42), (some (36, true))⟩,
⟨(some 44), .bin .sub (.tmp 43) (.const (.int .i64 1)), (some (36, true))⟩,
⟨(some 45), .call 64 [(.tmp 38), (.const (.int .i64 0)), (.tmp 44)], (some (36, true))⟩,
⟨(some 46), .un .not (.tmp 45), (some (36, true))⟩,
⟨(some 47), .pick (.tmp 36) (.tmp 46) (.const (.bool false)), none⟩,
⟨(some 34), .move (.tmp 47), none⟩] [[], [], [], [], [], [], [], [], [], [], [], [], [], []])
 (.cond (.tmp 34)
 (.seq
 (.region [⟨(some 4), .move (.const (.int .i64 1)), none⟩])
 .ret
)
 .skip
)
)
)
)
)
)
)
)
)
)
)
 (.seq
 (.region [⟨(some 4), .move (.const (.int .i64 0)), none⟩])
 .ret
)
)
)
)
, [.tmp 4]⟩
theorem c_44 : plainFn Tryz.prog 44 = some a_44 := by kernel_rfl
-- (*haycroft/store.Store).ask
noncomputable def a_45 : AFun := ⟨30,
(.seq
 (.region [⟨(some 3), .box 29 (.tmp 1), none⟩,
⟨(some 4), .move (.const (.int .i64 0)), none⟩,
⟨(some 5), .move (.const (.int .i64 0)), none⟩])
 (.seq
 (.seq
 (.region [⟨(some 6), .move (.tmp 0), none⟩,
⟨(some 7), .nilCheck (.tmp 6), none⟩,
⟨(some 8), .off 7 (.tmp 7), none⟩,
⟨(some 9), .load (.tmp 8), none⟩,
⟨(some 10), .nilCheck (.tmp 9), none⟩,
⟨(some 11), .off 4 (.tmp 10), none⟩,
⟨(some 12), .load (.tmp 11), none⟩,
⟨(some 13), .eq true .pointer (.tmp 12) (.const (.pointer none)), none⟩])
 (.cond (.tmp 13)
 (.seq
 (.region [⟨(some 4), .move (.const (.int .i64 0)), none⟩,
⟨(some 5), .move (.const (.int .i64 10)), none⟩])
 .ret
)
 .skip
)
)
 (.seq
 (.draw [⟨(some 14), .move (.tmp 0), none⟩,
⟨(some 15), .nilCheck (.tmp 14), none⟩,
⟨(some 16), .off 7 (.tmp 15), none⟩,
⟨(some 17), .load (.tmp 16), none⟩,
⟨(some 18), .nilCheck (.tmp 17), none⟩,
⟨(some 19), .off 2 (.tmp 18), none⟩,
⟨(some 20), .load (.tmp 19), none⟩,
⟨(some 21), .off 1 (.tmp 3), none⟩,
⟨(some 22), .load (.tmp 21), none⟩,
⟨(some 23), .ixSl 1 (.tmp 20) (.tmp 22), none⟩,
⟨(some 24), .load (.tmp 23), none⟩,
⟨(some 25), .off 3 (.tmp 3), none⟩,
⟨(some 26), .loadN 4 (.tmp 25), none⟩,
⟨(some 27), .call 93 [(.tmp 24), (.tmp 26)], none⟩,
⟨(some 28), .extract (.tmp 27) 0, none⟩,
⟨(some 29), .extract (.tmp 27) 1, none⟩,
⟨(some 4), .move (.tmp 28), none⟩,
⟨(some 5), .move (.tmp 29), none⟩] [[], [], [], [], [], [], [], [], [], [], [], [], [], [], [], [], [], []])
 .ret
)
)
)
, [.tmp 4, .tmp 5]⟩
theorem c_45 : plainFn Tryz.prog 45 = some a_45 := by kernel_rfl
-- (*haycroft/session.Session).Move
noncomputable def a_46 : AFun := ⟨107,
(.seq
 (.region [⟨(some 2), .move (.const (.int .i64 0)), none⟩,
⟨(some 3), .move (.const (.int .i64 0)), none⟩])
 (.seq
 (.block 0
 (.seq
 (.region [⟨(some 13), .move (.tmp 0), none⟩,
⟨(some 14), .eq false .pointer (.tmp 13) (.const (.pointer none)), none⟩,
⟨(some 12), .move (.tmp 14), none⟩])
 (.cond (.tmp 12)
 (.seq
 (.region [⟨(some 2), .move (.const (.int .i64 0)), none⟩,
⟨(some 3), .move (.const (.int .i64 2)), none⟩])
 .ret
)
 (.seq
 (.region [⟨(some 16), .move (.tmp 0), none⟩,
⟨(some 17), .nilCheck (.tmp 16), none⟩,
⟨(some 18), .off 5 (.tmp 17), none⟩,
⟨(some 19), .load (.tmp 18), none⟩,
⟨(some 20), .eq false .pointer (.tmp 19) (.const (.pointer none)), none⟩,
⟨(some 15), .move (.tmp 20), none⟩])
 (.cond (.tmp 15)
 (.seq
 (.region [⟨(some 2), .move (.const (.int .i64 0)), none⟩,
⟨(some 3), .move (.const (.int .i64 7)), none⟩])
 .ret
)
 .skip
)
)
)
)
)
 (.seq
 (.region [⟨(some 21), .move (.tmp 0), none⟩,
⟨(some 22), .nilCheck (.tmp 21), none⟩,
⟨(some 23), .off 5 (.tmp 22), none⟩,
⟨(some 24), .load (.tmp 23), none⟩,
⟨(some 4), .move (.tmp 24), none⟩])
 (.seq
 (.seq
 (.region [⟨(some 26), .move (.tmp 4), none⟩,
⟨(some 27), .nilCheck (.tmp 26), none⟩,
⟨(some 28), .off 1 (.tmp 27), none⟩,
⟨(some 29), .load (.tmp 28), none⟩,
⟨(some 30), .call 94 [(.tmp 29)], none⟩,
⟨(some 25), .move (.tmp 30), none⟩,
⟨(some 31), .extract (.tmp 25) 0, none⟩,
⟨(some 32), .extract (.tmp 25) 1, none⟩,
⟨(some 5), .move (.tmp 31), none⟩,
⟨(some 6), .move (.tmp 32), none⟩])
 (.seq
 (.region [⟨(some 33), .move (.tmp 6), none⟩])
 (.cond (.tmp 33)
 (.seq
 (.region [⟨(some 34), .move (.tmp 0), none⟩,
⟨(some 35), .move (.tmp 4), none⟩,
⟨(some 36), .call 95 [(.tmp 34), (.tmp 35)], none⟩,
⟨(some 2), .move (.tmp 36), none⟩,
⟨(some 3), .move (.const (.int .i64 0)), none⟩])
 .ret
)
 .skip
)
)
)
 (.seq
 (.seq
 (.draw [⟨(some 37), .move (.tmp 0), none⟩,
⟨(some 38), .nilCheck (.tmp 37), none⟩,
⟨(some 39), .off 0 (.tmp 38), none⟩,
⟨(some 40), .load (.tmp 39), none⟩,
⟨(some 41), .call 96 [(.tmp 40)], none⟩,
⟨(some 42), .move (.tmp 0), none⟩,
⟨(some 43), .nilCheck (.tmp 42), none⟩,
⟨(some 44), .off 2 (.tmp 43), none⟩,
⟨(some 45), .load (.tmp 44), none⟩,
⟨(some 46), .call 97 [(.tmp 41), (.tmp 45)], none⟩,
⟨(some 47), .bin .eql (.tmp 46) (.const (.int .u64 0)), none⟩] [[], [], [], [], [], [], [], [], [4], [], []])
 (.cond (.tmp 47)
 (.seq
 (.draw [⟨(some 48), .move (.tmp 0), none⟩,
⟨(some 49), .nilCheck (.tmp 48), none⟩,
⟨(some 50), .off 0 (.tmp 49), none⟩,
⟨(some 51), .load (.tmp 50), none⟩,
⟨(some 52), .call 96 [(.tmp 51)], none⟩,
⟨(some 53), .move (.tmp 0), none⟩,
⟨(some 54), .nilCheck (.tmp 53), none⟩,
⟨(some 55), .off 2 (.tmp 54), none⟩,
⟨(some 56), .load (.tmp 55), none⟩,
⟨(some 57), .call 98 [(.tmp 52), (.tmp 56)], none⟩,
⟨(some 7), .move (.tmp 57), none⟩] [[], [], [], [], [], [], [], [], [4], [], []])
 (.seq
 (.region [⟨(some 58), .move (.tmp 7), none⟩,
⟨(some 59), .bin .neq (.tmp 58) (.const (.int .i64 0)), none⟩])
 (.cond (.tmp 59)
 (.seq
 (.region [⟨(some 60), .move (.tmp 7), none⟩,
⟨(some 2), .move (.const (.int .i64 0)), none⟩,
⟨(some 3), .move (.tmp 60), none⟩])
 .ret
)
 .skip
)
)
)
 .skip
)
)
 (.seq
 (.region [⟨(some 62), .move (.tmp 4), none⟩,
⟨(some 63), .nilCheck (.tmp 62), none⟩,
⟨(some 64), .off 1 (.tmp 63), none⟩,
⟨(some 65), .load (.tmp 64), none⟩,
⟨(some 66), .call 99 [(.tmp 65)], none⟩,
⟨(some 61), .move (.tmp 66), none⟩,
⟨(some 67), .extract (.tmp 61) 0, none⟩,
⟨(some 68), .extract (.tmp 61) 1, none⟩,
⟨(some 8), .move (.tmp 67), none⟩,
⟨(some 9), .move (.tmp 68), none⟩])
 (.seq
 (.seq
 (.region [⟨(some 70), .move (.tmp 4), none⟩,
⟨(some 71), .nilCheck (.tmp 70), none⟩,
⟨(some 72), .off 1 (.tmp 71), none⟩,
⟨(some 73), .load (.tmp 72), none⟩,
⟨(some 74), .call 94 [(.tmp 73)], none⟩,
⟨(some 69), .move (.tmp 74), none⟩,
⟨(some 75), .extract (.tmp 69) 0, none⟩,
⟨(some 76), .extract (.tmp 69) 1, none⟩,
⟨(some 10), .move (.tmp 75), none⟩,
⟨(some 11), .move (.tmp 76), none⟩])
 (.seq
 (.region [⟨(some 77), .move (.tmp 9), none⟩,
⟨(some 78), .bin .neq (.tmp 77) (.const (.int .i64 0)), none⟩,
⟨(some 79), .move (.tmp 78), none⟩,
⟨(some 80), .move (.tmp 8), (some (79, false))⟩,
⟨(some 81), .bin .neq (.tmp 80) (.const (.int .i64 2)), (some (79, false))⟩,
⟨(some 82), .move (.tmp 81), (some (79, false))⟩,
⟨(some 83), .move (.tmp 11), (some (82, true))⟩,
⟨(some 84), .un .not (.tmp 83), (some (82, true))⟩,
⟨(some 85), .pick (.tmp 82) (.tmp 84) (.const (.bool false)), (some (79, false))⟩,
⟨(some 86), .pick (.tmp 79) (.const (.bool true)) (.tmp 85), none⟩])
 (.cond (.tmp 86)
 (.seq
 (.region [⟨(some 87), .move (.tmp 8), none⟩,
⟨(some 88), .move (.tmp 9), none⟩,
⟨(some 2), .move (.tmp 87), none⟩,
⟨(some 3), .move (.tmp 88), none⟩])
 .ret
)
 .skip
)
)
)
 (.seq
 (.draw [⟨(some 89), .move (.tmp 0), none⟩,
⟨(some 90), .nilCheck (.tmp 89), none⟩,
⟨(some 91), .off 0 (.tmp 90), none⟩,
⟨(some 92), .load (.tmp 91), none⟩,
⟨(some 93), .call 96 [(.tmp 92)], none⟩,
⟨(some 94), .move (.tmp 0), none⟩,
⟨(some 95), .nilCheck (.tmp 94), none⟩,
⟨(some 96), .off 2 (.tmp 95), none⟩,
⟨(some 97), .load (.tmp 96), none⟩,
⟨(some 98), .call 100 [(.tmp 93), (.tmp 97)], none⟩] [[], [], [], [], [], [], [], [], [4], []])
 (.seq
 (.region [⟨(some 99), .move (.tmp 0), none⟩,
⟨(some 100), .nilCheck (.tmp 99), none⟩,
⟨(some 101), .off 0 (.tmp 100), none⟩,
⟨(some 102), .load (.tmp 101), none⟩,
⟨(some 103), .call 101 [(.tmp 102)], none⟩])
 (.seq
 (.region [⟨(some 104), .move (.tmp 0), none⟩,
⟨(some 105), .move (.tmp 4), none⟩,
⟨(some 106), .call 95 [(.tmp 104), (.tmp 105)], none⟩,
⟨(some 2), .move (.tmp 106), none⟩,
⟨(some 3), .move (.const (.int .i64 0)), none⟩])
 .ret
)
)
)
)
)
)
)
)
)
)
, [.tmp 2, .tmp 3]⟩
theorem c_46 : plainFn Tryz.prog 46 = some a_46 := by kernel_rfl
-- (*haycroft/session.Session).Resume
noncomputable def a_47 : AFun := ⟨106,
(.seq
 (.region [⟨(some 2), .move (.const (.int .i64 0)), none⟩,
⟨(some 3), .move (.const (.int .i64 0)), none⟩])
 (.seq
 (.block 0
 (.seq
 (.region [⟨(some 9), .move (.tmp 0), none⟩,
⟨(some 10), .eq false .pointer (.tmp 9) (.const (.pointer none)), none⟩,
⟨(some 8), .move (.tmp 10), none⟩])
 (.cond (.tmp 8)
 (.seq
 (.region [⟨(some 2), .move (.const (.int .i64 0)), none⟩,
⟨(some 3), .move (.const (.int .i64 2)), none⟩])
 .ret
)
 (.seq
 (.region [⟨(some 12), .move (.tmp 0), none⟩,
⟨(some 13), .nilCheck (.tmp 12), none⟩,
⟨(some 14), .off 5 (.tmp 13), none⟩,
⟨(some 15), .load (.tmp 14), none⟩,
⟨(some 16), .eq true .pointer (.tmp 15) (.const (.pointer none)), none⟩,
⟨(some 11), .move (.tmp 16), none⟩])
 (.cond (.tmp 11)
 (.seq
 (.region [⟨(some 2), .move (.const (.int .i64 0)), none⟩,
⟨(some 3), .move (.const (.int .i64 10)), none⟩])
 .ret
)
 (.seq
 (.region [⟨(some 18), .move (.tmp 0), none⟩,
⟨(some 19), .nilCheck (.tmp 18), none⟩,
⟨(some 20), .off 0 (.tmp 19), none⟩,
⟨(some 21), .load (.tmp 20), none⟩,
⟨(some 22), .call 102 [(.tmp 21)], none⟩,
⟨(some 23), .call 57 [(.tmp 22)], none⟩,
⟨(some 24), .un .not (.tmp 23), none⟩,
⟨(some 17), .move (.tmp 24), none⟩])
 (.cond (.tmp 17)
 (.seq
 (.region [⟨(some 2), .move (.const (.int .i64 0)), none⟩,
⟨(some 3), .move (.const (.int .i64 6)), none⟩])
 .ret
)
 .skip
)
)
)
)
)
)
)
 (.seq
 (.seq
 (.region [⟨(some 25), .move (.tmp 0), none⟩,
⟨(some 26), .nilCheck (.tmp 25), none⟩,
⟨(some 27), .off 6 (.tmp 26), none⟩,
⟨(some 28), .load (.tmp 27), none⟩,
⟨(some 29), .lenSl (.tmp 28), none⟩,
⟨(some 30), .move (.const (.int .i64 0)), none⟩])
 (.block 1
 (.loop none
 (.seq
 (.region [⟨(some 31), .bin .lss (.tmp 30) (.tmp 29), none⟩])
 (.seq
 (.cond (.tmp 31)
 .skip
 (.exit 1)
)
 (.seq
 (.block 2
 (.seq
 (.region [⟨(some 32), .move (.tmp 30), none⟩,
⟨(some 33), .ixSl 1 (.tmp 28) (.tmp 30), none⟩,
⟨(some 34), .load (.tmp 33), none⟩,
⟨(some 4), .move (.tmp 32), none⟩,
⟨(some 5), .move (.tmp 34), none⟩])
 (.seq
 (.draw [⟨(some 36), .move (.tmp 0), none⟩,
⟨(some 37), .nilCheck (.tmp 36), none⟩,
⟨(some 38), .off 0 (.tmp 37), none⟩,
⟨(some 39), .load (.tmp 38), none⟩,
⟨(some 40), .call 102 [(.tmp 39)], none⟩,
⟨(some 41), .move (.tmp 5), none⟩,
⟨(some 42), .nilCheck (.tmp 41), none⟩,
⟨(some 43), .off 2 (.tmp 42), none⟩,
⟨(some 44), .load (.tmp 43), none⟩,
⟨(some 45), .call 103 [(.tmp 40), (.tmp 44)], none⟩,
⟨(some 35), .move (.tmp 45), none⟩,
⟨(some 46), .extract (.tmp 35) 0, none⟩,
⟨(some 47), .extract (.tmp 35) 1, none⟩,
⟨(some 6), .move (.tmp 46), none⟩,
⟨(some 7), .move (.tmp 47), none⟩] [[], [], [], [], [], [], [], [], [4], [], [], [], [], [], []])
 (.seq
 (.seq
 (.region [⟨(some 48), .move (.tmp 7), none⟩,
⟨(some 49), .bin .eql (.tmp 48) (.const (.int .i64 10)), none⟩])
 (.cond (.tmp 49)
 (.exit 2)
 .skip
)
)
 (.seq
 (.seq
 (.region [⟨(some 50), .move (.tmp 7), none⟩,
⟨(some 51), .bin .eql (.tmp 50) (.const (.int .i64 0)), none⟩,
⟨(some 52), .move (.tmp 51), none⟩,
⟨(some 53), .move (.tmp 0), (some (52, true))⟩,
⟨(some 54), .move (.tmp 5), (some (52, true))⟩,
⟨(some 55), .move (.tmp 6), (some (52, true))⟩,
⟨(some 56), .call 104 [(.tmp 53), (.tmp 54), (.tmp 55)], (some (52, true))⟩,
⟨(some 57), .pick (.tmp 52) (.tmp 56) (.const (.bool false)), none⟩])
 (.cond (.tmp 57)
 (.seq
 (.draw [⟨(some 58), .move (.tmp 0), none⟩,
⟨(some 59), .move (.tmp 0), none⟩,
⟨(some 60), .nilCheck (.tmp 59), none⟩,
⟨(some 61), .off 6 (.tmp 60), none⟩,
⟨(some 62), .load (.tmp 61), none⟩,
⟨(some 63), .move (.tmp 4), none⟩,
⟨(some 64), .move (.tmp 4), none⟩,
⟨(some 65), .sliceSl 1 (.tmp 62) none (some (.tmp 63)) (some (.tmp 64)), none⟩,
⟨(some 66), .move (.tmp 0), none⟩,
⟨(some 67), .nilCheck (.tmp 66), none⟩,
⟨(some 68), .off 6 (.tmp 67), none⟩,
⟨(some 69), .load (.tmp 68), none⟩,
⟨(some 70), .move (.tmp 4), none⟩,
⟨(some 71), .bin .add (.tmp 70) (.const (.int .i64 1)), none⟩,
⟨(some 72), .sliceSl 1 (.tmp 69) (some (.tmp 71)) none none, none⟩,
⟨(some 73), .append 173 1 8 (.tmp 65) (.tmp 72), none⟩,
⟨(some 74), .nilCheck (.tmp 58), none⟩,
⟨(some 75), .off 6 (.tmp 74), none⟩,
⟨none, .store 1 (.tmp 75) (.tmp 73), none⟩] [[], [], [], [], [], [], [], [], [], [], [], [], [], [], [], [], [], [], []])
 (.seq
 (.region [⟨(some 76), .move (.tmp 0), none⟩,
⟨(some 77), .move (.tmp 5), none⟩,
⟨(some 78), .call 95 [(.tmp 76), (.tmp 77)], none⟩,
⟨(some 2), .move (.tmp 78), none⟩,
⟨(some 3), .move (.const (.int .i64 0)), none⟩])
 .ret
)
)
 .skip
)
)
 (.seq
 (.seq
 (.region [⟨(some 79), .move (.tmp 0), none⟩,
⟨(some 80), .move (.tmp 5), none⟩,
⟨(some 81), .call 105 [(.tmp 79), (.tmp 80)], none⟩,
⟨(some 82), .un .not (.tmp 81), none⟩])
 (.cond (.tmp 82)
 (.seq
 (.draw [⟨(some 83), .move (.tmp 0), none⟩,
⟨(some 84), .move (.tmp 0), none⟩,
⟨(some 85), .nilCheck (.tmp 84), none⟩,
⟨(some 86), .off 6 (.tmp 85), none⟩,
⟨(some 87), .load (.tmp 86), none⟩,
⟨(some 88), .move (.tmp 4), none⟩,
⟨(some 89), .move (.tmp 4), none⟩,
⟨(some 90), .sliceSl 1 (.tmp 87) none (some (.tmp 88)) (some (.tmp 89)), none⟩,
⟨(some 91), .move (.tmp 0), none⟩,
⟨(some 92), .nilCheck (.tmp 91), none⟩,
⟨(some 93), .off 6 (.tmp 92), none⟩,
⟨(some 94), .load (.tmp 93), none⟩,
⟨(some 95), .move (.tmp 4), none⟩,
⟨(some 96), .bin .add (.tmp 95) (.const (.int .i64 1)), none⟩,
⟨(some 97), .sliceSl 1 (.tmp 94) (some (.tmp 96)) none none, none⟩,
⟨(some 98), .append 173 1 8 (.tmp 90) (.tmp 97), none⟩,
⟨(some 99), .nilCheck (.tmp 83), none⟩,
⟨(some 100), .off 6 (.tmp 99), none⟩,
⟨none, .store 1 (.tmp 100) (.tmp 98), none⟩] [[], [], [], [], [], [], [], [], [], [], [], [], [], [], [], [], [], [], []])
 (.region [⟨(some 101), .move (.tmp 0), none⟩,
⟨(some 102), .move (.tmp 5), none⟩,
⟨(some 103), .nilCheck (.tmp 101), none⟩,
⟨(some 104), .off 5 (.tmp 103), none⟩,
⟨none, .store 1 (.tmp 104) (.tmp 102), none⟩])
)
 .skip
)
)
 (.seq
 (.region [⟨(some 2), .move (.const (.int .i64 0)), none⟩,
⟨(some 3), .move (.const (.int .i64 4)), none⟩])
 .ret
)
)
)
)
)
)
)
 (.region [⟨(some 105), .bin .add (.tmp 30) (.const (.int .i64 1)), none⟩,
⟨(some 30), .move (.tmp 105), none⟩])
)
)
)
)
)
)
 (.seq
 (.region [⟨(some 2), .move (.const (.int .i64 0)), none⟩,
⟨(some 3), .move (.const (.int .i64 7)), none⟩])
 .ret
)
)
)
)
, [.tmp 2, .tmp 3]⟩
theorem c_47 : plainFn Tryz.prog 47 = some a_47 := by kernel_rfl
-- (*haycroft/session.Session).Outcome
noncomputable def a_55 : AFun := ⟨22,
(.seq
 (.region [⟨(some 4), .new 36 #[(.int .i64 0), (.string (strB []))], none⟩,
⟨(some 5), .move (.const (.bool false)), none⟩])
 (.seq
 (.seq
 (.region [⟨(some 8), .move (.tmp 0), none⟩,
⟨(some 9), .eq false .pointer (.tmp 8) (.const (.pointer none)), none⟩])
 (.cond (.tmp 9)
 (.seq
 (.region [⟨(some 10), .build #[(.int .i64 0), (.string (strB []))] #[(0, 1), (1, 1)] [], none⟩,
⟨none, .store 2 (.tmp 4) (.tmp 10), none⟩,
⟨(some 5), .move (.const (.bool false)), none⟩])
 .ret
)
 .skip
)
)
 (.seq
 (.region [⟨(some 12), .move (.tmp 0), none⟩,
⟨(some 13), .nilCheck (.tmp 12), none⟩,
⟨(some 14), .off 8 (.tmp 13), none⟩,
⟨(some 15), .load (.tmp 14), none⟩,
⟨(some 16), .move (.tmp 1), none⟩,
⟨(some 17), .lookup (.one 1) (.agg #[(.int .i64 0), (.string (strB []))]) true (.tmp 15) (.tmp 16), none⟩,
⟨(some 11), .move (.tmp 17), none⟩,
⟨(some 18), .extract (.tmp 11) 0, none⟩,
⟨(some 19), .extract (.tmp 11) 1, none⟩,
⟨(some 6), .new 36 #[(.int .i64 0), (.string (strB []))], none⟩,
⟨none, .store 2 (.tmp 6) (.tmp 18), none⟩,
⟨(some 7), .move (.tmp 19), none⟩])
 (.seq
 (.region [⟨(some 20), .loadN 2 (.tmp 6), none⟩,
⟨(some 21), .move (.tmp 7), none⟩,
⟨none, .store 2 (.tmp 4) (.tmp 20), none⟩,
⟨(some 5), .move (.tmp 21), none⟩])
 .ret
)
)
)
)
, [.cell 4 (some 2), .tmp 5]⟩
theorem c_55 : plainFn Tryz.prog 55 = some a_55 := by kernel_rfl
-- haycroft/store.Right
noncomputable def a_56 : AFun := ⟨31,
(.seq
 (.region [⟨(some 1), .box 23 (.tmp 0), none⟩,
⟨(some 2), .move (.const (.bool false)), none⟩])
 (.seq
 (.region [⟨(some 3), .off 0 (.tmp 1), none⟩,
⟨(some 4), .load (.tmp 3), none⟩,
⟨(some 5), .call 119 [(.tmp 4)], none⟩,
⟨(some 6), .move (.tmp 5), none⟩,
⟨(some 7), .off 1 (.tmp 1), (some (6, true))⟩,
⟨(some 8), .load (.tmp 7), (some (6, true))⟩,
⟨(some 9), .call 64 [(.tmp 8), (.const (.int .i64 2)), (.const (.int .i64 8))], (some (6, true))⟩,
⟨(some 10), .pick (.tmp 6) (.tmp 9) (.const (.bool false)), none⟩,
⟨(some 11), .move (.tmp 10), none⟩,
⟨(some 12), .off 2 (.tmp 1), (some (11, true))⟩,
⟨(some 13), .load (.tmp 12), (some (11, true))⟩,
⟨(some 14), .call 64 [(.tmp 13), (.const (.int .i64 1)), (.const (.int .i64 64))], (some (11, true))⟩,
⟨(some 15), .pick (.tmp 11) (.tmp 14) (.const (.bool false)), none⟩,
⟨(some 16), .move (.tmp 15), none⟩,
⟨(some 17), .off 3 (.tmp 1), (some (16, true))⟩,
⟨(some 18), .load (.tmp 17), (some (16, true))⟩,
⟨(some 19), .call 120 [(.tmp 18)], (some (16, true))⟩,
⟨(some 20), .pick (.tmp 16) (.tmp 19) (.const (.bool false)), none⟩,
⟨(some 21), .move (.tmp 20), none⟩,
⟨(some 22), .off 4 (.tmp 1), (some (21, true))⟩,
⟨(some 23), .load (.tmp 22), (some (21, true))⟩,
⟨(some 24), .call 64 [(.tmp 23), (.const (.int .i64 0)), (.const (.int .i64 64))], (some (21, true))⟩,
⟨(some 25), .pick (.tmp 21) (.tmp 24) (.const (.bool false)), none⟩,
⟨(some 26), .move (.tmp 25), none⟩,
⟨(some 27), .off 5 (.tmp 1), (some (26, true))⟩,
⟨(some 28), .load (.tmp 27), (some (26, true))⟩,
⟨(some 29), .call 64 [(.tmp 28), (.const (.int .i64 1)), (.const (.int .i64 8))], (some (26, true))⟩,
⟨(some 30), .pick (.tmp 26) (.tmp 29) (.const (.bool false)), none⟩,
⟨(some 2), .move (.tmp 30), none⟩])
 .ret
)
)
, [.tmp 2]⟩
theorem c_56 : plainFn Tryz.prog 56 = some a_56 := by kernel_rfl
-- (*haycroft/device.Device).On
noncomputable def a_57 : AFun := ⟨6,
(.seq
 (.region [⟨(some 2), .move (.const (.bool false)), none⟩])
 (.seq
 (.region [⟨(some 3), .move (.tmp 0), none⟩,
⟨(some 4), .call 59 [(.tmp 3)], none⟩,
⟨(some 5), .bin .eql (.tmp 4) (.const (.int .i64 0)), none⟩,
⟨(some 2), .move (.tmp 5), none⟩])
 .ret
)
)
, [.tmp 2]⟩
theorem c_57 : plainFn Tryz.prog 57 = some a_57 := by kernel_rfl
-- haycroft/store.load
noncomputable def a_58 : AFun := ⟨30,
(.seq
 (.region [⟨(some 2), .box 23 (.tmp 0), none⟩,
⟨(some 4), .move (.const (.pointer none)), none⟩,
⟨(some 5), .move (.const (.int .i64 0)), none⟩])
 (.seq
 (.seq
 (.region [⟨(some 11), .move (.tmp 1), none⟩,
⟨(some 12), .call 121 [(.tmp 11)], none⟩,
⟨(some 10), .move (.tmp 12), none⟩,
⟨(some 13), .extract (.tmp 10) 0, none⟩,
⟨(some 14), .extract (.tmp 10) 1, none⟩,
⟨(some 6), .new 202 #[(.int .i64 0), (.int .i64 0), (.slice none 0 0), (.slice none 0 0)], none⟩,
⟨none, .store 4 (.tmp 6) (.tmp 13), none⟩,
⟨(some 7), .move (.tmp 14), none⟩])
 (.seq
 (.region [⟨(some 15), .move (.tmp 7), none⟩])
 (.cond (.tmp 15)
 (.seq
 (.region [⟨(some 17), .loadN 6 (.tmp 2), none⟩,
⟨(some 18), .move (.tmp 1), none⟩,
⟨(some 19), .loadN 4 (.tmp 6), none⟩,
⟨(some 20), .call 122 [(.tmp 17), (.tmp 18), (.tmp 19)], none⟩,
⟨(some 16), .move (.tmp 20), none⟩,
⟨(some 21), .extract (.tmp 16) 0, none⟩,
⟨(some 22), .extract (.tmp 16) 1, none⟩,
⟨(some 8), .move (.tmp 21), none⟩,
⟨(some 9), .move (.tmp 22), none⟩])
 (.seq
 (.region [⟨(some 23), .move (.tmp 9), none⟩])
 (.cond (.tmp 23)
 (.seq
 (.region [⟨(some 24), .move (.tmp 8), none⟩,
⟨(some 4), .move (.tmp 24), none⟩,
⟨(some 5), .move (.const (.int .i64 0)), none⟩])
 .ret
)
 .skip
)
)
)
 .skip
)
)
)
 (.seq
 (.region [⟨(some 25), .loadN 6 (.tmp 2), none⟩,
⟨(some 26), .move (.tmp 1), none⟩,
⟨(some 27), .call 123 [(.tmp 25), (.tmp 26)], none⟩,
⟨(some 28), .extract (.tmp 27) 0, none⟩,
⟨(some 29), .extract (.tmp 27) 1, none⟩,
⟨(some 4), .move (.tmp 28), none⟩,
⟨(some 5), .move (.tmp 29), none⟩])
 .ret
)
)
)
, [.tmp 4, .tmp 5]⟩
theorem c_58 : plainFn Tryz.prog 58 = some a_58 := by kernel_rfl
-- (*haycroft/device.Device).power
noncomputable def a_59 : AFun := ⟨11,
(.seq
 (.region [⟨(some 2), .move (.const (.int .i64 0)), none⟩])
 (.seq
 (.block 0
 (.seq
 (.region [⟨(some 4), .move (.tmp 0), none⟩,
⟨(some 5), .eq false .pointer (.tmp 4) (.const (.pointer none)), none⟩,
⟨(some 3), .move (.tmp 5), none⟩])
 (.cond (.tmp 3)
 (.seq
 (.region [⟨(some 2), .move (.const (.int .i64 2)), none⟩])
 .ret
)
 (.seq
 (.region [⟨(some 7), .move (.tmp 0), none⟩,
⟨(some 8), .nilCheck (.tmp 7), none⟩,
⟨(some 9), .off 0 (.tmp 8), none⟩,
⟨(some 10), .load (.tmp 9), none⟩,
⟨(some 6), .move (.tmp 10), none⟩])
 (.cond (.tmp 6)
 (.seq
 (.region [⟨(some 2), .move (.const (.int .i64 6)), none⟩])
 .ret
)
 .skip
)
)
)
)
)
 (.seq
 (.region [⟨(some 2), .move (.const (.int .i64 0)), none⟩])
 .ret
)
)
)
, [.tmp 2]⟩
theorem c_59 : plainFn Tryz.prog 59 = some a_59 := by kernel_rfl
-- (*haycroft/device.Device).Flight
noncomputable def a_60 : AFun := ⟨11,
(.seq
 (.region [⟨(some 2), .move (.const (.slice none 0 0)), none⟩])
 (.seq
 (.seq
 (.region [⟨(some 3), .move (.tmp 0), none⟩,
⟨(some 4), .eq false .pointer (.tmp 3) (.const (.pointer none)), none⟩])
 (.cond (.tmp 4)
 (.seq
 (.region [⟨(some 2), .move (.const (.slice none 0 0)), none⟩])
 .ret
)
 .skip
)
)
 (.seq
 (.region [⟨(some 5), .move (.tmp 0), none⟩,
⟨(some 6), .nilCheck (.tmp 5), none⟩,
⟨(some 7), .off 2 (.tmp 6), none⟩,
⟨(some 8), .load (.tmp 7), none⟩,
⟨(some 9), .call 125 [(.tmp 8)], none⟩,
⟨(some 10), .call 124 [(.tmp 9)], none⟩,
⟨(some 2), .move (.tmp 10), none⟩])
 .ret
)
)
)
, [.tmp 2]⟩
theorem c_60 : plainFn Tryz.prog 60 = some a_60 := by kernel_rfl
-- haycroft/store.within
noncomputable def a_64 : AFun := ⟨15,
(.seq
 (.region [⟨(some 6), .move (.const (.bool false)), none⟩])
 (.seq
 (.region [⟨(some 7), .move (.tmp 0), none⟩,
⟨(some 8), .move (.tmp 1), none⟩,
⟨(some 9), .bin .geq (.tmp 7) (.tmp 8), none⟩,
⟨(some 10), .move (.tmp 9), none⟩,
⟨(some 11), .move (.tmp 0), (some (10, true))⟩,
⟨(some 12), .move (.tmp 2), (some (10, true))⟩,
⟨(some 13), .bin .leq (.tmp 11) (.tmp 12), (some (10, true))⟩,
⟨(some 14), .pick (.tmp 10) (.tmp 13) (.const (.bool false)), none⟩,
⟨(some 6), .move (.tmp 14), none⟩])
 .ret
)
)
, [.tmp 6]⟩
theorem c_64 : plainFn Tryz.prog 64 = some a_64 := by kernel_rfl
-- haycroft/haycroftlaw26.Open
noncomputable def a_65 : AFun := ⟨24,
(.seq
 (.region [⟨(some 1), .box 23 (.tmp 0), none⟩,
⟨(some 2), .move (.const (.pointer none)), none⟩,
⟨(some 3), .move (.const (.bool false)), none⟩])
 (.seq
 (.draw [⟨(some 9), .loadN 6 (.tmp 1), none⟩,
⟨(some 10), .call 11 [], none⟩,
⟨(some 11), .call 10 [(.tmp 9), (.tmp 10)], none⟩,
⟨(some 8), .move (.tmp 11), none⟩,
⟨(some 12), .extract (.tmp 8) 0, none⟩,
⟨(some 13), .extract (.tmp 8) 1, none⟩,
⟨(some 4), .move (.tmp 12), none⟩,
⟨(some 5), .move (.tmp 13), none⟩] [[1], [], [], [], [], [], [], []])
 (.seq
 (.seq
 (.region [⟨(some 14), .move (.tmp 5), none⟩,
⟨(some 15), .bin .neq (.tmp 14) (.const (.int .i64 0)), none⟩])
 (.cond (.tmp 15)
 (.seq
 (.region [⟨(some 2), .move (.const (.pointer none)), none⟩,
⟨(some 3), .move (.const (.bool false)), none⟩])
 .ret
)
 .skip
)
)
 (.seq
 (.region [⟨(some 17), .move (.tmp 4), none⟩,
⟨(some 18), .call 25 [(.tmp 17)], none⟩,
⟨(some 16), .move (.tmp 18), none⟩,
⟨(some 19), .extract (.tmp 16) 0, none⟩,
⟨(some 20), .extract (.tmp 16) 1, none⟩,
⟨(some 6), .move (.tmp 19), none⟩,
⟨(some 7), .move (.tmp 20), none⟩])
 (.seq
 (.region [⟨(some 21), .move (.tmp 6), none⟩,
⟨(some 22), .move (.tmp 7), none⟩,
⟨(some 23), .bin .eql (.tmp 22) (.const (.int .i64 0)), none⟩,
⟨(some 2), .move (.tmp 21), none⟩,
⟨(some 3), .move (.tmp 23), none⟩])
 .ret
)
)
)
)
)
, [.tmp 2, .tmp 3]⟩
theorem c_65 : plainFn Tryz.prog 65 = some a_65 := by kernel_rfl
-- slices.DeleteFunc[[]haycroft/watch.asked,haycroft/watch.asked]
noncomputable def a_66 : AFun := ⟨42,
(.seq
 (.region [⟨(some 4), .move (.const (.slice none 0 0)), none⟩])
 (.seq
 (.region [⟨(some 8), .move (.tmp 0), none⟩,
⟨(some 9), .move (.tmp 1), none⟩,
⟨(some 10), .call 126 [(.tmp 8), (.tmp 9)], none⟩,
⟨(some 5), .move (.tmp 10), none⟩])
 (.seq
 (.seq
 (.region [⟨(some 11), .move (.tmp 5), none⟩,
⟨(some 12), .bin .eql (.tmp 11) (.const (.int .i64 (-1))), none⟩])
 (.cond (.tmp 12)
 (.seq
 (.region [⟨(some 13), .move (.tmp 0), none⟩,
⟨(some 4), .move (.tmp 13), none⟩])
 .ret
)
 .skip
)
)
 (.seq
 (.seq
 (.region [⟨(some 14), .move (.tmp 5), none⟩,
⟨(some 15), .bin .add (.tmp 14) (.const (.int .i64 1)), none⟩,
⟨(some 6), .move (.tmp 15), none⟩])
 (.block 0
 (.loop none
 (.seq
 (.seq
 (.region [⟨(some 16), .move (.tmp 6), none⟩,
⟨(some 17), .move (.tmp 0), none⟩,
⟨(some 18), .lenSl (.tmp 17), none⟩,
⟨(some 19), .bin .lss (.tmp 16) (.tmp 18), none⟩])
 (.cond (.tmp 19)
 .skip
 (.exit 0)
)
)
 (.seq
 (.block 1
 (.seq
 (.region [⟨(some 22), .move (.tmp 0), none⟩,
⟨(some 23), .move (.tmp 6), none⟩,
⟨(some 24), .ixSl 3 (.tmp 22) (.tmp 23), none⟩,
⟨(some 25), .loadN 3 (.tmp 24), none⟩,
⟨(some 7), .new 127 #[(.int .i64 0), (.int .i64 0), (.int .i64 0)], none⟩,
⟨none, .store 3 (.tmp 7) (.tmp 25), none⟩])
 (.seq
 (.region [⟨(some 26), .move (.tmp 1), none⟩,
⟨(some 27), .loadN 3 (.tmp 7), none⟩,
⟨(some 28), .callV (.tmp 26) [(.tmp 27)], none⟩,
⟨(some 29), .un .not (.tmp 28), none⟩])
 (.cond (.tmp 29)
 (.seq
 (.region [⟨(some 30), .move (.tmp 0), none⟩,
⟨(some 31), .move (.tmp 5), none⟩,
⟨(some 32), .loadN 3 (.tmp 7), none⟩,
⟨(some 33), .ixSl 3 (.tmp 30) (.tmp 31), none⟩,
⟨none, .store 3 (.tmp 33) (.tmp 32), none⟩])
 (.region [⟨(some 34), .move (.tmp 5), none⟩,
⟨(some 35), .bin .add (.tmp 34) (.const (.int .i64 1)), none⟩,
⟨(some 5), .move (.tmp 35), none⟩])
)
 .skip
)
)
)
)
 (.region [⟨(some 20), .move (.tmp 6), none⟩,
⟨(some 21), .bin .add (.tmp 20) (.const (.int .i64 1)), none⟩,
⟨(some 6), .move (.tmp 21), none⟩])
)
)
)
)
)
 (.seq
 (.region [⟨(some 36), .move (.tmp 0), none⟩,
⟨(some 37), .move (.tmp 5), none⟩,
⟨(some 38), .sliceSl 3 (.tmp 36) (some (.tmp 37)) none none, none⟩,
⟨none, .clearSl #[(.int .i64 0), (.int .i64 0), (.int .i64 0)] (.tmp 38), none⟩])
 (.seq
 (.region [⟨(some 39), .move (.tmp 0), none⟩,
⟨(some 40), .move (.tmp 5), none⟩,
⟨(some 41), .sliceSl 3 (.tmp 39) none (some (.tmp 40)) none, none⟩,
⟨(some 4), .move (.tmp 41), none⟩])
 .ret
)
)
)
)
)
)
, [.tmp 4]⟩
theorem c_66 : plainFn Tryz.prog 66 = some a_66 := by kernel_rfl
-- (*haycroft/watch.Watch).answered
noncomputable def a_67 : AFun := ⟨43,
(.seq
 (.region [⟨(some 3), .box 127 (.tmp 1), none⟩,
⟨(some 4), .move (.const (.bool false)), none⟩])
 (.seq
 (.draw [⟨(some 8), .move (.tmp 0), none⟩,
⟨(some 9), .nilCheck (.tmp 8), none⟩,
⟨(some 10), .off 0 (.tmp 9), none⟩,
⟨(some 11), .load (.tmp 10), none⟩,
⟨(some 12), .off 0 (.tmp 3), none⟩,
⟨(some 13), .load (.tmp 12), none⟩,
⟨(some 14), .off 1 (.tmp 3), none⟩,
⟨(some 15), .load (.tmp 14), none⟩,
⟨(some 16), .call 9 [(.tmp 11), (.tmp 13), (.tmp 15)], none⟩,
⟨(some 7), .move (.tmp 16), none⟩,
⟨(some 17), .extract (.tmp 7) 0, none⟩,
⟨(some 18), .extract (.tmp 7) 1, none⟩,
⟨(some 5), .new 36 #[(.int .i64 0), (.string (strB []))], none⟩,
⟨none, .store 2 (.tmp 5) (.tmp 17), none⟩,
⟨(some 6), .move (.tmp 18), none⟩] [[], [], [], [], [], [], [], [], [], [], [], [], [8], [], []])
 (.seq
 (.seq
 (.region [⟨(some 19), .move (.tmp 6), none⟩])
 (.cond (.tmp 19)
 (.draw [⟨(some 20), .move (.tmp 0), none⟩,
⟨(some 21), .nilCheck (.tmp 20), none⟩,
⟨(some 22), .off 2 (.tmp 21), none⟩,
⟨(some 23), .load (.tmp 22), none⟩,
⟨(some 24), .off 2 (.tmp 3), none⟩,
⟨(some 25), .load (.tmp 24), none⟩,
⟨(some 26), .move (.tmp 0), none⟩,
⟨(some 27), .nilCheck (.tmp 26), none⟩,
⟨(some 28), .off 2 (.tmp 27), none⟩,
⟨(some 29), .load (.tmp 28), none⟩,
⟨(some 30), .off 2 (.tmp 3), none⟩,
⟨(some 31), .load (.tmp 30), none⟩,
⟨(some 32), .move (.tmp 0), none⟩,
⟨(some 33), .nilCheck (.tmp 32), none⟩,
⟨(some 34), .off 1 (.tmp 33), none⟩,
⟨(some 35), .load (.tmp 34), none⟩,
⟨(some 36), .bin .add (.tmp 35) (.const (.int .i64 1)), none⟩,
⟨(some 37), .loadN 2 (.tmp 5), none⟩,
⟨(some 38), .ixSl 8 (.tmp 23) (.tmp 25), none⟩,
⟨(some 39), .off 7 (.tmp 38), none⟩,
⟨none, .store 1 (.tmp 39) (.tmp 36), none⟩,
⟨(some 40), .ixSl 8 (.tmp 29) (.tmp 31), none⟩,
⟨(some 41), .off 4 (.tmp 40), none⟩,
⟨none, .store 2 (.tmp 41) (.tmp 37), none⟩] [[], [], [], [], [], [], [], [], [], [], [], [20], [], [], [], [], [], [20], [], [], [], [], [], []])
 .skip
)
)
 (.seq
 (.region [⟨(some 42), .move (.tmp 6), none⟩,
⟨(some 4), .move (.tmp 42), none⟩])
 .ret
)
)
)
)
, [.tmp 4]⟩
theorem c_67 : plainFn Tryz.prog 67 = some a_67 := by kernel_rfl
-- (*haycroft/watch.Watch).round
noncomputable def a_69 : AFun := ⟨39,
(.seq
 (.seq
 (.region [⟨(some 5), .move (.tmp 0), none⟩,
⟨(some 6), .nilCheck (.tmp 5), none⟩,
⟨(some 7), .off 0 (.tmp 6), none⟩,
⟨(some 8), .load (.tmp 7), none⟩,
⟨(some 9), .call 17 [(.tmp 8)], none⟩,
⟨(some 10), .field 5 (.tmp 9), none⟩,
⟨(some 11), .move (.const (.int .i64 0)), none⟩])
 (.block 0
 (.loop none
 (.seq
 (.region [⟨(some 12), .bin .lss (.tmp 11) (.tmp 10), none⟩])
 (.seq
 (.cond (.tmp 12)
 .skip
 (.exit 0)
)
 (.seq
 (.block 1
 (.seq
 (.region [⟨(some 13), .move (.tmp 11), none⟩,
⟨(some 2), .move (.tmp 13), none⟩])
 (.seq
 (.region [⟨(some 14), .move (.tmp 0), none⟩,
⟨(some 15), .move (.tmp 2), none⟩,
⟨(some 16), .build #[(.int .i64 0), (.int .i64 0), (.int .i64 0), (.int .i64 0), (.string (strB [])), (.string (strB [])), (.int .u64 0), (.slice none 0 0)] #[(0, 1), (1, 1), (2, 1), (3, 4), (7, 1)] [(0, (.const (.int .i64 2))), (1, (.tmp 15))], none⟩,
⟨(some 17), .call 23 [(.tmp 14), (.tmp 16)], none⟩])
 (.region [⟨(some 18), .move (.tmp 0), none⟩,
⟨(some 19), .move (.tmp 2), none⟩,
⟨(some 20), .build #[(.int .i64 0), (.int .i64 0), (.int .i64 0), (.int .i64 0), (.string (strB [])), (.string (strB [])), (.int .u64 0), (.slice none 0 0)] #[(0, 1), (1, 1), (2, 1), (3, 4), (7, 1)] [(0, (.const (.int .i64 3))), (1, (.tmp 19))], none⟩,
⟨(some 21), .call 23 [(.tmp 18), (.tmp 20)], none⟩])
)
)
)
 (.region [⟨(some 22), .bin .add (.tmp 11) (.const (.int .i64 1)), none⟩,
⟨(some 11), .move (.tmp 22), none⟩])
)
)
)
)
)
)
 (.seq
 (.region [⟨(some 23), .move (.tmp 0), none⟩,
⟨(some 24), .nilCheck (.tmp 23), none⟩,
⟨(some 25), .off 0 (.tmp 24), none⟩,
⟨(some 26), .load (.tmp 25), none⟩,
⟨(some 27), .call 20 [(.tmp 26)], none⟩,
⟨(some 28), .call 60 [(.tmp 27)], none⟩,
⟨(some 29), .lenSl (.tmp 28), none⟩,
⟨(some 30), .move (.const (.int .i64 0)), none⟩])
 (.block 2
 (.loop none
 (.seq
 (.region [⟨(some 31), .bin .lss (.tmp 30) (.tmp 29), none⟩])
 (.seq
 (.cond (.tmp 31)
 .skip
 (.exit 2)
)
 (.seq
 (.block 3
 (.seq
 (.region [⟨(some 32), .ixSl 1 (.tmp 28) (.tmp 30), none⟩,
⟨(some 33), .load (.tmp 32), none⟩,
⟨(some 4), .move (.tmp 33), none⟩])
 (.region [⟨(some 34), .move (.tmp 0), none⟩,
⟨(some 35), .move (.tmp 4), none⟩,
⟨(some 36), .build #[(.int .i64 0), (.int .i64 0), (.int .i64 0), (.int .i64 0), (.string (strB [])), (.string (strB [])), (.int .u64 0), (.slice none 0 0)] #[(0, 1), (1, 1), (2, 1), (3, 4), (7, 1)] [(0, (.const (.int .i64 4))), (2, (.tmp 35))], none⟩,
⟨(some 37), .call 23 [(.tmp 34), (.tmp 36)], none⟩])
)
)
 (.region [⟨(some 38), .bin .add (.tmp 30) (.const (.int .i64 1)), none⟩,
⟨(some 30), .move (.tmp 38), none⟩])
)
)
)
)
)
)
)
, []⟩
theorem c_69 : plainFn Tryz.prog 69 = some a_69 := by kernel_rfl
-- slices.Clone[[]haycroft/api.Event,haycroft/api.Event]
noncomputable def a_70 : AFun := ⟨8,
(.seq
 (.region [⟨(some 2), .move (.const (.slice none 0 0)), none⟩])
 (.seq
 (.seq
 (.region [⟨(some 3), .move (.tmp 0), none⟩,
⟨(some 4), .eq false .slice (.tmp 3) (.const (.slice none 0 0)), none⟩])
 (.cond (.tmp 4)
 (.seq
 (.region [⟨(some 2), .move (.const (.slice none 0 0)), none⟩])
 .ret
)
 .skip
)
)
 (.seq
 (.region [⟨(some 5), .buildSlice 122 8 0 #[] [], none⟩,
⟨(some 6), .move (.tmp 0), none⟩,
⟨(some 7), .append 122 8 88 (.tmp 5) (.tmp 6), none⟩,
⟨(some 2), .move (.tmp 7), none⟩])
 .ret
)
)
)
, [.tmp 2]⟩
theorem c_70 : plainFn Tryz.prog 70 = some a_70 := by kernel_rfl
-- haycroft/place.Offset
noncomputable def a_75 : AFun := ⟨9,
(.seq
 (.region [⟨(some 4), .move (.const (.int .i64 0)), none⟩])
 (.seq
 (.region [⟨(some 5), .move (.tmp 0), none⟩,
⟨(some 6), .move (.tmp 1), none⟩,
⟨(some 7), .move (.tmp 0), none⟩,
⟨(some 8), .call 135 [(.tmp 5), (.tmp 6), (.const (.int .i64 0)), (.tmp 7)], none⟩,
⟨(some 4), .move (.tmp 8), none⟩])
 .ret
)
)
, [.tmp 4]⟩
theorem c_75 : plainFn Tryz.prog 75 = some a_75 := by kernel_rfl
-- (*haycroft/index.Index).Look
noncomputable def a_86 : AFun := ⟨62,
(.seq
 (.region [⟨(some 2), .box 49 (.tmp 0), none⟩,
⟨(some 3), .box 24 (.tmp 1), none⟩,
⟨(some 4), .new 160 #[(.int .i64 0), (.int .i64 0), (.int .u64 0), (.int .i64 0)], none⟩,
⟨(some 5), .move (.const (.int .i64 0)), none⟩])
 (.seq
 (.seq
 (.region [⟨(some 10), .load (.tmp 2), none⟩,
⟨(some 11), .eq false .pointer (.tmp 10) (.const (.pointer none)), none⟩])
 (.cond (.tmp 11)
 (.seq
 (.region [⟨(some 12), .build #[(.int .i64 0), (.int .i64 0), (.int .u64 0), (.int .i64 0)] #[(0, 1), (1, 1), (2, 1), (3, 1)] [], none⟩,
⟨none, .store 4 (.tmp 4) (.tmp 12), none⟩,
⟨(some 5), .move (.const (.int .i64 2)), none⟩])
 .ret
)
 .skip
)
)
 (.seq
 (.draw [⟨(some 13), .load (.tmp 2), none⟩,
⟨(some 14), .load (.tmp 3), none⟩,
⟨(some 15), .load (.tmp 2), none⟩,
⟨(some 16), .nilCheck (.tmp 15), none⟩,
⟨(some 17), .off 0 (.tmp 16), none⟩,
⟨(some 18), .load (.tmp 17), none⟩,
⟨(some 19), .call 154 [(.tmp 14), (.tmp 18)], none⟩,
⟨(some 20), .call 150 [(.tmp 13), (.tmp 19)], none⟩,
⟨(some 6), .move (.tmp 20), none⟩] [[6], [], [], [], [], [], [], [], []])
 (.seq
 (.region [⟨(some 21), .move (.tmp 6), none⟩,
⟨(some 22), .move (.tmp 6), none⟩,
⟨(some 23), .lenSl (.tmp 22), none⟩,
⟨(some 24), .bin .sub (.tmp 23) (.const (.int .i64 1)), none⟩,
⟨(some 25), .ixSl 1 (.tmp 21) (.tmp 24), none⟩,
⟨(some 26), .load (.tmp 25), none⟩,
⟨(some 7), .move (.tmp 26), none⟩])
 (.seq
 (.region [⟨(some 27), .move (.tmp 6), none⟩,
⟨(some 28), .call 156 [(.tmp 27)], none⟩,
⟨(some 8), .move (.tmp 28), none⟩])
 (.seq
 (.region [⟨(some 29), .move (.tmp 8), none⟩,
⟨(some 30), .makeFunc 158 [] [(.tmp 2), (.tmp 3)], none⟩,
⟨(some 31), .call 157 [(.tmp 29), (.tmp 30)], none⟩,
⟨(some 9), .move (.tmp 31), none⟩])
 (.seq
 (.seq
 (.region [⟨(some 32), .move (.tmp 9), none⟩,
⟨(some 33), .bin .geq (.tmp 32) (.const (.int .i64 0)), none⟩])
 (.cond (.tmp 33)
 (.seq
 (.draw [⟨(some 34), .move (.tmp 8), none⟩,
⟨(some 35), .move (.tmp 9), none⟩,
⟨(some 36), .ixSl 1 (.tmp 34) (.tmp 35), none⟩,
⟨(some 37), .load (.tmp 36), none⟩,
⟨(some 38), .load (.tmp 2), none⟩,
⟨(some 39), .nilCheck (.tmp 38), none⟩,
⟨(some 40), .off 2 (.tmp 39), none⟩,
⟨(some 41), .load (.tmp 40), none⟩,
⟨(some 42), .move (.tmp 8), none⟩,
⟨(some 43), .move (.tmp 9), none⟩,
⟨(some 44), .ixSl 1 (.tmp 42) (.tmp 43), none⟩,
⟨(some 45), .load (.tmp 44), none⟩,
⟨(some 46), .call 160 [(.tmp 41), (.tmp 45)], none⟩,
⟨(some 47), .move (.tmp 7), none⟩,
⟨(some 48), .build #[(.int .i64 0), (.int .i64 0), (.int .u64 0), (.int .i64 0)] #[(0, 1), (1, 1), (2, 1), (3, 1)] [(0, (.const (.int .i64 1))), (1, (.tmp 37)), (2, (.tmp 46)), (3, (.tmp 47))], none⟩,
⟨none, .store 4 (.tmp 4) (.tmp 48), none⟩,
⟨(some 5), .move (.const (.int .i64 0)), none⟩] [[], [], [], [12], [], [], [], [], [], [], [], [], [], [], [], [], []])
 .ret
)
 .skip
)
)
 (.seq
 (.region [⟨(some 49), .move (.tmp 8), none⟩,
⟨(some 50), .makeFunc 161 [] [(.tmp 2)], none⟩,
⟨(some 51), .call 157 [(.tmp 49), (.tmp 50)], none⟩,
⟨(some 9), .move (.tmp 51), none⟩])
 (.seq
 (.seq
 (.region [⟨(some 52), .move (.tmp 9), none⟩,
⟨(some 53), .bin .geq (.tmp 52) (.const (.int .i64 0)), none⟩])
 (.cond (.tmp 53)
 (.seq
 (.region [⟨(some 54), .move (.tmp 8), none⟩,
⟨(some 55), .move (.tmp 9), none⟩,
⟨(some 56), .ixSl 1 (.tmp 54) (.tmp 55), none⟩,
⟨(some 57), .load (.tmp 56), none⟩,
⟨(some 58), .move (.tmp 7), none⟩,
⟨(some 59), .build #[(.int .i64 0), (.int .i64 0), (.int .u64 0), (.int .i64 0)] #[(0, 1), (1, 1), (2, 1), (3, 1)] [(0, (.const (.int .i64 2))), (1, (.tmp 57)), (3, (.tmp 58))], none⟩,
⟨none, .store 4 (.tmp 4) (.tmp 59), none⟩,
⟨(some 5), .move (.const (.int .i64 0)), none⟩])
 .ret
)
 .skip
)
)
 (.seq
 (.region [⟨(some 60), .move (.tmp 7), none⟩,
⟨(some 61), .build #[(.int .i64 0), (.int .i64 0), (.int .u64 0), (.int .i64 0)] #[(0, 1), (1, 1), (2, 1), (3, 1)] [(0, (.const (.int .i64 3))), (3, (.tmp 60))], none⟩,
⟨none, .store 4 (.tmp 4) (.tmp 61), none⟩,
⟨(some 5), .move (.const (.int .i64 0)), none⟩])
 .ret
)
)
)
)
)
)
)
)
)
)
, [.cell 4 (some 4), .tmp 5]⟩
theorem c_86 : plainFn Tryz.prog 86 = some a_86 := by kernel_rfl
-- haycroft/mix.Key
noncomputable def a_87 : AFun := ⟨32,
(.seq
 (.region [⟨(some 2), .move (.const (.int .u64 0)), none⟩])
 (.seq
 (.region [⟨(some 3), .move (.const (.int .u64 14695981039346656037)), none⟩])
 (.seq
 (.seq
 (.region [⟨(some 6), .move (.tmp 0), none⟩,
⟨(some 7), .lenStr (.tmp 6), none⟩,
⟨(some 8), .move (.const (.int .i64 0)), none⟩])
 (.block 0
 (.loop none
 (.seq
 (.region [⟨(some 9), .bin .lss (.tmp 8) (.tmp 7), none⟩])
 (.seq
 (.cond (.tmp 9)
 .skip
 (.exit 0)
)
 (.seq
 (.block 1
 (.seq
 (.region [⟨(some 10), .move (.tmp 8), none⟩,
⟨(some 4), .move (.tmp 10), none⟩])
 (.region [⟨(some 11), .move (.tmp 3), none⟩,
⟨(some 12), .move (.tmp 0), none⟩,
⟨(some 13), .move (.tmp 4), none⟩,
⟨(some 14), .ixStr (.tmp 12) (.tmp 13), none⟩,
⟨(some 15), .toInt .u64 (.tmp 14), none⟩,
⟨(some 16), .bin .xor (.tmp 11) (.tmp 15), none⟩,
⟨(some 17), .bin .mul (.tmp 16) (.const (.int .u64 1099511628211)), none⟩,
⟨(some 3), .move (.tmp 17), none⟩])
)
)
 (.region [⟨(some 18), .bin .add (.tmp 8) (.const (.int .i64 1)), none⟩,
⟨(some 8), .move (.tmp 18), none⟩])
)
)
)
)
)
)
 (.seq
 (.seq
 (.region [⟨(some 19), .move (.const (.int .i64 0)), none⟩])
 (.block 2
 (.loop none
 (.seq
 (.region [⟨(some 20), .bin .lss (.tmp 19) (.const (.int .i64 3)), none⟩])
 (.seq
 (.cond (.tmp 20)
 .skip
 (.exit 2)
)
 (.seq
 (.block 3
 (.seq
 (.region [⟨(some 21), .move (.tmp 19), none⟩,
⟨(some 5), .move (.tmp 21), none⟩])
 (.seq
 (.region [⟨(some 22), .move (.tmp 3), none⟩,
⟨(some 23), .move (.tmp 3), none⟩,
⟨(some 24), .bin .shr (.tmp 23) (.const (.int .u64 32)), none⟩,
⟨(some 25), .bin .xor (.tmp 22) (.tmp 24), none⟩,
⟨(some 3), .move (.tmp 25), none⟩])
 (.seq
 (.region [⟨(some 26), .move (.tmp 5), none⟩,
⟨(some 27), .bin .lss (.tmp 26) (.const (.int .i64 2)), none⟩])
 (.cond (.tmp 27)
 (.region [⟨(some 28), .move (.tmp 3), none⟩,
⟨(some 29), .bin .mul (.tmp 28) (.const (.int .u64 15480190943371904987)), none⟩,
⟨(some 3), .move (.tmp 29), none⟩])
 .skip
)
)
)
)
)
 (.region [⟨(some 30), .bin .add (.tmp 19) (.const (.int .i64 1)), none⟩,
⟨(some 19), .move (.tmp 30), none⟩])
)
)
)
)
)
)
 (.seq
 (.region [⟨(some 31), .move (.tmp 3), none⟩,
⟨(some 2), .move (.tmp 31), none⟩])
 .ret
)
)
)
)
)
, [.tmp 2]⟩
theorem c_87 : plainFn Tryz.prog 87 = some a_87 := by kernel_rfl
-- haycroft/entry.Unpack
noncomputable def a_88 : AFun := ⟨27,
(.seq
 (.region [⟨(some 2), .new 157 #[(.int .u64 0), (.int .u64 0), (.bool false)], none⟩,
⟨(some 3), .move (.const (.int .i64 0)), none⟩])
 (.seq
 (.region [⟨(some 5), .move (.tmp 0), none⟩,
⟨(some 6), .call 162 [(.tmp 5), (.const (.int .i64 0)), (.const (.int .i64 48))], none⟩,
⟨(some 7), .move (.tmp 0), none⟩,
⟨(some 8), .call 162 [(.tmp 7), (.const (.int .i64 48)), (.const (.int .i64 14))], none⟩,
⟨(some 9), .move (.tmp 0), none⟩,
⟨(some 10), .call 163 [(.tmp 9), (.const (.int .i64 62))], none⟩,
⟨(some 11), .build #[(.int .u64 0), (.int .u64 0), (.bool false)] #[(0, 1), (1, 1), (2, 1)] [(0, (.tmp 6)), (1, (.tmp 8)), (2, (.tmp 10))], none⟩,
⟨(some 4), .new 157 #[(.int .u64 0), (.int .u64 0), (.bool false)], none⟩,
⟨none, .store 3 (.tmp 4) (.tmp 11), none⟩])
 (.seq
 (.block 0
 (.seq
 (.region [⟨(some 13), .move (.tmp 0), none⟩,
⟨(some 14), .bin .eql (.tmp 13) (.const (.int .u64 0)), none⟩,
⟨(some 12), .move (.tmp 14), none⟩])
 (.cond (.tmp 12)
 (.seq
 (.region [⟨(some 15), .build #[(.int .u64 0), (.int .u64 0), (.bool false)] #[(0, 1), (1, 1), (2, 1)] [], none⟩,
⟨none, .store 3 (.tmp 2) (.tmp 15), none⟩,
⟨(some 3), .move (.const (.int .i64 7)), none⟩])
 .ret
)
 (.seq
 (.region [⟨(some 17), .move (.tmp 0), none⟩,
⟨(some 18), .call 163 [(.tmp 17), (.const (.int .i64 63))], none⟩,
⟨(some 19), .un .not (.tmp 18), none⟩,
⟨(some 20), .move (.tmp 19), none⟩,
⟨(some 21), .loadN 3 (.tmp 4), (some (20, false))⟩,
⟨(some 22), .call 164 [(.tmp 21)], (some (20, false))⟩,
⟨(some 23), .un .not (.tmp 22), (some (20, false))⟩,
⟨(some 24), .pick (.tmp 20) (.const (.bool true)) (.tmp 23), none⟩,
⟨(some 16), .move (.tmp 24), none⟩])
 (.cond (.tmp 16)
 (.seq
 (.region [⟨(some 25), .build #[(.int .u64 0), (.int .u64 0), (.bool false)] #[(0, 1), (1, 1), (2, 1)] [], none⟩,
⟨none, .store 3 (.tmp 2) (.tmp 25), none⟩,
⟨(some 3), .move (.const (.int .i64 4)), none⟩])
 .ret
)
 .skip
)
)
)
)
)
 (.seq
 (.region [⟨(some 26), .loadN 3 (.tmp 4), none⟩,
⟨none, .store 3 (.tmp 2) (.tmp 26), none⟩,
⟨(some 3), .move (.const (.int .i64 0)), none⟩])
 .ret
)
)
)
)
, [.cell 2 (some 3), .tmp 3]⟩
theorem c_88 : plainFn Tryz.prog 88 = some a_88 := by kernel_rfl
-- (*haycroft/session.Session).Ask
noncomputable def a_93 : AFun := ⟨82,
(.seq
 (.region [⟨(some 3), .box 26 (.tmp 1), none⟩,
⟨(some 4), .move (.const (.int .i64 0)), none⟩,
⟨(some 5), .move (.const (.int .i64 0)), none⟩])
 (.seq
 (.block 0
 (.seq
 (.region [⟨(some 9), .move (.tmp 0), none⟩,
⟨(some 10), .eq false .pointer (.tmp 9) (.const (.pointer none)), none⟩,
⟨(some 8), .move (.tmp 10), none⟩])
 (.cond (.tmp 8)
 (.seq
 (.region [⟨(some 4), .move (.const (.int .i64 0)), none⟩,
⟨(some 5), .move (.const (.int .i64 2)), none⟩])
 .ret
)
 (.seq
 (.region [⟨(some 12), .move (.tmp 0), none⟩,
⟨(some 13), .nilCheck (.tmp 12), none⟩,
⟨(some 14), .off 5 (.tmp 13), none⟩,
⟨(some 15), .load (.tmp 14), none⟩,
⟨(some 16), .eq true .pointer (.tmp 15) (.const (.pointer none)), none⟩,
⟨(some 11), .move (.tmp 16), none⟩])
 (.cond (.tmp 11)
 (.seq
 (.region [⟨(some 4), .move (.const (.int .i64 0)), none⟩,
⟨(some 5), .move (.const (.int .i64 10)), none⟩])
 .ret
)
 (.seq
 (.region [⟨(some 18), .move (.tmp 0), none⟩,
⟨(some 19), .nilCheck (.tmp 18), none⟩,
⟨(some 20), .off 6 (.tmp 19), none⟩,
⟨(some 21), .load (.tmp 20), none⟩,
⟨(some 22), .lenSl (.tmp 21), none⟩,
⟨(some 23), .bin .geq (.tmp 22) (.const (.int .i64 8)), none⟩,
⟨(some 17), .move (.tmp 23), none⟩])
 (.cond (.tmp 17)
 (.seq
 (.region [⟨(some 4), .move (.const (.int .i64 0)), none⟩,
⟨(some 5), .move (.const (.int .i64 9)), none⟩])
 .ret
)
 .skip
)
)
)
)
)
)
)
 (.seq
 (.draw [⟨(some 25), .move (.tmp 0), none⟩,
⟨(some 26), .nilCheck (.tmp 25), none⟩,
⟨(some 27), .off 0 (.tmp 26), none⟩,
⟨(some 28), .load (.tmp 27), none⟩,
⟨(some 29), .move (.tmp 0), none⟩,
⟨(some 30), .nilCheck (.tmp 29), none⟩,
⟨(some 31), .off 1 (.tmp 30), none⟩,
⟨(some 32), .load (.tmp 31), none⟩,
⟨(some 33), .move (.tmp 0), none⟩,
⟨(some 34), .nilCheck (.tmp 33), none⟩,
⟨(some 35), .off 2 (.tmp 34), none⟩,
⟨(some 36), .load (.tmp 35), none⟩,
⟨(some 37), .loadN 4 (.tmp 3), none⟩,
⟨(some 38), .move (.tmp 0), none⟩,
⟨(some 39), .nilCheck (.tmp 38), none⟩,
⟨(some 40), .off 7 (.tmp 39), none⟩,
⟨(some 41), .load (.tmp 40), none⟩,
⟨(some 42), .call 175 [(.tmp 28), (.tmp 32), (.tmp 36), (.tmp 37), (.tmp 41)], none⟩,
⟨(some 24), .move (.tmp 42), none⟩,
⟨(some 43), .extract (.tmp 24) 0, none⟩,
⟨(some 44), .extract (.tmp 24) 1, none⟩,
⟨(some 6), .move (.tmp 43), none⟩,
⟨(some 7), .move (.tmp 44), none⟩] [[], [], [], [], [], [], [], [], [], [], [], [], [], [], [], [], [], [], [], [], [], [], []])
 (.seq
 (.block 1
 (.seq
 (.region [⟨(some 46), .move (.tmp 7), none⟩,
⟨(some 47), .bin .neq (.tmp 46) (.const (.int .i64 0)), none⟩,
⟨(some 45), .move (.tmp 47), none⟩])
 (.cond (.tmp 45)
 (.seq
 (.region [⟨(some 48), .move (.tmp 7), none⟩,
⟨(some 4), .move (.const (.int .i64 0)), none⟩,
⟨(some 5), .move (.tmp 48), none⟩])
 .ret
)
 (.seq
 (.region [⟨(some 50), .move (.tmp 0), none⟩,
⟨(some 51), .nilCheck (.tmp 50), none⟩,
⟨(some 52), .off 3 (.tmp 51), none⟩,
⟨(some 53), .load (.tmp 52), none⟩,
⟨(some 54), .bin .geq (.tmp 53) (.const (.int .i64 1073741824)), none⟩,
⟨(some 49), .move (.tmp 54), none⟩])
 (.cond (.tmp 49)
 (.seq
 (.region [⟨(some 4), .move (.const (.int .i64 0)), none⟩,
⟨(some 5), .move (.const (.int .i64 13)), none⟩])
 .ret
)
 .skip
)
)
)
)
)
 (.seq
 (.region [⟨(some 55), .move (.tmp 0), none⟩,
⟨(some 56), .nilCheck (.tmp 55), none⟩,
⟨(some 57), .off 3 (.tmp 56), none⟩,
⟨(some 58), .load (.tmp 57), none⟩,
⟨(some 59), .bin .add (.tmp 58) (.const (.int .i64 1)), none⟩,
⟨(some 60), .nilCheck (.tmp 55), none⟩,
⟨(some 61), .off 3 (.tmp 60), none⟩,
⟨none, .store 1 (.tmp 61) (.tmp 59), none⟩])
 (.seq
 (.region [⟨(some 62), .move (.tmp 0), none⟩,
⟨(some 63), .nilCheck (.tmp 62), none⟩,
⟨(some 64), .off 4 (.tmp 63), none⟩,
⟨none, .store 1 (.tmp 64) (.const (.bool true)), none⟩])
 (.seq
 (.region [⟨(some 65), .move (.tmp 0), none⟩,
⟨(some 66), .move (.tmp 0), none⟩,
⟨(some 67), .move (.tmp 0), none⟩,
⟨(some 68), .nilCheck (.tmp 67), none⟩,
⟨(some 69), .off 3 (.tmp 68), none⟩,
⟨(some 70), .load (.tmp 69), none⟩,
⟨(some 71), .move (.tmp 6), none⟩,
⟨(some 72), .build #[(.int .i64 0), (.pointer none), (.int .i64 0)] #[(0, 1), (1, 1), (2, 1)] [(0, (.tmp 70)), (1, (.tmp 71))], none⟩,
⟨(some 73), .box 181 (.tmp 72), none⟩,
⟨(some 74), .nilCheck (.tmp 65), none⟩,
⟨(some 75), .off 5 (.tmp 74), none⟩,
⟨none, .store 1 (.tmp 75) (.tmp 73), none⟩,
⟨(some 76), .nilCheck (.tmp 66), none⟩,
⟨(some 77), .off 7 (.tmp 76), none⟩,
⟨none, .store 1 (.tmp 77) (.const (.int .i64 0)), none⟩])
 (.seq
 (.region [⟨(some 78), .move (.tmp 0), none⟩,
⟨(some 79), .nilCheck (.tmp 78), none⟩,
⟨(some 80), .off 3 (.tmp 79), none⟩,
⟨(some 81), .load (.tmp 80), none⟩,
⟨(some 4), .move (.tmp 81), none⟩,
⟨(some 5), .move (.const (.int .i64 0)), none⟩])
 .ret
)
)
)
)
)
)
)
)
, [.tmp 4, .tmp 5]⟩
theorem c_93 : plainFn Tryz.prog 93 = some a_93 := by kernel_rfl
-- (*haycroft/task.Task).Want
noncomputable def a_94 : AFun := ⟨23,
(.seq
 (.region [⟨(some 2), .move (.const (.int .u64 0)), none⟩,
⟨(some 3), .move (.const (.bool false)), none⟩])
 (.seq
 (.seq
 (.region [⟨(some 4), .move (.tmp 0), none⟩,
⟨(some 5), .eq false .pointer (.tmp 4) (.const (.pointer none)), none⟩,
⟨(some 6), .move (.tmp 5), none⟩,
⟨(some 7), .move (.tmp 0), (some (6, false))⟩,
⟨(some 8), .nilCheck (.tmp 7), (some (6, false))⟩,
⟨(some 9), .off 20 (.tmp 8), (some (6, false))⟩,
⟨(some 10), .load (.tmp 9), (some (6, false))⟩,
⟨(some 11), .pick (.tmp 6) (.const (.bool true)) (.tmp 10), none⟩,
⟨(some 12), .move (.tmp 11), none⟩,
⟨(some 13), .move (.tmp 0), (some (12, false))⟩,
⟨(some 14), .nilCheck (.tmp 13), (some (12, false))⟩,
⟨(some 15), .off 19 (.tmp 14), (some (12, false))⟩,
⟨(some 16), .load (.tmp 15), (some (12, false))⟩,
⟨(some 17), .un .not (.tmp 16), (some (12, false))⟩,
⟨(some 18), .pick (.tmp 12) (.const (.bool true)) (.tmp 17), none⟩])
 (.cond (.tmp 18)
 (.seq
 (.region [⟨(some 2), .move (.const (.int .u64 0)), none⟩,
⟨(some 3), .move (.const (.bool false)), none⟩])
 .ret
)
 .skip
)
)
 (.seq
 (.region [⟨(some 19), .move (.tmp 0), none⟩,
⟨(some 20), .nilCheck (.tmp 19), none⟩,
⟨(some 21), .off 13 (.tmp 20), none⟩,
⟨(some 22), .load (.tmp 21), none⟩,
⟨(some 2), .move (.tmp 22), none⟩,
⟨(some 3), .move (.const (.bool true)), none⟩])
 .ret
)
)
)
, [.tmp 2, .tmp 3]⟩
theorem c_94 : plainFn Tryz.prog 94 = some a_94 := by kernel_rfl
noncomputable def L0 : List (Nat × AFun) := [(4, a_4), (8, a_8), (9, a_9), (10, a_10), (11, a_11), (14, a_14), (17, a_17), (20, a_20), (21, a_21), (22, a_22), (23, a_23), (24, a_24), (25, a_25), (26, a_26), (27, a_27), (28, a_28), (29, a_29), (30, a_30), (31, a_31), (43, a_43), (44, a_44), (45, a_45), (46, a_46), (47, a_47), (55, a_55), (56, a_56), (57, a_57), (58, a_58), (59, a_59), (60, a_60), (64, a_64), (65, a_65), (66, a_66), (67, a_67), (69, a_69), (70, a_70), (75, a_75), (86, a_86), (87, a_87), (88, a_88), (93, a_93), (94, a_94)]
theorem L0_ok : ∀ p ∈ L0, plainFn Tryz.prog p.1 = some p.2 := List.forall_mem_cons.2 ⟨c_4, List.forall_mem_cons.2 ⟨c_8, List.forall_mem_cons.2 ⟨c_9, List.forall_mem_cons.2 ⟨c_10, List.forall_mem_cons.2 ⟨c_11, List.forall_mem_cons.2 ⟨c_14, List.forall_mem_cons.2 ⟨c_17, List.forall_mem_cons.2 ⟨c_20, List.forall_mem_cons.2 ⟨c_21, List.forall_mem_cons.2 ⟨c_22, List.forall_mem_cons.2 ⟨c_23, List.forall_mem_cons.2 ⟨c_24, List.forall_mem_cons.2 ⟨c_25, List.forall_mem_cons.2 ⟨c_26, List.forall_mem_cons.2 ⟨c_27, List.forall_mem_cons.2 ⟨c_28, List.forall_mem_cons.2 ⟨c_29, List.forall_mem_cons.2 ⟨c_30, List.forall_mem_cons.2 ⟨c_31, List.forall_mem_cons.2 ⟨c_43, List.forall_mem_cons.2 ⟨c_44, List.forall_mem_cons.2 ⟨c_45, List.forall_mem_cons.2 ⟨c_46, List.forall_mem_cons.2 ⟨c_47, List.forall_mem_cons.2 ⟨c_55, List.forall_mem_cons.2 ⟨c_56, List.forall_mem_cons.2 ⟨c_57, List.forall_mem_cons.2 ⟨c_58, List.forall_mem_cons.2 ⟨c_59, List.forall_mem_cons.2 ⟨c_60, List.forall_mem_cons.2 ⟨c_64, List.forall_mem_cons.2 ⟨c_65, List.forall_mem_cons.2 ⟨c_66, List.forall_mem_cons.2 ⟨c_67, List.forall_mem_cons.2 ⟨c_69, List.forall_mem_cons.2 ⟨c_70, List.forall_mem_cons.2 ⟨c_75, List.forall_mem_cons.2 ⟨c_86, List.forall_mem_cons.2 ⟨c_87, List.forall_mem_cons.2 ⟨c_88, List.forall_mem_cons.2 ⟨c_93, List.forall_mem_cons.2 ⟨c_94, fun _ h => (nomatch h)⟩⟩⟩⟩⟩⟩⟩⟩⟩⟩⟩⟩⟩⟩⟩⟩⟩⟩⟩⟩⟩⟩⟩⟩⟩⟩⟩⟩⟩⟩⟩⟩⟩⟩⟩⟩⟩⟩⟩⟩⟩⟩
end Go.Aev.LitW
