import Derived.Test.YtipdgghfkdlfmaaDoorInkBB
set_option linter.all false
namespace Ink.D
open Go
/-- inkstand/inkstandlaw03.LexWrites -/
def ac4 : AF := ⟨24, [.tmp 2],
 .seq (.region [⟨(some 2), .move (.av (.bool false)), none, false⟩] false)
 (.seq (.region [⟨(some 4), .call (.av (.fn (.func 15) [] [])) [], none, false⟩,
 ⟨(some 3), .move (.tmp 4), none, false⟩] false)
 (.seq (.seq (.region [⟨(some 5), .move (.tmp 0), none, false⟩,
 ⟨(some 6), .len .str (.tmp 5), none, false⟩,
 ⟨(some 7), .bin .gtr .other true (.tmp 6) (.av (.int .i64 1000)), none, false⟩] false)
 (.cond (.tmp 7)
 (.seq (.region [⟨(some 8), .move (.tmp 3), none, false⟩,
 ⟨(some 2), .move (.tmp 8), none, false⟩] false)
 (.ret))
 (.skip)))
 (.seq (.region [⟨(some 9), .move (.tmp 3), none, false⟩,
 ⟨(some 10), .move (.tmp 9), none, false⟩,
 ⟨(some 11), .move (.tmp 0), (some (10, true)), false⟩,
 ⟨(some 12), .call (.av (.fn (.func 26) [] [])) [(.tmp 11)], (some (10, true)), false⟩,
 ⟨(some 13), .move (.tmp 0), (some (10, true)), false⟩,
 ⟨(some 14), .call (.av (.fn (.func 27) [] [])) [(.tmp 13)], (some (10, true)), false⟩,
 ⟨(some 15), .bin .eql .other false (.tmp 12) (.tmp 14), (some (10, true)), false⟩,
 ⟨(some 16), .pick (.tmp 10) (.tmp 15) (.av (.bool false)), none, false⟩,
 ⟨(some 17), .move (.tmp 16), none, false⟩,
 ⟨(some 18), .move (.tmp 0), (some (17, true)), false⟩,
 ⟨(some 19), .call (.av (.fn (.func 28) [] [])) [(.tmp 18)], (some (17, true)), false⟩,
 ⟨(some 20), .move (.tmp 0), (some (17, true)), false⟩,
 ⟨(some 21), .call (.av (.fn (.func 29) [] [])) [(.tmp 20)], (some (17, true)), false⟩,
 ⟨(some 22), .bin .eql .other false (.tmp 19) (.tmp 21), (some (17, true)), false⟩,
 ⟨(some 23), .pick (.tmp 17) (.tmp 22) (.av (.bool false)), none, false⟩,
 ⟨(some 2), .move (.tmp 23), none, false⟩] false)
 (.ret))))⟩
/-- inkstand/inkstandlaw03.LexBack -/
def ac5 : AF := ⟨103, [.tmp 4],
 .seq (.region [⟨(some 4), .move (.av (.bool false)), none, false⟩] false)
 (.seq (.region [⟨(some 14), .call (.av (.fn (.func 15) [] [])) [], none, false⟩,
 ⟨(some 5), .move (.tmp 14), none, false⟩] false)
 (.seq (.seq (.region [⟨(some 15), .move (.tmp 0), none, false⟩,
 ⟨(some 16), .len .str (.tmp 15), none, false⟩,
 ⟨(some 17), .bin .gtr .other true (.tmp 16) (.av (.int .i64 500)), none, false⟩,
 ⟨(some 18), .move (.tmp 17), none, false⟩,
 ⟨(some 19), .move (.tmp 1), (some (18, false)), false⟩,
 ⟨(some 20), .len .str (.tmp 19), (some (18, false)), false⟩,
 ⟨(some 21), .bin .gtr .other true (.tmp 20) (.av (.int .i64 300)), (some (18, false)), false⟩,
 ⟨(some 22), .pick (.tmp 18) (.av (.bool true)) (.tmp 21), none, false⟩] false)
 (.cond (.tmp 22)
 (.seq (.region [⟨(some 23), .move (.tmp 5), none, false⟩,
 ⟨(some 4), .move (.tmp 23), none, false⟩] false)
 (.ret))
 (.skip)))
 (.seq (.region [⟨(some 24), .move (.tmp 0), none, false⟩,
 ⟨(some 25), .call (.av (.fn (.func 26) [] [])) [(.tmp 24)], none, false⟩,
 ⟨(some 6), .move (.tmp 25), none, false⟩] false)
 (.seq (.region [⟨(some 26), .move (.tmp 0), none, false⟩,
 ⟨(some 27), .call (.av (.fn (.func 28) [] [])) [(.tmp 26)], none, false⟩,
 ⟨(some 7), .move (.tmp 27), none, false⟩] false)
 (.seq (.region [⟨(some 29), .move (.tmp 6), none, false⟩,
 ⟨(some 30), .move (.tmp 1), none, false⟩,
 ⟨(some 31), .bin .add .other false (.tmp 29) (.tmp 30), none, false⟩,
 ⟨(some 32), .call (.av (.fn (.func 16) [] [])) [(.tmp 31), (.av (.int .i64 0))], none, false⟩,
 ⟨(some 28), .move (.tmp 32), none, false⟩,
 ⟨(some 33), .extract (.tmp 28) 0, none, false⟩,
 ⟨(some 34), .extract (.tmp 28) 1, none, false⟩,
 ⟨(some 8), .alloc 25 [(.int .i64 0), (.int .i64 0), (.str []), (.bool false), (.int .i64 0), (.int .i64 0)], none, false⟩,
 ⟨none, .store 6 (.tmp 8) (.tmp 33), none, false⟩,
 ⟨(some 9), .move (.tmp 34), none, false⟩] false)
 (.seq (.region [⟨(some 36), .move (.tmp 7), none, false⟩,
 ⟨(some 37), .bin .add .other false (.tmp 36) (.av (.str [32])), none, false⟩,
 ⟨(some 38), .move (.tmp 1), none, false⟩,
 ⟨(some 39), .bin .add .other false (.tmp 37) (.tmp 38), none, false⟩,
 ⟨(some 40), .call (.av (.fn (.func 16) [] [])) [(.tmp 39), (.av (.int .i64 0))], none, false⟩,
 ⟨(some 35), .move (.tmp 40), none, false⟩,
 ⟨(some 41), .extract (.tmp 35) 0, none, false⟩,
 ⟨(some 42), .extract (.tmp 35) 1, none, false⟩,
 ⟨(some 10), .alloc 25 [(.int .i64 0), (.int .i64 0), (.str []), (.bool false), (.int .i64 0), (.int .i64 0)], none, false⟩,
 ⟨none, .store 6 (.tmp 10) (.tmp 41), none, false⟩,
 ⟨(some 11), .move (.tmp 42), none, false⟩] false)
 (.seq (.region [⟨(some 44), .move (.tmp 7), none, false⟩,
 ⟨(some 45), .call (.av (.fn (.func 16) [] [])) [(.tmp 44), (.av (.int .i64 0))], none, false⟩,
 ⟨(some 43), .move (.tmp 45), none, false⟩,
 ⟨(some 46), .extract (.tmp 43) 0, none, false⟩,
 ⟨(some 47), .extract (.tmp 43) 1, none, false⟩,
 ⟨(some 12), .alloc 25 [(.int .i64 0), (.int .i64 0), (.str []), (.bool false), (.int .i64 0), (.int .i64 0)], none, false⟩,
 ⟨none, .store 6 (.tmp 12) (.tmp 46), none, false⟩,
 ⟨(some 13), .move (.tmp 47), none, false⟩] false)
 (.seq (.region [⟨(some 48), .move (.tmp 5), none, false⟩,
 ⟨(some 49), .move (.tmp 48), none, false⟩,
 ⟨(some 50), .move (.tmp 9), (some (49, true)), false⟩,
 ⟨(some 51), .bin .eql .other true (.tmp 50) (.av (.int .i64 0)), (some (49, true)), false⟩,
 ⟨(some 52), .pick (.tmp 49) (.tmp 51) (.av (.bool false)), none, false⟩,
 ⟨(some 53), .move (.tmp 52), none, false⟩,
 ⟨(some 54), .fieldAddr 0 (.tmp 8), (some (53, true)), false⟩,
 ⟨(some 55), .load none (.tmp 54), (some (53, true)), false⟩,
 ⟨(some 56), .bin .eql .other true (.tmp 55) (.av (.int .i64 3)), (some (53, true)), false⟩,
 ⟨(some 57), .pick (.tmp 53) (.tmp 56) (.av (.bool false)), none, false⟩,
 ⟨(some 58), .move (.tmp 57), none, false⟩,
 ⟨(some 59), .fieldAddr 2 (.tmp 8), (some (58, true)), false⟩,
 ⟨(some 60), .load none (.tmp 59), (some (58, true)), false⟩,
 ⟨(some 61), .move (.tmp 0), (some (58, true)), false⟩,
 ⟨(some 62), .bin .eql .other false (.tmp 60) (.tmp 61), (some (58, true)), false⟩,
 ⟨(some 63), .pick (.tmp 58) (.tmp 62) (.av (.bool false)), none, false⟩,
 ⟨(some 64), .move (.tmp 63), none, false⟩,
 ⟨(some 65), .fieldAddr 5 (.tmp 8), (some (64, true)), false⟩,
 ⟨(some 66), .load none (.tmp 65), (some (64, true)), false⟩,
 ⟨(some 67), .move (.tmp 6), (some (64, true)), false⟩,
 ⟨(some 68), .len .str (.tmp 67), (some (64, true)), false⟩,
 ⟨(some 69), .bin .eql .other true (.tmp 66) (.tmp 68), (some (64, true)), false⟩,
 ⟨(some 70), .pick (.tmp 64) (.tmp 69) (.av (.bool false)), none, false⟩,
 ⟨(some 71), .move (.tmp 70), none, false⟩,
 ⟨(some 72), .move (.tmp 11), (some (71, true)), false⟩,
 ⟨(some 73), .bin .eql .other true (.tmp 72) (.av (.int .i64 0)), (some (71, true)), false⟩,
 ⟨(some 74), .pick (.tmp 71) (.tmp 73) (.av (.bool false)), none, false⟩,
 ⟨(some 75), .move (.tmp 74), none, false⟩,
 ⟨(some 76), .fieldAddr 0 (.tmp 10), (some (75, true)), false⟩,
 ⟨(some 77), .load none (.tmp 76), (some (75, true)), false⟩,
 ⟨(some 78), .bin .eql .other true (.tmp 77) (.av (.int .i64 2)), (some (75, true)), false⟩,
 ⟨(some 79), .pick (.tmp 75) (.tmp 78) (.av (.bool false)), none, false⟩,
 ⟨(some 80), .move (.tmp 79), none, false⟩,
 ⟨(some 81), .fieldAddr 2 (.tmp 10), (some (80, true)), false⟩,
 ⟨(some 82), .load none (.tmp 81), (some (80, true)), false⟩,
 ⟨(some 83), .move (.tmp 0), (some (80, true)), false⟩,
 ⟨(some 84), .bin .eql .other false (.tmp 82) (.tmp 83), (some (80, true)), false⟩,
 ⟨(some 85), .pick (.tmp 80) (.tmp 84) (.av (.bool false)), none, false⟩,
 ⟨(some 86), .move (.tmp 85), none, false⟩,
 ⟨(some 87), .fieldAddr 5 (.tmp 10), (some (86, true)), false⟩,
 ⟨(some 88), .load none (.tmp 87), (some (86, true)), false⟩,
 ⟨(some 89), .move (.tmp 7), (some (86, true)), false⟩,
 ⟨(some 90), .len .str (.tmp 89), (some (86, true)), false⟩,
 ⟨(some 91), .bin .eql .other true (.tmp 88) (.tmp 90), (some (86, true)), false⟩,
 ⟨(some 92), .pick (.tmp 86) (.tmp 91) (.av (.bool false)), none, false⟩,
 ⟨(some 93), .move (.tmp 92), none, false⟩,
 ⟨(some 94), .move (.tmp 13), (some (93, true)), false⟩,
 ⟨(some 95), .bin .eql .other true (.tmp 94) (.av (.int .i64 0)), (some (93, true)), false⟩,
 ⟨(some 96), .pick (.tmp 93) (.tmp 95) (.av (.bool false)), none, false⟩,
 ⟨(some 97), .move (.tmp 96), none, false⟩,
 ⟨(some 98), .fieldAddr 2 (.tmp 12), (some (97, true)), false⟩,
 ⟨(some 99), .load none (.tmp 98), (some (97, true)), false⟩,
 ⟨(some 100), .move (.tmp 0), (some (97, true)), false⟩,
 ⟨(some 101), .bin .eql .other false (.tmp 99) (.tmp 100), (some (97, true)), false⟩,
 ⟨(some 102), .pick (.tmp 97) (.tmp 101) (.av (.bool false)), none, false⟩,
 ⟨(some 4), .move (.tmp 102), none, false⟩] false)
 (.ret)))))))))⟩
/-- inkstand/inkstandlaw03.LexSpaces -/
def ac6 : AF := ⟨113, [.tmp 4],
 .seq (.region [⟨(some 4), .move (.av (.bool false)), none, false⟩] false)
 (.seq (.region [⟨(some 13), .call (.av (.fn (.func 15) [] [])) [], none, false⟩,
 ⟨(some 5), .move (.tmp 13), none, false⟩] false)
 (.seq (.seq (.region [⟨(some 14), .move (.tmp 0), none, false⟩,
 ⟨(some 15), .len .str (.tmp 14), none, false⟩,
 ⟨(some 16), .bin .gtr .other true (.tmp 15) (.av (.int .i64 500)), none, false⟩,
 ⟨(some 17), .move (.tmp 16), none, false⟩,
 ⟨(some 18), .move (.tmp 1), (some (17, false)), false⟩,
 ⟨(some 19), .len .str (.tmp 18), (some (17, false)), false⟩,
 ⟨(some 20), .bin .gtr .other true (.tmp 19) (.av (.int .i64 200)), (some (17, false)), false⟩,
 ⟨(some 21), .pick (.tmp 17) (.av (.bool true)) (.tmp 20), none, false⟩] false)
 (.cond (.tmp 21)
 (.seq (.region [⟨(some 22), .move (.tmp 5), none, false⟩,
 ⟨(some 4), .move (.tmp 22), none, false⟩] false)
 (.ret))
 (.skip)))
 (.seq (.seq (.region [⟨(some 6), .move (.av (.int .i64 0)), none, false⟩] false)
 (.block 0
 (.loop
 (.seq (.seq (.region [⟨(some 23), .move (.tmp 6), none, false⟩,
 ⟨(some 24), .move (.tmp 1), none, false⟩,
 ⟨(some 25), .len .str (.tmp 24), none, false⟩,
 ⟨(some 26), .bin .lss .other true (.tmp 23) (.tmp 25), none, false⟩] false)
 (.cond (.tmp 26)
 (.skip)
 (.exit 0)))
 (.seq (.block 1
 (.seq (.region [⟨(some 29), .move (.tmp 1), none, false⟩,
 ⟨(some 30), .move (.tmp 6), none, false⟩,
 ⟨(some 31), .indexStr (.tmp 29) (.tmp 30), none, false⟩,
 ⟨(some 32), .bin .eql .other false (.tmp 31) (.av (.int .u8 10)), none, false⟩,
 ⟨(some 33), .move (.tmp 32), none, false⟩,
 ⟨(some 34), .move (.tmp 1), (some (33, false)), false⟩,
 ⟨(some 35), .move (.tmp 6), (some (33, false)), false⟩,
 ⟨(some 36), .indexStr (.tmp 34) (.tmp 35), (some (33, false)), false⟩,
 ⟨(some 37), .bin .eql .other false (.tmp 36) (.av (.int .u8 13)), (some (33, false)), false⟩,
 ⟨(some 38), .pick (.tmp 33) (.av (.bool true)) (.tmp 37), none, false⟩] false)
 (.cond (.tmp 38)
 (.seq (.region [⟨(some 39), .move (.tmp 5), none, false⟩,
 ⟨(some 4), .move (.tmp 39), none, false⟩] false)
 (.ret))
 (.skip))))
 (.region [⟨(some 27), .move (.tmp 6), none, false⟩,
 ⟨(some 28), .bin .add .other true (.tmp 27) (.av (.int .i64 1)), none, false⟩,
 ⟨(some 6), .move (.tmp 28), none, false⟩] false))))))
 (.seq (.region [⟨(some 40), .move (.tmp 1), none, false⟩,
 ⟨(some 41), .bin .add .other false (.av (.str [32, 9, 37])) (.tmp 40), none, false⟩,
 ⟨(some 42), .bin .add .other false (.tmp 41) (.av (.str [10, 0])), none, false⟩,
 ⟨(some 7), .move (.tmp 42), none, false⟩] false)
 (.seq (.region [⟨(some 44), .move (.tmp 0), none, false⟩,
 ⟨(some 45), .call (.av (.fn (.func 16) [] [])) [(.tmp 44), (.av (.int .i64 0))], none, false⟩,
 ⟨(some 43), .move (.tmp 45), none, false⟩,
 ⟨(some 46), .extract (.tmp 43) 0, none, false⟩,
 ⟨(some 47), .extract (.tmp 43) 1, none, false⟩,
 ⟨(some 8), .alloc 25 [(.int .i64 0), (.int .i64 0), (.str []), (.bool false), (.int .i64 0), (.int .i64 0)], none, false⟩,
 ⟨none, .store 6 (.tmp 8) (.tmp 46), none, false⟩,
 ⟨(some 9), .move (.tmp 47), none, false⟩] false)
 (.seq (.region [⟨(some 49), .move (.tmp 7), none, false⟩,
 ⟨(some 50), .move (.tmp 0), none, false⟩,
 ⟨(some 51), .bin .add .other false (.tmp 49) (.tmp 50), none, false⟩,
 ⟨(some 52), .call (.av (.fn (.func 16) [] [])) [(.tmp 51), (.av (.int .i64 0))], none, false⟩,
 ⟨(some 48), .move (.tmp 52), none, false⟩,
 ⟨(some 53), .extract (.tmp 48) 0, none, false⟩,
 ⟨(some 54), .extract (.tmp 48) 1, none, false⟩,
 ⟨(some 10), .alloc 25 [(.int .i64 0), (.int .i64 0), (.str []), (.bool false), (.int .i64 0), (.int .i64 0)], none, false⟩,
 ⟨none, .store 6 (.tmp 10) (.tmp 53), none, false⟩,
 ⟨(some 11), .move (.tmp 54), none, false⟩] false)
 (.seq (.region [⟨(some 55), .move (.tmp 7), none, false⟩,
 ⟨(some 56), .len .str (.tmp 55), none, false⟩,
 ⟨(some 12), .move (.tmp 56), none, false⟩] false)
 (.seq (.seq (.region [⟨(some 57), .move (.tmp 9), none, false⟩,
 ⟨(some 58), .move (.tmp 11), none, false⟩,
 ⟨(some 59), .bin .neq .other true (.tmp 57) (.tmp 58), none, false⟩] false)
 (.cond (.tmp 59)
 (.seq (.region [⟨(some 4), .move (.av (.bool false)), none, false⟩] false)
 (.ret))
 (.skip)))
 (.seq (.seq (.region [⟨(some 60), .move (.tmp 9), none, false⟩,
 ⟨(some 61), .bin .neq .other true (.tmp 60) (.av (.int .i64 0)), none, false⟩] false)
 (.cond (.tmp 61)
 (.seq (.region [⟨(some 62), .move (.tmp 5), none, false⟩,
 ⟨(some 63), .move (.tmp 62), none, false⟩,
 ⟨(some 64), .fieldAddr 5 (.tmp 8), (some (63, true)), false⟩,
 ⟨(some 65), .load none (.tmp 64), (some (63, true)), false⟩,
 ⟨(some 66), .bin .eql .other true (.tmp 65) (.av (.int .i64 0)), (some (63, true)), false⟩,
 ⟨(some 67), .pick (.tmp 63) (.tmp 66) (.av (.bool false)), none, false⟩,
 ⟨(some 68), .move (.tmp 67), none, false⟩,
 ⟨(some 69), .fieldAddr 5 (.tmp 10), (some (68, true)), false⟩,
 ⟨(some 70), .load none (.tmp 69), (some (68, true)), false⟩,
 ⟨(some 71), .bin .eql .other true (.tmp 70) (.av (.int .i64 0)), (some (68, true)), false⟩,
 ⟨(some 72), .pick (.tmp 68) (.tmp 71) (.av (.bool false)), none, false⟩,
 ⟨(some 4), .move (.tmp 72), none, false⟩] false)
 (.ret))
 (.skip)))
 (.seq (.region [⟨(some 73), .move (.tmp 5), none, false⟩,
 ⟨(some 74), .move (.tmp 73), none, false⟩,
 ⟨(some 75), .fieldAddr 0 (.tmp 8), (some (74, true)), false⟩,
 ⟨(some 76), .load none (.tmp 75), (some (74, true)), false⟩,
 ⟨(some 77), .fieldAddr 0 (.tmp 10), (some (74, true)), false⟩,
 ⟨(some 78), .load none (.tmp 77), (some (74, true)), false⟩,
 ⟨(some 79), .bin .eql .other true (.tmp 76) (.tmp 78), (some (74, true)), false⟩,
 ⟨(some 80), .pick (.tmp 74) (.tmp 79) (.av (.bool false)), none, false⟩,
 ⟨(some 81), .move (.tmp 80), none, false⟩,
 ⟨(some 82), .fieldAddr 2 (.tmp 8), (some (81, true)), false⟩,
 ⟨(some 83), .load none (.tmp 82), (some (81, true)), false⟩,
 ⟨(some 84), .fieldAddr 2 (.tmp 10), (some (81, true)), false⟩,
 ⟨(some 85), .load none (.tmp 84), (some (81, true)), false⟩,
 ⟨(some 86), .bin .eql .other false (.tmp 83) (.tmp 85), (some (81, true)), false⟩,
 ⟨(some 87), .pick (.tmp 81) (.tmp 86) (.av (.bool false)), none, false⟩,
 ⟨(some 88), .move (.tmp 87), none, false⟩,
 ⟨(some 89), .fieldAddr 1 (.tmp 8), (some (88, true)), false⟩,
 ⟨(some 90), .load none (.tmp 89), (some (88, true)), false⟩,
 ⟨(some 91), .fieldAddr 1 (.tmp 10), (some (88, true)), false⟩,
 ⟨(some 92), .load none (.tmp 91), (some (88, true)), false⟩,
 ⟨(some 93), .bin .eql .other true (.tmp 90) (.tmp 92), (some (88, true)), false⟩,
 ⟨(some 94), .pick (.tmp 88) (.tmp 93) (.av (.bool false)), none, false⟩,
 ⟨(some 95), .move (.tmp 94), none, false⟩,
 ⟨(some 96), .fieldAddr 4 (.tmp 8), (some (95, true)), false⟩,
 ⟨(some 97), .load none (.tmp 96), (some (95, true)), false⟩,
 ⟨(some 98), .move (.tmp 12), (some (95, true)), false⟩,
 ⟨(some 99), .bin .add .other true (.tmp 97) (.tmp 98), (some (95, true)), false⟩,
 ⟨(some 100), .fieldAddr 4 (.tmp 10), (some (95, true)), false⟩,
 ⟨(some 101), .load none (.tmp 100), (some (95, true)), false⟩,
 ⟨(some 102), .bin .eql .other true (.tmp 99) (.tmp 101), (some (95, true)), false⟩,
 ⟨(some 103), .pick (.tmp 95) (.tmp 102) (.av (.bool false)), none, false⟩,
 ⟨(some 104), .move (.tmp 103), none, false⟩,
 ⟨(some 105), .fieldAddr 5 (.tmp 8), (some (104, true)), false⟩,
 ⟨(some 106), .load none (.tmp 105), (some (104, true)), false⟩,
 ⟨(some 107), .move (.tmp 12), (some (104, true)), false⟩,
 ⟨(some 108), .bin .add .other true (.tmp 106) (.tmp 107), (some (104, true)), false⟩,
 ⟨(some 109), .fieldAddr 5 (.tmp 10), (some (104, true)), false⟩,
 ⟨(some 110), .load none (.tmp 109), (some (104, true)), false⟩,
 ⟨(some 111), .bin .eql .other true (.tmp 108) (.tmp 110), (some (104, true)), false⟩,
 ⟨(some 112), .pick (.tmp 104) (.tmp 111) (.av (.bool false)), none, false⟩,
 ⟨(some 4), .move (.tmp 112), none, false⟩] false)
 (.ret)))))))))))⟩
/-- inkstand/inkstandlaw03.LexEnds -/
def ac7 : AF := ⟨130, [.tmp 4],
 .seq (.region [⟨(some 4), .move (.av (.bool false)), none, false⟩] false)
 (.seq (.region [⟨(some 10), .call (.av (.fn (.func 15) [] [])) [], none, false⟩,
 ⟨(some 5), .move (.tmp 10), none, false⟩] false)
 (.seq (.seq (.region [⟨(some 11), .move (.tmp 0), none, false⟩,
 ⟨(some 12), .len .str (.tmp 11), none, false⟩,
 ⟨(some 13), .bin .gtr .other true (.tmp 12) (.av (.int .i64 1000)), none, false⟩] false)
 (.cond (.tmp 13)
 (.seq (.region [⟨(some 14), .move (.tmp 5), none, false⟩,
 ⟨(some 4), .move (.tmp 14), none, false⟩] false)
 (.ret))
 (.skip)))
 (.seq (.region [⟨(some 16), .move (.tmp 0), none, false⟩,
 ⟨(some 17), .move (.tmp 1), none, false⟩,
 ⟨(some 18), .call (.av (.fn (.func 16) [] [])) [(.tmp 16), (.tmp 17)], none, false⟩,
 ⟨(some 15), .move (.tmp 18), none, false⟩,
 ⟨(some 19), .extract (.tmp 15) 0, none, false⟩,
 ⟨(some 20), .extract (.tmp 15) 1, none, false⟩,
 ⟨(some 6), .alloc 25 [(.int .i64 0), (.int .i64 0), (.str []), (.bool false), (.int .i64 0), (.int .i64 0)], none, false⟩,
 ⟨none, .store 6 (.tmp 6) (.tmp 19), none, false⟩,
 ⟨(some 7), .move (.tmp 20), none, false⟩] false)
 (.seq (.seq (.region [⟨(some 21), .move (.tmp 1), none, false⟩,
 ⟨(some 22), .bin .lss .other true (.tmp 21) (.av (.int .i64 0)), none, false⟩,
 ⟨(some 23), .move (.tmp 22), none, false⟩,
 ⟨(some 24), .move (.tmp 1), (some (23, false)), false⟩,
 ⟨(some 25), .move (.tmp 0), (some (23, false)), false⟩,
 ⟨(some 26), .len .str (.tmp 25), (some (23, false)), false⟩,
 ⟨(some 27), .bin .gtr .other true (.tmp 24) (.tmp 26), (some (23, false)), false⟩,
 ⟨(some 28), .pick (.tmp 23) (.av (.bool true)) (.tmp 27), none, false⟩] false)
 (.cond (.tmp 28)
 (.seq (.region [⟨(some 29), .move (.tmp 5), none, false⟩,
 ⟨(some 30), .move (.tmp 29), none, false⟩,
 ⟨(some 31), .move (.tmp 7), (some (30, true)), false⟩,
 ⟨(some 32), .bin .eql .other true (.tmp 31) (.av (.int .i64 1)), (some (30, true)), false⟩,
 ⟨(some 33), .pick (.tmp 30) (.tmp 32) (.av (.bool false)), none, false⟩,
 ⟨(some 4), .move (.tmp 33), none, false⟩] false)
 (.ret))
 (.skip)))
 (.seq (.seq (.region [⟨(some 34), .move (.tmp 7), none, false⟩,
 ⟨(some 35), .bin .neq .other true (.tmp 34) (.av (.int .i64 0)), none, false⟩] false)
 (.cond (.tmp 35)
 (.seq (.region [⟨(some 36), .move (.tmp 5), none, false⟩,
 ⟨(some 4), .move (.tmp 36), none, false⟩] false)
 (.ret))
 (.skip)))
 (.seq (.seq (.region [⟨(some 37), .fieldAddr 4 (.tmp 6), none, false⟩,
 ⟨(some 38), .load none (.tmp 37), none, false⟩,
 ⟨(some 39), .move (.tmp 1), none, false⟩,
 ⟨(some 40), .bin .lss .other true (.tmp 38) (.tmp 39), none, false⟩,
 ⟨(some 41), .move (.tmp 40), none, false⟩,
 ⟨(some 42), .fieldAddr 5 (.tmp 6), (some (41, false)), false⟩,
 ⟨(some 43), .load none (.tmp 42), (some (41, false)), false⟩,
 ⟨(some 44), .fieldAddr 4 (.tmp 6), (some (41, false)), false⟩,
 ⟨(some 45), .load none (.tmp 44), (some (41, false)), false⟩,
 ⟨(some 46), .bin .lss .other true (.tmp 43) (.tmp 45), (some (41, false)), false⟩,
 ⟨(some 47), .pick (.tmp 41) (.av (.bool true)) (.tmp 46), none, false⟩,
 ⟨(some 48), .move (.tmp 47), none, false⟩,
 ⟨(some 49), .fieldAddr 5 (.tmp 6), (some (48, false)), false⟩,
 ⟨(some 50), .load none (.tmp 49), (some (48, false)), false⟩,
 ⟨(some 51), .move (.tmp 0), (some (48, false)), false⟩,
 ⟨(some 52), .len .str (.tmp 51), (some (48, false)), false⟩,
 ⟨(some 53), .bin .gtr .other true (.tmp 50) (.tmp 52), (some (48, false)), false⟩,
 ⟨(some 54), .pick (.tmp 48) (.av (.bool true)) (.tmp 53), none, false⟩,
 ⟨(some 55), .move (.tmp 54), none, false⟩,
 ⟨(some 56), .fieldAddr 0 (.tmp 6), (some (55, false)), false⟩,
 ⟨(some 57), .load none (.tmp 56), (some (55, false)), false⟩,
 ⟨(some 58), .bin .eql .other true (.tmp 57) (.av (.int .i64 0)), (some (55, false)), false⟩,
 ⟨(some 59), .fieldAddr 4 (.tmp 6), (some (55, false)), false⟩,
 ⟨(some 60), .load none (.tmp 59), (some (55, false)), false⟩,
 ⟨(some 61), .move (.tmp 0), (some (55, false)), false⟩,
 ⟨(some 62), .len .str (.tmp 61), (some (55, false)), false⟩,
 ⟨(some 63), .bin .eql .other true (.tmp 60) (.tmp 62), (some (55, false)), false⟩,
 ⟨(some 64), .bin .neq .bool false (.tmp 58) (.tmp 63), (some (55, false)), false⟩,
 ⟨(some 65), .pick (.tmp 55) (.av (.bool true)) (.tmp 64), none, false⟩,
 ⟨(some 66), .move (.tmp 65), none, false⟩,
 ⟨(some 67), .fieldAddr 0 (.tmp 6), (some (66, false)), false⟩,
 ⟨(some 68), .load none (.tmp 67), (some (66, false)), false⟩,
 ⟨(some 69), .bin .eql .other true (.tmp 68) (.av (.int .i64 0)), (some (66, false)), false⟩,
 ⟨(some 70), .fieldAddr 5 (.tmp 6), (some (66, false)), false⟩,
 ⟨(some 71), .load none (.tmp 70), (some (66, false)), false⟩,
 ⟨(some 72), .fieldAddr 4 (.tmp 6), (some (66, false)), false⟩,
 ⟨(some 73), .load none (.tmp 72), (some (66, false)), false⟩,
 ⟨(some 74), .bin .eql .other true (.tmp 71) (.tmp 73), (some (66, false)), false⟩,
 ⟨(some 75), .bin .neq .bool false (.tmp 69) (.tmp 74), (some (66, false)), false⟩,
 ⟨(some 76), .pick (.tmp 66) (.av (.bool true)) (.tmp 75), none, false⟩] false)
 (.cond (.tmp 76)
 (.seq (.region [⟨(some 4), .move (.av (.bool false)), none, false⟩] false)
 (.ret))
 (.skip)))
 (.seq (.region [⟨(some 78), .move (.tmp 0), none, false⟩,
 ⟨(some 79), .fieldAddr 4 (.tmp 6), none, false⟩,
 ⟨(some 80), .load none (.tmp 79), none, false⟩,
 ⟨(some 81), .fieldAddr 5 (.tmp 6), none, false⟩,
 ⟨(some 82), .load none (.tmp 81), none, false⟩,
 ⟨(some 83), .slice .str (.tmp 78) (some (.tmp 80)) (some (.tmp 82)), none, false⟩,
 ⟨(some 84), .call (.av (.fn (.func 16) [] [])) [(.tmp 83), (.av (.int .i64 0))], none, false⟩,
 ⟨(some 77), .move (.tmp 84), none, false⟩,
 ⟨(some 85), .extract (.tmp 77) 0, none, false⟩,
 ⟨(some 86), .extract (.tmp 77) 1, none, false⟩,
 ⟨(some 8), .alloc 25 [(.int .i64 0), (.int .i64 0), (.str []), (.bool false), (.int .i64 0), (.int .i64 0)], none, false⟩,
 ⟨none, .store 6 (.tmp 8) (.tmp 85), none, false⟩,
 ⟨(some 9), .move (.tmp 86), none, false⟩] false)
 (.seq (.region [⟨(some 87), .move (.tmp 5), none, false⟩,
 ⟨(some 88), .move (.tmp 87), none, false⟩,
 ⟨(some 89), .move (.tmp 9), (some (88, true)), false⟩,
 ⟨(some 90), .bin .eql .other true (.tmp 89) (.av (.int .i64 0)), (some (88, true)), false⟩,
 ⟨(some 91), .pick (.tmp 88) (.tmp 90) (.av (.bool false)), none, false⟩,
 ⟨(some 92), .move (.tmp 91), none, false⟩,
 ⟨(some 93), .fieldAddr 0 (.tmp 8), (some (92, true)), false⟩,
 ⟨(some 94), .load none (.tmp 93), (some (92, true)), false⟩,
 ⟨(some 95), .fieldAddr 0 (.tmp 6), (some (92, true)), false⟩,
 ⟨(some 96), .load none (.tmp 95), (some (92, true)), false⟩,
 ⟨(some 97), .bin .eql .other true (.tmp 94) (.tmp 96), (some (92, true)), false⟩,
 ⟨(some 98), .pick (.tmp 92) (.tmp 97) (.av (.bool false)), none, false⟩,
 ⟨(some 99), .move (.tmp 98), none, false⟩,
 ⟨(some 100), .fieldAddr 2 (.tmp 8), (some (99, true)), false⟩,
 ⟨(some 101), .load none (.tmp 100), (some (99, true)), false⟩,
 ⟨(some 102), .fieldAddr 2 (.tmp 6), (some (99, true)), false⟩,
 ⟨(some 103), .load none (.tmp 102), (some (99, true)), false⟩,
 ⟨(some 104), .bin .eql .other false (.tmp 101) (.tmp 103), (some (99, true)), false⟩,
 ⟨(some 105), .pick (.tmp 99) (.tmp 104) (.av (.bool false)), none, false⟩,
 ⟨(some 106), .move (.tmp 105), none, false⟩,
 ⟨(some 107), .fieldAddr 1 (.tmp 8), (some (106, true)), false⟩,
 ⟨(some 108), .load none (.tmp 107), (some (106, true)), false⟩,
 ⟨(some 109), .fieldAddr 1 (.tmp 6), (some (106, true)), false⟩,
 ⟨(some 110), .load none (.tmp 109), (some (106, true)), false⟩,
 ⟨(some 111), .bin .eql .other true (.tmp 108) (.tmp 110), (some (106, true)), false⟩,
 ⟨(some 112), .pick (.tmp 106) (.tmp 111) (.av (.bool false)), none, false⟩,
 ⟨(some 113), .move (.tmp 112), none, false⟩,
 ⟨(some 114), .fieldAddr 3 (.tmp 8), (some (113, true)), false⟩,
 ⟨(some 115), .load none (.tmp 114), (some (113, true)), false⟩,
 ⟨(some 116), .fieldAddr 3 (.tmp 6), (some (113, true)), false⟩,
 ⟨(some 117), .load none (.tmp 116), (some (113, true)), false⟩,
 ⟨(some 118), .bin .eql .bool false (.tmp 115) (.tmp 117), (some (113, true)), false⟩,
 ⟨(some 119), .pick (.tmp 113) (.tmp 118) (.av (.bool false)), none, false⟩,
 ⟨(some 120), .move (.tmp 119), none, false⟩,
 ⟨(some 121), .fieldAddr 5 (.tmp 8), (some (120, true)), false⟩,
 ⟨(some 122), .load none (.tmp 121), (some (120, true)), false⟩,
 ⟨(some 123), .fieldAddr 5 (.tmp 6), (some (120, true)), false⟩,
 ⟨(some 124), .load none (.tmp 123), (some (120, true)), false⟩,
 ⟨(some 125), .fieldAddr 4 (.tmp 6), (some (120, true)), false⟩,
 ⟨(some 126), .load none (.tmp 125), (some (120, true)), false⟩,
 ⟨(some 127), .bin .sub .other true (.tmp 124) (.tmp 126), (some (120, true)), false⟩,
 ⟨(some 128), .bin .eql .other true (.tmp 122) (.tmp 127), (some (120, true)), false⟩,
 ⟨(some 129), .pick (.tmp 120) (.tmp 128) (.av (.bool false)), none, false⟩,
 ⟨(some 4), .move (.tmp 129), none, false⟩] false)
 (.ret)))))))))⟩
/-- inkstand/inkstandlaw03.LexPairs -/
def ac9 : AF := ⟨104, [.tmp 4],
 .seq (.region [⟨(some 4), .move (.av (.bool false)), none, false⟩] false)
 (.seq (.region [⟨(some 16), .call (.av (.fn (.func 15) [] [])) [], none, false⟩,
 ⟨(some 5), .move (.tmp 16), none, false⟩] false)
 (.seq (.seq (.region [⟨(some 17), .move (.tmp 1), none, false⟩,
 ⟨(some 18), .len .str (.tmp 17), none, false⟩,
 ⟨(some 19), .bin .gtr .other true (.tmp 18) (.av (.int .i64 200)), none, false⟩] false)
 (.cond (.tmp 19)
 (.seq (.region [⟨(some 20), .move (.tmp 5), none, false⟩,
 ⟨(some 4), .move (.tmp 20), none, false⟩] false)
 (.ret))
 (.skip)))
 (.seq (.seq (.region [⟨(some 6), .move (.av (.int .i64 0)), none, false⟩] false)
 (.block 0
 (.loop
 (.seq (.seq (.region [⟨(some 21), .move (.tmp 6), none, false⟩,
 ⟨(some 22), .move (.tmp 1), none, false⟩,
 ⟨(some 23), .len .str (.tmp 22), none, false⟩,
 ⟨(some 24), .bin .lss .other true (.tmp 21) (.tmp 23), none, false⟩] false)
 (.cond (.tmp 24)
 (.skip)
 (.exit 0)))
 (.seq (.block 1
 (.seq (.region [⟨(some 27), .move (.tmp 1), none, false⟩,
 ⟨(some 28), .move (.tmp 6), none, false⟩,
 ⟨(some 29), .indexStr (.tmp 27) (.tmp 28), none, false⟩,
 ⟨(some 30), .bin .lss .other false (.tmp 29) (.av (.int .u8 97)), none, false⟩,
 ⟨(some 31), .move (.tmp 30), none, false⟩,
 ⟨(some 32), .move (.tmp 1), (some (31, false)), false⟩,
 ⟨(some 33), .move (.tmp 6), (some (31, false)), false⟩,
 ⟨(some 34), .indexStr (.tmp 32) (.tmp 33), (some (31, false)), false⟩,
 ⟨(some 35), .bin .gtr .other false (.tmp 34) (.av (.int .u8 122)), (some (31, false)), false⟩,
 ⟨(some 36), .pick (.tmp 31) (.av (.bool true)) (.tmp 35), none, false⟩] false)
 (.cond (.tmp 36)
 (.seq (.region [⟨(some 37), .move (.tmp 5), none, false⟩,
 ⟨(some 4), .move (.tmp 37), none, false⟩] false)
 (.ret))
 (.skip))))
 (.region [⟨(some 25), .move (.tmp 6), none, false⟩,
 ⟨(some 26), .bin .add .other true (.tmp 25) (.av (.int .i64 1)), none, false⟩,
 ⟨(some 6), .move (.tmp 26), none, false⟩] false))))))
 (.seq (.region [⟨(some 38), .move (.tmp 0), none, false⟩,
 ⟨(some 39), .bin .and .other true (.tmp 38) (.av (.int .i64 31)), none, false⟩,
 ⟨(some 7), .move (.tmp 39), none, false⟩] false)
 (.seq (.region [⟨(some 40), .move (.tmp 1), none, false⟩,
 ⟨(some 8), .move (.tmp 40), none, false⟩] false)
 (.seq (.seq (.region [⟨(some 9), .move (.av (.int .i64 0)), none, false⟩] false)
 (.block 2
 (.loop
 (.seq (.seq (.region [⟨(some 41), .move (.tmp 9), none, false⟩,
 ⟨(some 42), .move (.tmp 7), none, false⟩,
 ⟨(some 43), .bin .lss .other true (.tmp 41) (.tmp 42), none, false⟩] false)
 (.cond (.tmp 43)
 (.skip)
 (.exit 2)))
 (.seq (.block 3
 (.region [⟨(some 46), .move (.tmp 8), none, false⟩,
 ⟨(some 47), .bin .add .other false (.av (.str [40])) (.tmp 46), none, false⟩,
 ⟨(some 48), .bin .add .other false (.tmp 47) (.av (.str [41])), none, false⟩,
 ⟨(some 8), .move (.tmp 48), none, false⟩] false))
 (.region [⟨(some 44), .move (.tmp 9), none, false⟩,
 ⟨(some 45), .bin .add .other true (.tmp 44) (.av (.int .i64 1)), none, false⟩,
 ⟨(some 9), .move (.tmp 45), none, false⟩] false))))))
 (.seq (.region [⟨(some 50), .move (.tmp 8), none, false⟩,
 ⟨(some 51), .bin .add .other false (.av (.str [40])) (.tmp 50), none, false⟩,
 ⟨(some 52), .bin .add .other false (.tmp 51) (.av (.str [41, 114, 101, 115, 116])), none, false⟩,
 ⟨(some 53), .call (.av (.fn (.func 16) [] [])) [(.tmp 52), (.av (.int .i64 0))], none, false⟩,
 ⟨(some 49), .move (.tmp 53), none, false⟩,
 ⟨(some 54), .extract (.tmp 49) 0, none, false⟩,
 ⟨(some 55), .extract (.tmp 49) 1, none, false⟩,
 ⟨(some 10), .alloc 25 [(.int .i64 0), (.int .i64 0), (.str []), (.bool false), (.int .i64 0), (.int .i64 0)], none, false⟩,
 ⟨none, .store 6 (.tmp 10) (.tmp 54), none, false⟩,
 ⟨(some 11), .move (.tmp 55), none, false⟩] false)
 (.seq (.region [⟨(some 57), .move (.tmp 8), none, false⟩,
 ⟨(some 58), .bin .add .other false (.av (.str [40, 40])) (.tmp 57), none, false⟩,
 ⟨(some 59), .bin .add .other false (.tmp 58) (.av (.str [41])), none, false⟩,
 ⟨(some 60), .call (.av (.fn (.func 16) [] [])) [(.tmp 59), (.av (.int .i64 0))], none, false⟩,
 ⟨(some 56), .move (.tmp 60), none, false⟩,
 ⟨(some 61), .extract (.tmp 56) 0, none, false⟩,
 ⟨(some 62), .extract (.tmp 56) 1, none, false⟩,
 ⟨(some 12), .alloc 25 [(.int .i64 0), (.int .i64 0), (.str []), (.bool false), (.int .i64 0), (.int .i64 0)], none, false⟩,
 ⟨none, .store 6 (.tmp 12) (.tmp 61), none, false⟩,
 ⟨(some 13), .move (.tmp 62), none, false⟩] false)
 (.seq (.region [⟨(some 64), .move (.tmp 8), none, false⟩,
 ⟨(some 65), .bin .add .other false (.av (.str [40])) (.tmp 64), none, false⟩,
 ⟨(some 66), .bin .add .other false (.tmp 65) (.av (.str [41, 41])), none, false⟩,
 ⟨(some 67), .call (.av (.fn (.func 16) [] [])) [(.tmp 66), (.av (.int .i64 0))], none, false⟩,
 ⟨(some 63), .move (.tmp 67), none, false⟩,
 ⟨(some 68), .extract (.tmp 63) 0, none, false⟩,
 ⟨(some 69), .extract (.tmp 63) 1, none, false⟩,
 ⟨(some 14), .alloc 25 [(.int .i64 0), (.int .i64 0), (.str []), (.bool false), (.int .i64 0), (.int .i64 0)], none, false⟩,
 ⟨none, .store 6 (.tmp 14) (.tmp 68), none, false⟩,
 ⟨(some 15), .move (.tmp 69), none, false⟩] false)
 (.seq (.region [⟨(some 70), .move (.tmp 5), none, false⟩,
 ⟨(some 71), .move (.tmp 70), none, false⟩,
 ⟨(some 72), .move (.tmp 11), (some (71, true)), false⟩,
 ⟨(some 73), .bin .eql .other true (.tmp 72) (.av (.int .i64 0)), (some (71, true)), false⟩,
 ⟨(some 74), .pick (.tmp 71) (.tmp 73) (.av (.bool false)), none, false⟩,
 ⟨(some 75), .move (.tmp 74), none, false⟩,
 ⟨(some 76), .fieldAddr 2 (.tmp 10), (some (75, true)), false⟩,
 ⟨(some 77), .load none (.tmp 76), (some (75, true)), false⟩,
 ⟨(some 78), .move (.tmp 8), (some (75, true)), false⟩,
 ⟨(some 79), .bin .eql .other false (.tmp 77) (.tmp 78), (some (75, true)), false⟩,
 ⟨(some 80), .pick (.tmp 75) (.tmp 79) (.av (.bool false)), none, false⟩,
 ⟨(some 81), .move (.tmp 80), none, false⟩,
 ⟨(some 82), .fieldAddr 5 (.tmp 10), (some (81, true)), false⟩,
 ⟨(some 83), .load none (.tmp 82), (some (81, true)), false⟩,
 ⟨(some 84), .move (.tmp 8), (some (81, true)), false⟩,
 ⟨(some 85), .len .str (.tmp 84), (some (81, true)), false⟩,
 ⟨(some 86), .bin .add .other true (.tmp 85) (.av (.int .i64 2)), (some (81, true)), false⟩,
 ⟨(some 87), .bin .eql .other true (.tmp 83) (.tmp 86), (some (81, true)), false⟩,
 ⟨(some 88), .pick (.tmp 81) (.tmp 87) (.av (.bool false)), none, false⟩,
 ⟨(some 89), .move (.tmp 88), none, false⟩,
 ⟨(some 90), .move (.tmp 13), (some (89, true)), false⟩,
 ⟨(some 91), .bin .eql .other true (.tmp 90) (.av (.int .i64 4)), (some (89, true)), false⟩,
 ⟨(some 92), .pick (.tmp 89) (.tmp 91) (.av (.bool false)), none, false⟩,
 ⟨(some 93), .move (.tmp 92), none, false⟩,
 ⟨(some 94), .move (.tmp 15), (some (93, true)), false⟩,
 ⟨(some 95), .bin .eql .other true (.tmp 94) (.av (.int .i64 0)), (some (93, true)), false⟩,
 ⟨(some 96), .pick (.tmp 93) (.tmp 95) (.av (.bool false)), none, false⟩,
 ⟨(some 97), .move (.tmp 96), none, false⟩,
 ⟨(some 98), .fieldAddr 5 (.tmp 14), (some (97, true)), false⟩,
 ⟨(some 99), .load none (.tmp 98), (some (97, true)), false⟩,
 ⟨(some 100), .fieldAddr 5 (.tmp 10), (some (97, true)), false⟩,
 ⟨(some 101), .load none (.tmp 100), (some (97, true)), false⟩,
 ⟨(some 102), .bin .eql .other true (.tmp 99) (.tmp 101), (some (97, true)), false⟩,
 ⟨(some 103), .pick (.tmp 97) (.tmp 102) (.av (.bool false)), none, false⟩,
 ⟨(some 4), .move (.tmp 103), none, false⟩] false)
 (.ret)))))))))))⟩
/-- inkstand/lex.Space -/
def ac20 : AF := ⟨27, [.tmp 4],
 .seq (.region [⟨(some 4), .move (.av (.int .i64 0)), none, false⟩] false)
 (.seq (.region [⟨(some 5), .move (.tmp 1), none, false⟩,
 ⟨(some 6), .minmax true [(.tmp 5), (.av (.int .i64 0))], none, false⟩,
 ⟨(some 7), .move (.tmp 0), none, false⟩,
 ⟨(some 8), .len .str (.tmp 7), none, false⟩,
 ⟨(some 9), .minmax false [(.tmp 6), (.tmp 8)], none, false⟩,
 ⟨(some 1), .move (.tmp 9), none, false⟩] false)
 (.block 0
 (.loop
 (.block 1
 (.seq (.region [⟨(some 10), .move (.tmp 0), none, false⟩,
 ⟨(some 11), .move (.tmp 1), none, false⟩,
 ⟨(some 12), .call (.av (.fn (.func 45) [] [])) [(.tmp 10), (.tmp 11), (.av (.fn (.func 22) [] []))], none, false⟩,
 ⟨(some 1), .move (.tmp 12), none, false⟩] false)
 (.seq (.seq (.region [⟨(some 13), .move (.tmp 1), none, false⟩,
 ⟨(some 14), .move (.tmp 0), none, false⟩,
 ⟨(some 15), .len .str (.tmp 14), none, false⟩,
 ⟨(some 16), .bin .eql .other true (.tmp 13) (.tmp 15), none, false⟩,
 ⟨(some 17), .move (.tmp 16), none, false⟩,
 ⟨(some 18), .move (.tmp 0), (some (17, false)), false⟩,
 ⟨(some 19), .move (.tmp 1), (some (17, false)), false⟩,
 ⟨(some 20), .indexStr (.tmp 18) (.tmp 19), (some (17, false)), false⟩,
 ⟨(some 21), .bin .neq .other false (.tmp 20) (.av (.int .u8 37)), (some (17, false)), false⟩,
 ⟨(some 22), .pick (.tmp 17) (.av (.bool true)) (.tmp 21), none, false⟩] false)
 (.cond (.tmp 22)
 (.seq (.region [⟨(some 23), .move (.tmp 1), none, false⟩,
 ⟨(some 4), .move (.tmp 23), none, false⟩] false)
 (.ret))
 (.skip)))
 (.region [⟨(some 24), .move (.tmp 0), none, false⟩,
 ⟨(some 25), .move (.tmp 1), none, false⟩,
 ⟨(some 26), .call (.av (.fn (.func 45) [] [])) [(.tmp 24), (.tmp 25), (.av (.fn (.func 46) [] []))], none, false⟩,
 ⟨(some 1), .move (.tmp 26), none, false⟩] false)))))))⟩
/-- inkstand/lex.White -/
def ac22 : AF := ⟨11, [.tmp 2],
 .seq (.region [⟨(some 2), .move (.av (.bool false)), none, false⟩] false)
 (.seq (.seq (.region [⟨(some 3), .move (.tmp 0), none, false⟩] false)
 (.block 0
 (.seq (.seq (.region [⟨(some 5), .bin .eql .other false (.tmp 3) (.av (.int .u8 0)), none, false⟩,
 ⟨(some 4), .move (.tmp 5), none, false⟩] false)
 (.cond (.tmp 4)
 (.skip)
 (.seq (.region [⟨(some 6), .bin .eql .other false (.tmp 3) (.av (.int .u8 9)), none, false⟩,
 ⟨(some 4), .move (.tmp 6), none, false⟩] false)
 (.cond (.tmp 4)
 (.skip)
 (.seq (.region [⟨(some 7), .bin .eql .other false (.tmp 3) (.av (.int .u8 10)), none, false⟩,
 ⟨(some 4), .move (.tmp 7), none, false⟩] false)
 (.cond (.tmp 4)
 (.skip)
 (.seq (.region [⟨(some 8), .bin .eql .other false (.tmp 3) (.av (.int .u8 12)), none, false⟩,
 ⟨(some 4), .move (.tmp 8), none, false⟩] false)
 (.cond (.tmp 4)
 (.skip)
 (.seq (.region [⟨(some 9), .bin .eql .other false (.tmp 3) (.av (.int .u8 13)), none, false⟩,
 ⟨(some 4), .move (.tmp 9), none, false⟩] false)
 (.cond (.tmp 4)
 (.skip)
 (.region [⟨(some 10), .bin .eql .other false (.tmp 3) (.av (.int .u8 32)), none, false⟩,
 ⟨(some 4), .move (.tmp 10), none, false⟩] false)))))))))))
 (.cond (.tmp 4)
 (.seq (.region [⟨(some 2), .move (.av (.bool true)), none, false⟩] false)
 (.ret))
 (.skip)))))
 (.seq (.region [⟨(some 2), .move (.av (.bool false)), none, false⟩] false)
 (.ret)))⟩
/-- inkstand/lex.Delim -/
def ac24 : AF := ⟨6, [.tmp 2],
 .seq (.region [⟨(some 2), .move (.av (.bool false)), none, false⟩] false)
 (.seq (.region [⟨(some 3), .move (.tmp 0), none, false⟩,
 ⟨(some 4), .call (.av (.fn (.func 47) [] [])) [(.av (.str [40, 41, 60, 62, 91, 93, 123, 125, 47, 37])), (.tmp 3)], none, false⟩,
 ⟨(some 5), .bin .geq .other true (.tmp 4) (.av (.int .i64 0)), none, false⟩,
 ⟨(some 2), .move (.tmp 5), none, false⟩] false)
 (.ret))⟩
/-- inkstand/lex.Quote -/
def ac26 : AF := ⟨55, [.tmp 2],
 .seq (.region [⟨(some 2), .move (.av (.str [])), none, false⟩] false)
 (.seq (.region [⟨(some 7), .buildSlice true 5 1 1 [(.int .u8 0)] [(0, (.av (.int .u8 40)))], none, false⟩,
 ⟨(some 3), .move (.tmp 7), none, false⟩] false)
 (.seq (.seq (.region [⟨(some 8), .move (.tmp 0), none, false⟩,
 ⟨(some 9), .len .str (.tmp 8), none, false⟩,
 ⟨(some 10), .move (.av (.int .i64 0)), none, false⟩] false)
 (.block 0
 (.loop
 (.seq (.region [⟨(some 11), .bin .lss .other true (.tmp 10) (.tmp 9), none, false⟩] false)
 (.seq (.cond (.tmp 11)
 (.skip)
 (.exit 0))
 (.seq (.block 1
 (.seq (.region [⟨(some 12), .move (.tmp 10), none, false⟩,
 ⟨(some 4), .move (.tmp 12), none, false⟩] false)
 (.seq (.region [⟨(some 13), .move (.tmp 0), none, false⟩,
 ⟨(some 14), .move (.tmp 4), none, false⟩,
 ⟨(some 15), .indexStr (.tmp 13) (.tmp 14), none, false⟩,
 ⟨(some 5), .move (.tmp 15), none, false⟩] false)
 (.seq (.region [⟨(some 16), .move (.tmp 5), none, false⟩,
 ⟨(some 17), .call (.av (.fn (.func 47) [] [])) [(.av (.str [10, 13, 9, 8, 12, 40, 41, 92])), (.tmp 16)], none, false⟩,
 ⟨(some 6), .move (.tmp 17), none, false⟩] false)
 (.block 2
 (.seq (.region [⟨(some 23), .move (.tmp 6), none, false⟩,
 ⟨(some 24), .bin .geq .other true (.tmp 23) (.av (.int .i64 0)), none, false⟩,
 ⟨(some 22), .move (.tmp 24), none, false⟩] false)
 (.cond (.tmp 22)
 (.region [⟨(some 25), .move (.tmp 3), none, false⟩,
 ⟨(some 26), .move (.tmp 6), none, false⟩,
 ⟨(some 27), .indexStr (.av (.str [110, 114, 116, 98, 102, 40, 41, 92])) (.tmp 26), none, false⟩,
 ⟨(some 28), .buildSlice false 5 1 2 [(.int .u8 0)] [(0, (.av (.int .u8 92))), (1, (.tmp 27))], none, false⟩,
 ⟨(some 29), .append 5 1 1 [(.int .u8 0)] (.tmp 25) (.tmp 28), none, false⟩,
 ⟨(some 3), .move (.tmp 29), none, false⟩] false)
 (.seq (.region [⟨(some 31), .move (.tmp 5), none, false⟩,
 ⟨(some 32), .bin .lss .other false (.tmp 31) (.av (.int .u8 32)), none, false⟩,
 ⟨(some 33), .move (.tmp 32), none, false⟩,
 ⟨(some 34), .move (.tmp 5), (some (33, false)), false⟩,
 ⟨(some 35), .bin .gtr .other false (.tmp 34) (.av (.int .u8 126)), (some (33, false)), false⟩,
 ⟨(some 36), .pick (.tmp 33) (.av (.bool true)) (.tmp 35), none, false⟩,
 ⟨(some 30), .move (.tmp 36), none, false⟩] false)
 (.cond (.tmp 30)
 (.region [⟨(some 37), .move (.tmp 3), none, false⟩,
 ⟨(some 38), .move (.tmp 5), none, false⟩,
 ⟨(some 39), .bin .shr .other false (.tmp 38) (.av (.int .u64 6)), none, false⟩,
 ⟨(some 40), .bin .add .other false (.av (.int .u8 48)) (.tmp 39), none, false⟩,
 ⟨(some 41), .move (.tmp 5), none, false⟩,
 ⟨(some 42), .bin .shr .other false (.tmp 41) (.av (.int .u64 3)), none, false⟩,
 ⟨(some 43), .bin .and .other false (.tmp 42) (.av (.int .u8 7)), none, false⟩,
 ⟨(some 44), .bin .add .other false (.av (.int .u8 48)) (.tmp 43), none, false⟩,
 ⟨(some 45), .move (.tmp 5), none, false⟩,
 ⟨(some 46), .bin .and .other false (.tmp 45) (.av (.int .u8 7)), none, false⟩,
 ⟨(some 47), .bin .add .other false (.av (.int .u8 48)) (.tmp 46), none, false⟩,
 ⟨(some 48), .buildSlice false 5 1 4 [(.int .u8 0)] [(0, (.av (.int .u8 92))), (1, (.tmp 40)), (2, (.tmp 44)), (3, (.tmp 47))], none, false⟩,
 ⟨(some 49), .append 5 1 1 [(.int .u8 0)] (.tmp 37) (.tmp 48), none, false⟩,
 ⟨(some 3), .move (.tmp 49), none, false⟩] false)
 (.region [⟨(some 18), .move (.tmp 3), none, false⟩,
 ⟨(some 19), .move (.tmp 5), none, false⟩,
 ⟨(some 20), .buildSlice false 5 1 1 [(.int .u8 0)] [(0, (.tmp 19))], none, false⟩,
 ⟨(some 21), .append 5 1 1 [(.int .u8 0)] (.tmp 18) (.tmp 20), none, false⟩,
 ⟨(some 3), .move (.tmp 21), none, false⟩] false))))))))))
 (.region [⟨(some 50), .bin .add .other true (.tmp 10) (.av (.int .i64 1)), none, false⟩,
 ⟨(some 10), .move (.tmp 50), none, false⟩] false)))))))
 (.seq (.region [⟨(some 51), .move (.tmp 3), none, false⟩,
 ⟨(some 52), .buildSlice false 5 1 1 [(.int .u8 0)] [(0, (.av (.int .u8 41)))], none, false⟩,
 ⟨(some 53), .append 5 1 1 [(.int .u8 0)] (.tmp 51) (.tmp 52), none, false⟩,
 ⟨(some 54), .conv .ofBytes (.tmp 53), none, false⟩,
 ⟨(some 2), .move (.tmp 54), none, false⟩] false)
 (.ret))))⟩
/-- inkstand/lex.NameOf -/
def ac28 : AF := ⟨45, [.tmp 2],
 .seq (.region [⟨(some 2), .move (.av (.str [])), none, false⟩] false)
 (.seq (.region [⟨(some 6), .buildSlice true 5 1 1 [(.int .u8 0)] [(0, (.av (.int .u8 47)))], none, false⟩,
 ⟨(some 3), .move (.tmp 6), none, false⟩] false)
 (.seq (.seq (.region [⟨(some 7), .move (.tmp 0), none, false⟩,
 ⟨(some 8), .len .str (.tmp 7), none, false⟩,
 ⟨(some 9), .move (.av (.int .i64 0)), none, false⟩] false)
 (.block 0
 (.loop
 (.seq (.region [⟨(some 10), .bin .lss .other true (.tmp 9) (.tmp 8), none, false⟩] false)
 (.seq (.cond (.tmp 10)
 (.skip)
 (.exit 0))
 (.seq (.block 1
 (.seq (.region [⟨(some 11), .move (.tmp 9), none, false⟩,
 ⟨(some 4), .move (.tmp 11), none, false⟩] false)
 (.seq (.region [⟨(some 12), .move (.tmp 0), none, false⟩,
 ⟨(some 13), .move (.tmp 4), none, false⟩,
 ⟨(some 14), .indexStr (.tmp 12) (.tmp 13), none, false⟩,
 ⟨(some 5), .move (.tmp 14), none, false⟩] false)
 (.seq (.seq (.region [⟨(some 15), .move (.tmp 5), none, false⟩,
 ⟨(some 16), .call (.av (.fn (.func 48) [] [])) [(.tmp 15)], none, false⟩,
 ⟨(some 17), .move (.tmp 16), none, false⟩,
 ⟨(some 18), .move (.tmp 5), (some (17, true)), false⟩,
 ⟨(some 19), .bin .neq .other false (.tmp 18) (.av (.int .u8 35)), (some (17, true)), false⟩,
 ⟨(some 20), .pick (.tmp 17) (.tmp 19) (.av (.bool false)), none, false⟩,
 ⟨(some 21), .move (.tmp 20), none, false⟩,
 ⟨(some 22), .move (.tmp 5), (some (21, true)), false⟩,
 ⟨(some 23), .bin .gtr .other false (.tmp 22) (.av (.int .u8 32)), (some (21, true)), false⟩,
 ⟨(some 24), .pick (.tmp 21) (.tmp 23) (.av (.bool false)), none, false⟩,
 ⟨(some 25), .move (.tmp 24), none, false⟩,
 ⟨(some 26), .move (.tmp 5), (some (25, true)), false⟩,
 ⟨(some 27), .bin .leq .other false (.tmp 26) (.av (.int .u8 126)), (some (25, true)), false⟩,
 ⟨(some 28), .pick (.tmp 25) (.tmp 27) (.av (.bool false)), none, false⟩] false)
 (.cond (.tmp 28)
 (.seq (.region [⟨(some 29), .move (.tmp 3), none, false⟩,
 ⟨(some 30), .move (.tmp 5), none, false⟩,
 ⟨(some 31), .buildSlice false 5 1 1 [(.int .u8 0)] [(0, (.tmp 30))], none, false⟩,
 ⟨(some 32), .append 5 1 1 [(.int .u8 0)] (.tmp 29) (.tmp 31), none, false⟩,
 ⟨(some 3), .move (.tmp 32), none, false⟩] false)
 (.exit 1))
 (.skip)))
 (.region [⟨(some 33), .move (.tmp 3), none, false⟩,
 ⟨(some 34), .move (.tmp 5), none, false⟩,
 ⟨(some 35), .bin .shr .other false (.tmp 34) (.av (.int .u64 4)), none, false⟩,
 ⟨(some 36), .indexStr (.av (.str [48, 49, 50, 51, 52, 53, 54, 55, 56, 57, 65, 66, 67, 68, 69, 70])) (.tmp 35), none, false⟩,
 ⟨(some 37), .move (.tmp 5), none, false⟩,
 ⟨(some 38), .bin .and .other false (.tmp 37) (.av (.int .u8 15)), none, false⟩,
 ⟨(some 39), .indexStr (.av (.str [48, 49, 50, 51, 52, 53, 54, 55, 56, 57, 65, 66, 67, 68, 69, 70])) (.tmp 38), none, false⟩,
 ⟨(some 40), .buildSlice false 5 1 3 [(.int .u8 0)] [(0, (.av (.int .u8 35))), (1, (.tmp 36)), (2, (.tmp 39))], none, false⟩,
 ⟨(some 41), .append 5 1 1 [(.int .u8 0)] (.tmp 33) (.tmp 40), none, false⟩,
 ⟨(some 3), .move (.tmp 41), none, false⟩] true)))))
 (.region [⟨(some 42), .bin .add .other true (.tmp 9) (.av (.int .i64 1)), none, false⟩,
 ⟨(some 9), .move (.tmp 42), none, false⟩] false)))))))
 (.seq (.region [⟨(some 43), .move (.tmp 3), none, false⟩,
 ⟨(some 44), .conv .ofBytes (.tmp 43), none, false⟩,
 ⟨(some 2), .move (.tmp 44), none, false⟩] false)
 (.ret))))⟩
/-- inkstand/lex.while -/
def ac45 : AF := ⟨21, [.tmp 6],
 .seq (.region [⟨(some 6), .move (.av (.int .i64 0)), none, false⟩] false)
 (.seq (.block 0
 (.loop
 (.seq (.seq (.region [⟨(some 7), .move (.tmp 1), none, false⟩,
 ⟨(some 8), .move (.tmp 0), none, false⟩,
 ⟨(some 9), .len .str (.tmp 8), none, false⟩,
 ⟨(some 10), .bin .lss .other true (.tmp 7) (.tmp 9), none, false⟩,
 ⟨(some 11), .move (.tmp 10), none, false⟩,
 ⟨(some 12), .move (.tmp 2), (some (11, true)), false⟩,
 ⟨(some 13), .move (.tmp 0), (some (11, true)), false⟩,
 ⟨(some 14), .move (.tmp 1), (some (11, true)), false⟩,
 ⟨(some 15), .indexStr (.tmp 13) (.tmp 14), (some (11, true)), false⟩,
 ⟨(some 16), .call (.tmp 12) [(.tmp 15)], (some (11, true)), false⟩,
 ⟨(some 17), .pick (.tmp 11) (.tmp 16) (.av (.bool false)), none, false⟩] false)
 (.cond (.tmp 17)
 (.skip)
 (.exit 0)))
 (.block 1
 (.region [⟨(some 18), .move (.tmp 1), none, false⟩,
 ⟨(some 19), .bin .add .other true (.tmp 18) (.av (.int .i64 1)), none, false⟩,
 ⟨(some 1), .move (.tmp 19), none, false⟩] false)))))
 (.seq (.region [⟨(some 20), .move (.tmp 1), none, false⟩,
 ⟨(some 6), .move (.tmp 20), none, false⟩] false)
 (.ret)))⟩
/-- inkstand/lex.Space$1 -/
def ac46 : AF := ⟨9, [.tmp 2],
 .seq (.region [⟨(some 2), .move (.av (.bool false)), none, false⟩] false)
 (.seq (.region [⟨(some 3), .move (.tmp 0), none, false⟩,
 ⟨(some 4), .bin .neq .other false (.tmp 3) (.av (.int .u8 10)), none, false⟩,
 ⟨(some 5), .move (.tmp 4), none, false⟩,
 ⟨(some 6), .move (.tmp 0), (some (5, true)), false⟩,
 ⟨(some 7), .bin .neq .other false (.tmp 6) (.av (.int .u8 13)), (some (5, true)), false⟩,
 ⟨(some 8), .pick (.tmp 5) (.tmp 7) (.av (.bool false)), none, false⟩,
 ⟨(some 2), .move (.tmp 8), none, false⟩] false)
 (.ret))⟩
/-- strings.IndexByte -/
def ac47 : AF := ⟨8, [.tmp 4],
 .seq (.region [⟨(some 4), .move (.av (.int .i64 0)), none, false⟩] false)
 (.seq (.region [⟨(some 5), .move (.tmp 0), none, false⟩,
 ⟨(some 6), .move (.tmp 1), none, false⟩,
 ⟨(some 7), .call (.av (.fn (.func 73) [] [])) [(.tmp 5), (.tmp 6)], none, false⟩,
 ⟨(some 4), .move (.tmp 7), none, false⟩] false)
 (.ret))⟩
/-- inkstand/lex.regular -/
def ac48 : AF := ⟨11, [.tmp 2],
 .seq (.region [⟨(some 2), .move (.av (.bool false)), none, false⟩] false)
 (.seq (.region [⟨(some 3), .move (.tmp 0), none, false⟩,
 ⟨(some 4), .call (.av (.fn (.func 22) [] [])) [(.tmp 3)], none, false⟩,
 ⟨(some 5), .un .not false (.tmp 4), none, false⟩,
 ⟨(some 6), .move (.tmp 5), none, false⟩,
 ⟨(some 7), .move (.tmp 0), (some (6, true)), false⟩,
 ⟨(some 8), .call (.av (.fn (.func 24) [] [])) [(.tmp 7)], (some (6, true)), false⟩,
 ⟨(some 9), .un .not false (.tmp 8), (some (6, true)), false⟩,
 ⟨(some 10), .pick (.tmp 6) (.tmp 9) (.av (.bool false)), none, false⟩,
 ⟨(some 2), .move (.tmp 10), none, false⟩] false)
 (.ret))⟩
/-- strings.HasPrefix -/
def ac64 : AF := ⟨8, [.tmp 4],
 .seq (.region [⟨(some 4), .move (.av (.bool false)), none, false⟩] false)
 (.seq (.region [⟨(some 5), .move (.tmp 0), none, false⟩,
 ⟨(some 6), .move (.tmp 1), none, false⟩,
 ⟨(some 7), .call (.av (.fn (.func 98) [] [])) [(.tmp 5), (.tmp 6)], none, false⟩,
 ⟨(some 4), .move (.tmp 7), none, false⟩] false)
 (.ret))⟩
/-- inkstand/lex.name -/
def ac65 : AF := ⟨28, [.cell 4 (some 6), .tmp 5],
 .seq (.region [⟨(some 3), .box 25 (.tmp 1), none, false⟩,
 ⟨(some 4), .alloc 25 [(.int .i64 0), (.int .i64 0), (.str []), (.bool false), (.int .i64 0), (.int .i64 0)], none, false⟩,
 ⟨(some 5), .move (.av (.int .i64 0)), none, false⟩] false)
 (.seq (.region [⟨(some 7), .move (.tmp 0), none, false⟩,
 ⟨(some 8), .fieldAddr 4 (.tmp 3), none, false⟩,
 ⟨(some 9), .load none (.tmp 8), none, false⟩,
 ⟨(some 10), .bin .add .other true (.tmp 9) (.av (.int .i64 1)), none, false⟩,
 ⟨(some 11), .call (.av (.fn (.func 45) [] [])) [(.tmp 7), (.tmp 10), (.av (.fn (.func 48) [] []))], none, false⟩,
 ⟨(some 12), .fieldAddr 0 (.tmp 3), none, false⟩,
 ⟨none, .store 1 (.tmp 12) (.av (.int .i64 2)), none, false⟩,
 ⟨(some 13), .fieldAddr 5 (.tmp 3), none, false⟩,
 ⟨none, .store 1 (.tmp 13) (.tmp 11), none, false⟩] false)
 (.seq (.region [⟨(some 6), .move (.av (.int .i64 0)), none, false⟩] false)
 (.seq (.region [⟨(some 15), .move (.tmp 0), none, false⟩,
 ⟨(some 16), .fieldAddr 4 (.tmp 3), none, false⟩,
 ⟨(some 17), .load none (.tmp 16), none, false⟩,
 ⟨(some 18), .bin .add .other true (.tmp 17) (.av (.int .i64 1)), none, false⟩,
 ⟨(some 19), .fieldAddr 5 (.tmp 3), none, false⟩,
 ⟨(some 20), .load none (.tmp 19), none, false⟩,
 ⟨(some 21), .slice .str (.tmp 15) (some (.tmp 18)) (some (.tmp 20)), none, false⟩,
 ⟨(some 22), .call (.av (.fn (.func 99) [] [])) [(.tmp 21)], none, false⟩,
 ⟨(some 14), .move (.tmp 22), none, false⟩,
 ⟨(some 23), .extract (.tmp 14) 0, none, false⟩,
 ⟨(some 24), .extract (.tmp 14) 1, none, false⟩,
 ⟨(some 25), .fieldAddr 2 (.tmp 3), none, false⟩,
 ⟨none, .store 1 (.tmp 25) (.tmp 23), none, false⟩,
 ⟨(some 6), .move (.tmp 24), none, false⟩] false)
 (.seq (.region [⟨(some 26), .load (some 6) (.tmp 3), none, false⟩,
 ⟨(some 27), .move (.tmp 6), none, false⟩,
 ⟨none, .store 6 (.tmp 4) (.tmp 26), none, false⟩,
 ⟨(some 5), .move (.tmp 27), none, false⟩] false)
 (.ret)))))⟩
/-- inkstand/lex.text -/
def ac66 : AF := ⟨68, [.cell 4 (some 6), .tmp 5],
 .seq (.region [⟨(some 3), .box 25 (.tmp 1), none, false⟩,
 ⟨(some 4), .alloc 25 [(.int .i64 0), (.int .i64 0), (.str []), (.bool false), (.int .i64 0), (.int .i64 0)], none, false⟩,
 ⟨(some 5), .move (.av (.int .i64 0)), none, false⟩] false)
 (.seq (.region [⟨(some 6), .bld 86 5, none, false⟩] false)
 (.seq (.region [⟨(some 7), .move (.av (.int .i64 0)), none, false⟩] false)
 (.seq (.seq (.region [⟨(some 10), .fieldAddr 4 (.tmp 3), none, false⟩,
 ⟨(some 11), .load none (.tmp 10), none, false⟩,
 ⟨(some 12), .bin .add .other true (.tmp 11) (.av (.int .i64 1)), none, false⟩,
 ⟨(some 8), .move (.tmp 12), none, false⟩] false)
 (.block 0
 (.loop
 (.seq (.seq (.region [⟨(some 13), .move (.tmp 8), none, false⟩,
 ⟨(some 14), .move (.tmp 0), none, false⟩,
 ⟨(some 15), .len .str (.tmp 14), none, false⟩,
 ⟨(some 16), .bin .lss .other true (.tmp 13) (.tmp 15), none, false⟩] false)
 (.cond (.tmp 16)
 (.skip)
 (.exit 0)))
 (.seq (.block 1
 (.seq (.seq (.region [⟨(some 19), .move (.tmp 0), none, false⟩,
 ⟨(some 20), .move (.tmp 8), none, false⟩,
 ⟨(some 21), .indexStr (.tmp 19) (.tmp 20), none, false⟩,
 ⟨(some 9), .move (.tmp 21), none, false⟩] false)
 (.seq (.region [⟨(some 22), .move (.tmp 9), none, false⟩] false)
 (.block 2
 (.seq (.region [⟨(some 24), .bin .eql .other false (.tmp 22) (.av (.int .u8 92)), none, false⟩,
 ⟨(some 23), .move (.tmp 24), none, false⟩] false)
 (.cond (.tmp 23)
 (.seq (.seq (.region [⟨(some 25), .move (.tmp 8), none, false⟩,
 ⟨(some 26), .bin .add .other true (.tmp 25) (.av (.int .i64 1)), none, false⟩,
 ⟨(some 27), .move (.tmp 0), none, false⟩,
 ⟨(some 28), .len .str (.tmp 27), none, false⟩,
 ⟨(some 29), .bin .eql .other true (.tmp 26) (.tmp 28), none, false⟩] false)
 (.cond (.tmp 29)
 (.seq (.region [⟨(some 30), .build [(.int .i64 0), (.int .i64 0), (.str []), (.bool false), (.int .i64 0), (.int .i64 0)] [], none, false⟩,
 ⟨none, .store 6 (.tmp 4) (.tmp 30), none, false⟩,
 ⟨(some 5), .move (.av (.int .i64 4)), none, false⟩] false)
 (.ret))
 (.skip)))
 (.seq (.region [⟨(some 31), .move (.tmp 8), none, false⟩,
 ⟨(some 32), .move (.tmp 0), none, false⟩,
 ⟨(some 33), .move (.tmp 8), none, false⟩,
 ⟨(some 34), .bin .add .other true (.tmp 33) (.av (.int .i64 1)), none, false⟩,
 ⟨(some 35), .slice .str (.tmp 32) (some (.tmp 34)) none, none, false⟩,
 ⟨(some 36), .call (.av (.fn (.func 100) [] [])) [(.tmp 6), (.tmp 35)], none, false⟩,
 ⟨(some 37), .bin .add .other true (.tmp 31) (.tmp 36), none, false⟩,
 ⟨(some 8), .move (.tmp 37), none, false⟩] false)
 (.exit 1)))
 (.seq (.region [⟨(some 39), .bin .eql .other false (.tmp 22) (.av (.int .u8 40)), none, false⟩,
 ⟨(some 38), .move (.tmp 39), none, false⟩] false)
 (.cond (.tmp 38)
 (.region [⟨(some 40), .move (.tmp 7), none, false⟩,
 ⟨(some 41), .bin .add .other true (.tmp 40) (.av (.int .i64 1)), none, false⟩,
 ⟨(some 7), .move (.tmp 41), none, false⟩] false)
 (.seq (.region [⟨(some 43), .bin .eql .other false (.tmp 22) (.av (.int .u8 41)), none, false⟩,
 ⟨(some 42), .move (.tmp 43), none, false⟩] false)
 (.cond (.tmp 42)
 (.seq (.seq (.region [⟨(some 44), .move (.tmp 7), none, false⟩,
 ⟨(some 45), .bin .eql .other true (.tmp 44) (.av (.int .i64 0)), none, false⟩] false)
 (.cond (.tmp 45)
 (.seq (.region [⟨(some 46), .call (.av (.fn (.func 63) [] [])) [(.tmp 6)], none, false⟩,
 ⟨(some 47), .move (.tmp 8), none, false⟩,
 ⟨(some 48), .bin .add .other true (.tmp 47) (.av (.int .i64 1)), none, false⟩,
 ⟨(some 49), .fieldAddr 0 (.tmp 3), none, false⟩,
 ⟨none, .store 1 (.tmp 49) (.av (.int .i64 3)), none, false⟩,
 ⟨(some 50), .fieldAddr 2 (.tmp 3), none, false⟩,
 ⟨none, .store 1 (.tmp 50) (.tmp 46), none, false⟩,
 ⟨(some 51), .fieldAddr 5 (.tmp 3), none, false⟩,
 ⟨none, .store 1 (.tmp 51) (.tmp 48), none, false⟩] false)
 (.seq (.region [⟨(some 52), .load (some 6) (.tmp 3), none, false⟩,
 ⟨none, .store 6 (.tmp 4) (.tmp 52), none, false⟩,
 ⟨(some 5), .move (.av (.int .i64 0)), none, false⟩] false)
 (.ret)))
 (.skip)))
 (.region [⟨(some 53), .move (.tmp 7), none, false⟩,
 ⟨(some 54), .bin .sub .other true (.tmp 53) (.av (.int .i64 1)), none, false⟩,
 ⟨(some 7), .move (.tmp 54), none, false⟩] false))
 (.seq (.region [⟨(some 56), .bin .eql .other false (.tmp 22) (.av (.int .u8 13)), none, false⟩,
 ⟨(some 55), .move (.tmp 56), none, false⟩] false)
 (.cond (.tmp 55)
 (.seq (.seq (.region [⟨(some 57), .move (.tmp 0), none, false⟩,
 ⟨(some 58), .move (.tmp 8), none, false⟩,
 ⟨(some 59), .slice .str (.tmp 57) (some (.tmp 58)) none, none, false⟩,
 ⟨(some 60), .call (.av (.fn (.func 64) [] [])) [(.tmp 59), (.av (.str [13, 10]))], none, false⟩,
 ⟨(some 61), .un .not false (.tmp 60), none, false⟩] false)
 (.cond (.tmp 61)
 (.region [⟨(some 62), .call (.av (.fn (.func 94) [] [])) [(.tmp 6), (.av (.int .u8 10))], none, false⟩] false)
 (.skip)))
 (.exit 1))
 (.skip))))))))))))
 (.region [⟨(some 63), .move (.tmp 0), none, false⟩,
 ⟨(some 64), .move (.tmp 8), none, false⟩,
 ⟨(some 65), .indexStr (.tmp 63) (.tmp 64), none, false⟩,
 ⟨(some 66), .call (.av (.fn (.func 94) [] [])) [(.tmp 6), (.tmp 65)], none, false⟩] false)))
 (.region [⟨(some 17), .move (.tmp 8), none, false⟩,
 ⟨(some 18), .bin .add .other true (.tmp 17) (.av (.int .i64 1)), none, false⟩,
 ⟨(some 8), .move (.tmp 18), none, false⟩] false))))))
 (.seq (.region [⟨(some 67), .build [(.int .i64 0), (.int .i64 0), (.str []), (.bool false), (.int .i64 0), (.int .i64 0)] [], none, false⟩,
 ⟨none, .store 6 (.tmp 4) (.tmp 67), none, false⟩,
 ⟨(some 5), .move (.av (.int .i64 4)), none, false⟩] false)
 (.ret)))))⟩
/-- inkstand/lex.digits -/
def ac67 : AF := ⟨77, [.cell 4 (some 6), .tmp 5],
 .seq (.region [⟨(some 3), .box 25 (.tmp 1), none, false⟩,
 ⟨(some 4), .alloc 25 [(.int .i64 0), (.int .i64 0), (.str []), (.bool false), (.int .i64 0), (.int .i64 0)], none, false⟩,
 ⟨(some 5), .move (.av (.int .i64 0)), none, false⟩] false)
 (.seq (.region [⟨(some 6), .move (.av (.lit (.slice none 0 0))), none, false⟩] false)
 (.seq (.seq (.region [⟨(some 11), .fieldAddr 4 (.tmp 3), none, false⟩,
 ⟨(some 12), .load none (.tmp 11), none, false⟩,
 ⟨(some 13), .bin .add .other true (.tmp 12) (.av (.int .i64 1)), none, false⟩,
 ⟨(some 7), .move (.tmp 13), none, false⟩] false)
 (.block 0
 (.loop
 (.seq (.seq (.region [⟨(some 14), .move (.tmp 7), none, false⟩,
 ⟨(some 15), .move (.tmp 0), none, false⟩,
 ⟨(some 16), .len .str (.tmp 15), none, false⟩,
 ⟨(some 17), .bin .lss .other true (.tmp 14) (.tmp 16), none, false⟩] false)
 (.cond (.tmp 17)
 (.skip)
 (.exit 0)))
 (.seq (.block 1
 (.seq (.region [⟨(some 21), .move (.tmp 0), none, false⟩,
 ⟨(some 22), .move (.tmp 7), none, false⟩,
 ⟨(some 23), .indexStr (.tmp 21) (.tmp 22), none, false⟩,
 ⟨(some 24), .call (.av (.fn (.func 101) [] [])) [(.tmp 23)], none, false⟩,
 ⟨(some 20), .move (.tmp 24), none, false⟩,
 ⟨(some 25), .extract (.tmp 20) 0, none, false⟩,
 ⟨(some 26), .extract (.tmp 20) 1, none, false⟩,
 ⟨(some 8), .move (.tmp 25), none, false⟩,
 ⟨(some 9), .move (.tmp 26), none, false⟩] false)
 (.block 2
 (.seq (.region [⟨(some 28), .move (.tmp 9), none, false⟩,
 ⟨(some 27), .move (.tmp 28), none, false⟩] false)
 (.cond (.tmp 27)
 (.region [⟨(some 29), .move (.tmp 6), none, false⟩,
 ⟨(some 30), .move (.tmp 8), none, false⟩,
 ⟨(some 31), .buildSlice false 5 1 1 [(.int .u8 0)] [(0, (.tmp 30))], none, false⟩,
 ⟨(some 32), .append 5 1 1 [(.int .u8 0)] (.tmp 29) (.tmp 31), none, false⟩,
 ⟨(some 6), .move (.tmp 32), none, false⟩] false)
 (.seq (.region [⟨(some 34), .move (.tmp 0), none, false⟩,
 ⟨(some 35), .move (.tmp 7), none, false⟩,
 ⟨(some 36), .indexStr (.tmp 34) (.tmp 35), none, false⟩,
 ⟨(some 37), .bin .eql .other false (.tmp 36) (.av (.int .u8 62)), none, false⟩,
 ⟨(some 33), .move (.tmp 37), none, false⟩] false)
 (.cond (.tmp 33)
 (.seq (.region [⟨(some 38), .move (.tmp 6), none, false⟩,
 ⟨(some 39), .buildSlice false 5 1 1 [(.int .u8 0)] [(0, (.av (.int .u8 0)))], none, false⟩,
 ⟨(some 40), .append 5 1 1 [(.int .u8 0)] (.tmp 38) (.tmp 39), none, false⟩,
 ⟨(some 6), .move (.tmp 40), none, false⟩] false)
 (.seq (.region [⟨(some 41), .move (.tmp 7), none, false⟩,
 ⟨(some 42), .bin .add .other true (.tmp 41) (.av (.int .i64 1)), none, false⟩,
 ⟨(some 43), .fieldAddr 0 (.tmp 3), none, false⟩,
 ⟨none, .store 1 (.tmp 43) (.av (.int .i64 3)), none, false⟩,
 ⟨(some 44), .fieldAddr 5 (.tmp 3), none, false⟩,
 ⟨none, .store 1 (.tmp 44) (.tmp 42), none, false⟩] false)
 (.seq (.seq (.region [⟨(some 10), .move (.av (.int .i64 1)), none, false⟩] false)
 (.block 3
 (.loop
 (.seq (.seq (.region [⟨(some 45), .move (.tmp 10), none, false⟩,
 ⟨(some 46), .move (.tmp 6), none, false⟩,
 ⟨(some 47), .len (.slice 1) (.tmp 46), none, false⟩,
 ⟨(some 48), .bin .lss .other true (.tmp 45) (.tmp 47), none, false⟩] false)
 (.cond (.tmp 48)
 (.skip)
 (.exit 3)))
 (.seq (.block 4
 (.region [⟨(some 51), .fieldAddr 2 (.tmp 3), none, false⟩,
 ⟨(some 52), .load none (.tmp 51), none, false⟩,
 ⟨(some 53), .move (.tmp 6), none, false⟩,
 ⟨(some 54), .move (.tmp 10), none, false⟩,
 ⟨(some 55), .bin .sub .other true (.tmp 54) (.av (.int .i64 1)), none, false⟩,
 ⟨(some 56), .indexAddr none 1 (.tmp 53) (.tmp 55), none, false⟩,
 ⟨(some 57), .load none (.tmp 56), none, false⟩,
 ⟨(some 58), .bin .shl .other false (.tmp 57) (.av (.int .u64 4)), none, false⟩,
 ⟨(some 59), .move (.tmp 6), none, false⟩,
 ⟨(some 60), .move (.tmp 10), none, false⟩,
 ⟨(some 61), .indexAddr none 1 (.tmp 59) (.tmp 60), none, false⟩,
 ⟨(some 62), .load none (.tmp 61), none, false⟩,
 ⟨(some 63), .bin .or .other false (.tmp 58) (.tmp 62), none, false⟩,
 ⟨(some 64), .buildSlice false 5 1 1 [(.int .u8 0)] [(0, (.tmp 63))], none, false⟩,
 ⟨(some 65), .conv .ofBytes (.tmp 64), none, false⟩,
 ⟨(some 66), .bin .add .other false (.tmp 52) (.tmp 65), none, false⟩,
 ⟨(some 67), .fieldAddr 2 (.tmp 3), none, false⟩,
 ⟨none, .store 1 (.tmp 67) (.tmp 66), none, false⟩] true))
 (.region [⟨(some 49), .move (.tmp 10), none, false⟩,
 ⟨(some 50), .bin .add .other true (.tmp 49) (.av (.int .i64 2)), none, false⟩,
 ⟨(some 10), .move (.tmp 50), none, false⟩] false))))))
 (.seq (.region [⟨(some 68), .load (some 6) (.tmp 3), none, false⟩,
 ⟨none, .store 6 (.tmp 4) (.tmp 68), none, false⟩,
 ⟨(some 5), .move (.av (.int .i64 0)), none, false⟩] false)
 (.ret)))))
 (.seq (.region [⟨(some 70), .move (.tmp 0), none, false⟩,
 ⟨(some 71), .move (.tmp 7), none, false⟩,
 ⟨(some 72), .indexStr (.tmp 70) (.tmp 71), none, false⟩,
 ⟨(some 73), .call (.av (.fn (.func 22) [] [])) [(.tmp 72)], none, false⟩,
 ⟨(some 74), .un .not false (.tmp 73), none, false⟩,
 ⟨(some 69), .move (.tmp 74), none, false⟩] false)
 (.cond (.tmp 69)
 (.seq (.region [⟨(some 75), .build [(.int .i64 0), (.int .i64 0), (.str []), (.bool false), (.int .i64 0), (.int .i64 0)] [], none, false⟩,
 ⟨none, .store 6 (.tmp 4) (.tmp 75), none, false⟩,
 ⟨(some 5), .move (.av (.int .i64 3)), none, false⟩] false)
 (.ret))
 (.skip))))))))))
 (.region [⟨(some 18), .move (.tmp 7), none, false⟩,
 ⟨(some 19), .bin .add .other true (.tmp 18) (.av (.int .i64 1)), none, false⟩,
 ⟨(some 7), .move (.tmp 19), none, false⟩] false))))))
 (.seq (.region [⟨(some 76), .build [(.int .i64 0), (.int .i64 0), (.str []), (.bool false), (.int .i64 0), (.int .i64 0)] [], none, false⟩,
 ⟨none, .store 6 (.tmp 4) (.tmp 76), none, false⟩,
 ⟨(some 5), .move (.av (.int .i64 4)), none, false⟩] false)
 (.ret))))⟩
/-- inkstand/inkstandref03.hex -/
def ac70 : AF := ⟨19, [.tmp 2],
 .seq (.region [⟨(some 2), .move (.av (.int .i64 0)), none, false⟩] false)
 (.seq (.seq (.region [⟨(some 3), .move (.av (.int .i64 0)), none, false⟩] false)
 (.block 0
 (.loop
 (.seq (.seq (.region [⟨(some 4), .move (.tmp 3), none, false⟩,
 ⟨(some 5), .bin .lss .other true (.tmp 4) (.av (.int .i64 16)), none, false⟩] false)
 (.cond (.tmp 5)
 (.skip)
 (.exit 0)))
 (.seq (.block 1
 (.seq (.region [⟨(some 8), .move (.tmp 0), none, false⟩,
 ⟨(some 9), .move (.tmp 3), none, false⟩,
 ⟨(some 10), .indexStr (.av (.str [48, 49, 50, 51, 52, 53, 54, 55, 56, 57, 97, 98, 99, 100, 101, 102])) (.tmp 9), none, false⟩,
 ⟨(some 11), .bin .eql .other false (.tmp 8) (.tmp 10), none, false⟩,
 ⟨(some 12), .move (.tmp 11), none, false⟩,
 ⟨(some 13), .move (.tmp 0), (some (12, false)), false⟩,
 ⟨(some 14), .move (.tmp 3), (some (12, false)), false⟩,
 ⟨(some 15), .indexStr (.av (.str [48, 49, 50, 51, 52, 53, 54, 55, 56, 57, 65, 66, 67, 68, 69, 70])) (.tmp 14), (some (12, false)), false⟩,
 ⟨(some 16), .bin .eql .other false (.tmp 13) (.tmp 15), (some (12, false)), false⟩,
 ⟨(some 17), .pick (.tmp 12) (.av (.bool true)) (.tmp 16), none, false⟩] false)
 (.cond (.tmp 17)
 (.seq (.region [⟨(some 18), .move (.tmp 3), none, false⟩,
 ⟨(some 2), .move (.tmp 18), none, false⟩] false)
 (.ret))
 (.skip))))
 (.region [⟨(some 6), .move (.tmp 3), none, false⟩,
 ⟨(some 7), .bin .add .other true (.tmp 6) (.av (.int .i64 1)), none, false⟩,
 ⟨(some 3), .move (.tmp 7), none, false⟩] false))))))
 (.seq (.region [⟨(some 2), .move (.av (.int .i64 (-1))), none, false⟩] false)
 (.ret)))⟩
/-- inkstand/inkstandref01.Parse -/
def ac72 : AF := ⟨117, [.tmp 2, .tmp 3],
 .seq (.region [⟨(some 2), .move (.av (.int .i64 0)), none, false⟩,
 ⟨(some 3), .move (.av (.int .i64 0)), none, false⟩] false)
 (.seq (.seq (.region [⟨(some 11), .move (.tmp 0), none, false⟩,
 ⟨(some 12), .len .str (.tmp 11), none, false⟩,
 ⟨(some 13), .bin .gtr .other true (.tmp 12) (.av (.int .i64 400)), none, false⟩] false)
 (.cond (.tmp 13)
 (.seq (.region [⟨(some 2), .move (.av (.int .i64 0)), none, false⟩,
 ⟨(some 3), .move (.av (.int .i64 2)), none, false⟩] false)
 (.ret))
 (.skip)))
 (.seq (.region [⟨(some 14), .move (.tmp 0), none, false⟩,
 ⟨(some 15), .bin .neq .other false (.tmp 14) (.av (.str [])), none, false⟩,
 ⟨(some 16), .move (.tmp 15), none, false⟩,
 ⟨(some 17), .move (.tmp 0), (some (16, true)), false⟩,
 ⟨(some 18), .indexStr (.tmp 17) (.av (.int .i64 0)), (some (16, true)), false⟩,
 ⟨(some 19), .bin .eql .other false (.tmp 18) (.av (.int .u8 45)), (some (16, true)), false⟩,
 ⟨(some 20), .pick (.tmp 16) (.tmp 19) (.av (.bool false)), none, false⟩,
 ⟨(some 4), .move (.tmp 20), none, false⟩] false)
 (.seq (.seq (.region [⟨(some 21), .move (.tmp 0), none, false⟩,
 ⟨(some 22), .bin .neq .other false (.tmp 21) (.av (.str [])), none, false⟩,
 ⟨(some 23), .move (.tmp 22), none, false⟩,
 ⟨(some 24), .move (.tmp 0), (some (23, true)), false⟩,
 ⟨(some 25), .indexStr (.tmp 24) (.av (.int .i64 0)), (some (23, true)), false⟩,
 ⟨(some 26), .bin .eql .other false (.tmp 25) (.av (.int .u8 45)), (some (23, true)), false⟩,
 ⟨(some 27), .move (.tmp 26), (some (23, true)), false⟩,
 ⟨(some 28), .move (.tmp 0), (some (27, false)), false⟩,
 ⟨(some 29), .indexStr (.tmp 28) (.av (.int .i64 0)), (some (27, false)), false⟩,
 ⟨(some 30), .bin .eql .other false (.tmp 29) (.av (.int .u8 43)), (some (27, false)), false⟩,
 ⟨(some 31), .pick (.tmp 27) (.av (.bool true)) (.tmp 30), (some (23, true)), false⟩,
 ⟨(some 32), .pick (.tmp 23) (.tmp 31) (.av (.bool false)), none, false⟩] false)
 (.cond (.tmp 32)
 (.region [⟨(some 33), .move (.tmp 0), none, false⟩,
 ⟨(some 34), .slice .str (.tmp 33) (some (.av (.int .i64 1))) none, none, false⟩,
 ⟨(some 0), .move (.tmp 34), none, false⟩] false)
 (.skip)))
 (.seq (.region [⟨(some 35), .move (.tmp 0), none, false⟩,
 ⟨(some 36), .call (.av (.fn (.func 104) [] [])) [(.tmp 35)], none, false⟩,
 ⟨(some 5), .move (.tmp 36), none, false⟩] false)
 (.seq (.region [⟨(some 37), .move (.tmp 0), none, false⟩,
 ⟨(some 38), .move (.tmp 5), none, false⟩,
 ⟨(some 39), .slice .str (.tmp 37) none (some (.tmp 38)), none, false⟩,
 ⟨(some 6), .move (.tmp 39), none, false⟩] false)
 (.seq (.region [⟨(some 7), .move (.av (.str [])), none, false⟩] false)
 (.seq (.seq (.region [⟨(some 40), .move (.tmp 5), none, false⟩,
 ⟨(some 41), .move (.tmp 0), none, false⟩,
 ⟨(some 42), .len .str (.tmp 41), none, false⟩,
 ⟨(some 43), .bin .lss .other true (.tmp 40) (.tmp 42), none, false⟩,
 ⟨(some 44), .move (.tmp 43), none, false⟩,
 ⟨(some 45), .move (.tmp 0), (some (44, true)), false⟩,
 ⟨(some 46), .move (.tmp 5), (some (44, true)), false⟩,
 ⟨(some 47), .indexStr (.tmp 45) (.tmp 46), (some (44, true)), false⟩,
 ⟨(some 48), .bin .eql .other false (.tmp 47) (.av (.int .u8 46)), (some (44, true)), false⟩,
 ⟨(some 49), .pick (.tmp 44) (.tmp 48) (.av (.bool false)), none, false⟩] false)
 (.cond (.tmp 49)
 (.seq (.region [⟨(some 50), .move (.tmp 0), none, false⟩,
 ⟨(some 51), .move (.tmp 5), none, false⟩,
 ⟨(some 52), .bin .add .other true (.tmp 51) (.av (.int .i64 1)), none, false⟩,
 ⟨(some 53), .slice .str (.tmp 50) (some (.tmp 52)) none, none, false⟩,
 ⟨(some 54), .call (.av (.fn (.func 104) [] [])) [(.tmp 53)], none, false⟩,
 ⟨(some 8), .move (.tmp 54), none, false⟩] false)
 (.seq (.region [⟨(some 55), .move (.tmp 0), none, false⟩,
 ⟨(some 56), .move (.tmp 5), none, false⟩,
 ⟨(some 57), .bin .add .other true (.tmp 56) (.av (.int .i64 1)), none, false⟩,
 ⟨(some 58), .move (.tmp 5), none, false⟩,
 ⟨(some 59), .bin .add .other true (.tmp 58) (.av (.int .i64 1)), none, false⟩,
 ⟨(some 60), .move (.tmp 8), none, false⟩,
 ⟨(some 61), .bin .add .other true (.tmp 59) (.tmp 60), none, false⟩,
 ⟨(some 62), .slice .str (.tmp 55) (some (.tmp 57)) (some (.tmp 61)), none, false⟩,
 ⟨(some 7), .move (.tmp 62), none, false⟩] false)
 (.region [⟨(some 63), .move (.tmp 5), none, false⟩,
 ⟨(some 64), .bin .add .other true (.tmp 63) (.av (.int .i64 1)), none, false⟩,
 ⟨(some 65), .move (.tmp 8), none, false⟩,
 ⟨(some 66), .bin .add .other true (.tmp 64) (.tmp 65), none, false⟩,
 ⟨(some 5), .move (.tmp 66), none, false⟩] false)))
 (.skip)))
 (.seq (.seq (.region [⟨(some 67), .move (.tmp 5), none, false⟩,
 ⟨(some 68), .move (.tmp 0), none, false⟩,
 ⟨(some 69), .len .str (.tmp 68), none, false⟩,
 ⟨(some 70), .bin .lss .other true (.tmp 67) (.tmp 69), none, false⟩,
 ⟨(some 71), .move (.tmp 70), none, false⟩,
 ⟨(some 72), .move (.tmp 6), (some (71, false)), false⟩,
 ⟨(some 73), .len .str (.tmp 72), (some (71, false)), false⟩,
 ⟨(some 74), .move (.tmp 7), (some (71, false)), false⟩,
 ⟨(some 75), .len .str (.tmp 74), (some (71, false)), false⟩,
 ⟨(some 76), .bin .add .other true (.tmp 73) (.tmp 75), (some (71, false)), false⟩,
 ⟨(some 77), .bin .eql .other true (.tmp 76) (.av (.int .i64 0)), (some (71, false)), false⟩,
 ⟨(some 78), .pick (.tmp 71) (.av (.bool true)) (.tmp 77), none, false⟩] false)
 (.cond (.tmp 78)
 (.seq (.region [⟨(some 2), .move (.av (.int .i64 0)), none, false⟩,
 ⟨(some 3), .move (.av (.int .i64 3)), none, false⟩] false)
 (.ret))
 (.skip)))
 (.seq (.region [⟨(some 79), .move (.tmp 6), none, false⟩,
 ⟨(some 80), .move (.tmp 7), none, false⟩,
 ⟨(some 81), .bin .add .other false (.tmp 80) (.av (.str [48, 48, 48, 48])), none, false⟩,
 ⟨(some 82), .slice .str (.tmp 81) none (some (.av (.int .i64 3))), none, false⟩,
 ⟨(some 83), .bin .add .other false (.tmp 79) (.tmp 82), none, false⟩,
 ⟨(some 6), .move (.tmp 83), none, false⟩] false)
 (.seq (.region [⟨(some 9), .move (.av (.int .i64 0)), none, false⟩] false)
 (.seq (.seq (.region [⟨(some 10), .move (.av (.int .i64 0)), none, false⟩] false)
 (.block 0
 (.loop
 (.seq (.seq (.region [⟨(some 84), .move (.tmp 10), none, false⟩,
 ⟨(some 85), .move (.tmp 6), none, false⟩,
 ⟨(some 86), .len .str (.tmp 85), none, false⟩,
 ⟨(some 87), .bin .lss .other true (.tmp 84) (.tmp 86), none, false⟩] false)
 (.cond (.tmp 87)
 (.skip)
 (.exit 0)))
 (.seq (.block 1
 (.seq (.region [⟨(some 90), .move (.tmp 9), none, false⟩,
 ⟨(some 91), .bin .mul .other true (.tmp 90) (.av (.int .i64 10)), none, false⟩,
 ⟨(some 92), .move (.tmp 6), none, false⟩,
 ⟨(some 93), .move (.tmp 10), none, false⟩,
 ⟨(some 94), .indexStr (.tmp 92) (.tmp 93), none, false⟩,
 ⟨(some 95), .bin .sub .other false (.tmp 94) (.av (.int .u8 48)), none, false⟩,
 ⟨(some 96), .conv (.int .i64) (.tmp 95), none, false⟩,
 ⟨(some 97), .bin .add .other true (.tmp 91) (.tmp 96), none, false⟩,
 ⟨(some 9), .move (.tmp 97), none, false⟩] false)
 (.seq (.region [⟨(some 98), .move (.tmp 9), none, false⟩,
 ⟨(some 99), .bin .gtr .other true (.tmp 98) (.av (.int .i64 1099511627776)), none, false⟩] false)
 (.cond (.tmp 99)
 (.seq (.region [⟨(some 2), .move (.av (.int .i64 0)), none, false⟩,
 ⟨(some 3), .move (.av (.int .i64 2)), none, false⟩] false)
 (.ret))
 (.skip)))))
 (.region [⟨(some 88), .move (.tmp 10), none, false⟩,
 ⟨(some 89), .bin .add .other true (.tmp 88) (.av (.int .i64 1)), none, false⟩,
 ⟨(some 10), .move (.tmp 89), none, false⟩] false))))))
 (.seq (.seq (.region [⟨(some 100), .move (.tmp 7), none, false⟩,
 ⟨(some 101), .len .str (.tmp 100), none, false⟩,
 ⟨(some 102), .bin .gtr .other true (.tmp 101) (.av (.int .i64 3)), none, false⟩,
 ⟨(some 103), .move (.tmp 102), none, false⟩,
 ⟨(some 104), .move (.tmp 7), (some (103, true)), false⟩,
 ⟨(some 105), .indexStr (.tmp 104) (.av (.int .i64 3)), (some (103, true)), false⟩,
 ⟨(some 106), .bin .geq .other false (.tmp 105) (.av (.int .u8 53)), (some (103, true)), false⟩,
 ⟨(some 107), .pick (.tmp 103) (.tmp 106) (.av (.bool false)), none, false⟩] false)
 (.cond (.tmp 107)
 (.region [⟨(some 108), .move (.tmp 9), none, false⟩,
 ⟨(some 109), .bin .add .other true (.tmp 108) (.av (.int .i64 1)), none, false⟩,
 ⟨(some 9), .move (.tmp 109), none, false⟩] false)
 (.skip)))
 (.seq (.seq (.region [⟨(some 110), .move (.tmp 4), none, false⟩] false)
 (.cond (.tmp 110)
 (.region [⟨(some 111), .move (.tmp 9), none, false⟩,
 ⟨(some 112), .un .neg true (.tmp 111), none, false⟩,
 ⟨(some 9), .move (.tmp 112), none, false⟩] false)
 (.skip)))
 (.seq (.region [⟨(some 113), .move (.tmp 9), none, false⟩,
 ⟨(some 114), .call (.av (.fn (.func 105) [] [])) [(.tmp 113)], none, false⟩,
 ⟨(some 115), .extract (.tmp 114) 0, none, false⟩,
 ⟨(some 116), .extract (.tmp 114) 1, none, false⟩,
 ⟨(some 2), .move (.tmp 115), none, false⟩,
 ⟨(some 3), .move (.tmp 116), none, false⟩] false)
 (.ret)))))))))))))))⟩
/-- internal/stringslite.IndexByte -/
def ac73 : AF := ⟨8, [.tmp 4],
 .seq (.region [⟨(some 4), .move (.av (.int .i64 0)), none, false⟩] false)
 (.seq (.region [⟨(some 5), .move (.tmp 0), none, false⟩,
 ⟨(some 6), .move (.tmp 1), none, false⟩,
 ⟨(some 7), .call (.av (.fn (.func 106) [] [])) [(.tmp 5), (.tmp 6)], none, false⟩,
 ⟨(some 4), .move (.tmp 7), none, false⟩] false)
 (.ret))⟩
/-- inkstand/fix.Sane -/
def ac84 : AF := ⟨18, [.tmp 2],
 .seq (.region [⟨(some 2), .move (.av (.bool false)), none, false⟩] false)
 (.seq (.seq (.region [⟨(some 5), .move (.tmp 0), none, false⟩,
 ⟨(some 6), .len (.slice 1) (.tmp 5), none, false⟩,
 ⟨(some 7), .move (.av (.int .i64 0)), none, false⟩] false)
 (.block 0
 (.loop
 (.seq (.region [⟨(some 8), .bin .lss .other true (.tmp 7) (.tmp 6), none, false⟩] false)
 (.seq (.cond (.tmp 8)
 (.skip)
 (.exit 0))
 (.seq (.block 1
 (.seq (.region [⟨(some 9), .indexAddr none 1 (.tmp 5) (.tmp 7), none, false⟩,
 ⟨(some 10), .load none (.tmp 9), none, false⟩,
 ⟨(some 4), .move (.tmp 10), none, false⟩] false)
 (.seq (.region [⟨(some 11), .move (.tmp 4), none, false⟩,
 ⟨(some 12), .bin .lss .other true (.tmp 11) (.av (.int .i64 (-2147483648))), none, false⟩,
 ⟨(some 13), .move (.tmp 12), none, false⟩,
 ⟨(some 14), .move (.tmp 4), (some (13, false)), false⟩,
 ⟨(some 15), .bin .gtr .other true (.tmp 14) (.av (.int .i64 2147483648)), (some (13, false)), false⟩,
 ⟨(some 16), .pick (.tmp 13) (.av (.bool true)) (.tmp 15), none, false⟩] false)
 (.cond (.tmp 16)
 (.seq (.region [⟨(some 2), .move (.av (.bool false)), none, false⟩] false)
 (.ret))
 (.skip)))))
 (.region [⟨(some 17), .bin .add .other true (.tmp 7) (.av (.int .i64 1)), none, false⟩,
 ⟨(some 7), .move (.tmp 17), none, false⟩] false)))))))
 (.seq (.region [⟨(some 2), .move (.av (.bool true)), none, false⟩] false)
 (.ret)))⟩
/-- (*strings.Builder).WriteString -/
def ac87 : AF := ⟨19, [.tmp 4, .tmp 5],
 .seq (.region [⟨(some 4), .move (.av (.int .i64 0)), none, false⟩,
 ⟨(some 5), .move (.av (.lit .nilIface)), none, false⟩] false)
 (.seq (.region [⟨(some 6), .move (.tmp 0), none, false⟩,
 ⟨(some 7), .call (.av (.fn (.func 114) [] [])) [(.tmp 6)], none, false⟩] false)
 (.seq (.region [⟨(some 8), .move (.tmp 0), none, false⟩,
 ⟨(some 9), .move (.tmp 0), none, false⟩,
 ⟨(some 10), .nilCheck (.tmp 9), none, false⟩,
 ⟨(some 11), .fieldAddr 1 (.tmp 10), none, false⟩,
 ⟨(some 12), .load none (.tmp 11), none, false⟩,
 ⟨(some 13), .move (.tmp 1), none, false⟩,
 ⟨(some 14), .append 5 1 1 [(.int .u8 0)] (.tmp 12) (.tmp 13), none, false⟩,
 ⟨(some 15), .nilCheck (.tmp 8), none, false⟩,
 ⟨(some 16), .fieldAddr 1 (.tmp 15), none, false⟩,
 ⟨none, .store 1 (.tmp 16) (.tmp 14), none, false⟩] false)
 (.seq (.region [⟨(some 17), .move (.tmp 1), none, false⟩,
 ⟨(some 18), .len .str (.tmp 17), none, false⟩,
 ⟨(some 4), .move (.tmp 18), none, false⟩,
 ⟨(some 5), .move (.av (.lit .nilIface)), none, false⟩] false)
 (.ret))))⟩
/-- (*strings.Builder).WriteByte -/
def ac94 : AF := ⟨17, [.tmp 4],
 .seq (.region [⟨(some 4), .move (.av (.lit .nilIface)), none, false⟩] false)
 (.seq (.region [⟨(some 5), .move (.tmp 0), none, false⟩,
 ⟨(some 6), .call (.av (.fn (.func 114) [] [])) [(.tmp 5)], none, false⟩] false)
 (.seq (.region [⟨(some 7), .move (.tmp 0), none, false⟩,
 ⟨(some 8), .move (.tmp 0), none, false⟩,
 ⟨(some 9), .nilCheck (.tmp 8), none, false⟩,
 ⟨(some 10), .fieldAddr 1 (.tmp 9), none, false⟩,
 ⟨(some 11), .load none (.tmp 10), none, false⟩,
 ⟨(some 12), .move (.tmp 1), none, false⟩,
 ⟨(some 13), .buildSlice false 5 1 1 [(.int .u8 0)] [(0, (.tmp 12))], none, false⟩,
 ⟨(some 14), .append 5 1 1 [(.int .u8 0)] (.tmp 11) (.tmp 13), none, false⟩,
 ⟨(some 15), .nilCheck (.tmp 7), none, false⟩,
 ⟨(some 16), .fieldAddr 1 (.tmp 15), none, false⟩,
 ⟨none, .store 1 (.tmp 16) (.tmp 14), none, false⟩] false)
 (.seq (.region [⟨(some 4), .move (.av (.lit .nilIface)), none, false⟩] false)
 (.ret))))⟩
/-- internal/stringslite.HasPrefix -/
def ac98 : AF := ⟨18, [.tmp 4],
 .seq (.region [⟨(some 4), .move (.av (.bool false)), none, false⟩] false)
 (.seq (.region [⟨(some 5), .move (.tmp 0), none, false⟩,
 ⟨(some 6), .len .str (.tmp 5), none, false⟩,
 ⟨(some 7), .move (.tmp 1), none, false⟩,
 ⟨(some 8), .len .str (.tmp 7), none, false⟩,
 ⟨(some 9), .bin .geq .other true (.tmp 6) (.tmp 8), none, false⟩,
 ⟨(some 10), .move (.tmp 9), none, false⟩,
 ⟨(some 11), .move (.tmp 0), (some (10, true)), false⟩,
 ⟨(some 12), .move (.tmp 1), (some (10, true)), false⟩,
 ⟨(some 13), .len .str (.tmp 12), (some (10, true)), false⟩,
 ⟨(some 14), .slice .str (.tmp 11) none (some (.tmp 13)), (some (10, true)), false⟩,
 ⟨(some 15), .move (.tmp 1), (some (10, true)), false⟩,
 ⟨(some 16), .bin .eql .other false (.tmp 14) (.tmp 15), (some (10, true)), false⟩,
 ⟨(some 17), .pick (.tmp 10) (.tmp 16) (.av (.bool false)), none, false⟩,
 ⟨(some 4), .move (.tmp 17), none, false⟩] false)
 (.ret))⟩
/-- inkstand/lex.named -/
def ac99 : AF := ⟨32, [.tmp 2, .tmp 3],
 .seq (.region [⟨(some 2), .move (.av (.str [])), none, false⟩,
 ⟨(some 3), .move (.av (.int .i64 0)), none, false⟩] false)
 (.seq (.region [⟨(some 4), .bld 86 5, none, false⟩] false)
 (.block 0
 (.loop
 (.block 1
 (.seq (.region [⟨(some 11), .move (.tmp 0), none, false⟩,
 ⟨(some 12), .call (.av (.fn (.func 125) [] [])) [(.tmp 11), (.av (.str [35]))], none, false⟩,
 ⟨(some 10), .move (.tmp 12), none, false⟩,
 ⟨(some 13), .extract (.tmp 10) 0, none, false⟩,
 ⟨(some 14), .extract (.tmp 10) 1, none, false⟩,
 ⟨(some 15), .extract (.tmp 10) 2, none, false⟩,
 ⟨(some 5), .move (.tmp 13), none, false⟩,
 ⟨(some 6), .move (.tmp 14), none, false⟩,
 ⟨(some 7), .move (.tmp 15), none, false⟩] false)
 (.seq (.region [⟨(some 16), .move (.tmp 5), none, false⟩,
 ⟨(some 17), .call (.av (.fn (.func 87) [] [])) [(.tmp 4), (.tmp 16)], none, false⟩] false)
 (.seq (.seq (.region [⟨(some 18), .move (.tmp 7), none, false⟩,
 ⟨(some 19), .un .not false (.tmp 18), none, false⟩] false)
 (.cond (.tmp 19)
 (.seq (.region [⟨(some 20), .call (.av (.fn (.func 63) [] [])) [(.tmp 4)], none, false⟩,
 ⟨(some 2), .move (.tmp 20), none, false⟩,
 ⟨(some 3), .move (.av (.int .i64 0)), none, false⟩] false)
 (.ret))
 (.skip)))
 (.seq (.region [⟨(some 22), .move (.tmp 6), none, false⟩,
 ⟨(some 23), .call (.av (.fn (.func 126) [] [])) [(.tmp 22)], none, false⟩,
 ⟨(some 21), .move (.tmp 23), none, false⟩,
 ⟨(some 24), .extract (.tmp 21) 0, none, false⟩,
 ⟨(some 25), .extract (.tmp 21) 1, none, false⟩,
 ⟨(some 8), .move (.tmp 24), none, false⟩,
 ⟨(some 9), .move (.tmp 25), none, false⟩] false)
 (.seq (.seq (.region [⟨(some 26), .move (.tmp 9), none, false⟩,
 ⟨(some 27), .un .not false (.tmp 26), none, false⟩] false)
 (.cond (.tmp 27)
 (.seq (.region [⟨(some 2), .move (.av (.str [])), none, false⟩,
 ⟨(some 3), .move (.av (.int .i64 3)), none, false⟩] false)
 (.ret))
 (.skip)))
 (.seq (.region [⟨(some 28), .move (.tmp 8), none, false⟩,
 ⟨(some 29), .call (.av (.fn (.func 94) [] [])) [(.tmp 4), (.tmp 28)], none, false⟩] false)
 (.region [⟨(some 30), .move (.tmp 6), none, false⟩,
 ⟨(some 31), .slice .str (.tmp 30) (some (.av (.int .i64 2))) none, none, false⟩,
 ⟨(some 0), .move (.tmp 31), none, false⟩] false)))))))))))⟩
/-- inkstand/lex.escaped -/
def ac100 : AF := ⟨38, [.tmp 4],
 .seq (.region [⟨(some 4), .move (.av (.int .i64 0)), none, false⟩] false)
 (.seq (.seq (.region [⟨(some 9), .move (.tmp 1), none, false⟩,
 ⟨(some 10), .call (.av (.fn (.func 127) [] [])) [(.tmp 9)], none, false⟩,
 ⟨(some 8), .move (.tmp 10), none, false⟩,
 ⟨(some 11), .extract (.tmp 8) 0, none, false⟩,
 ⟨(some 12), .extract (.tmp 8) 1, none, false⟩,
 ⟨(some 5), .move (.tmp 11), none, false⟩,
 ⟨(some 6), .move (.tmp 12), none, false⟩] false)
 (.seq (.region [⟨(some 13), .move (.tmp 6), none, false⟩,
 ⟨(some 14), .bin .gtr .other true (.tmp 13) (.av (.int .i64 0)), none, false⟩] false)
 (.cond (.tmp 14)
 (.seq (.region [⟨(some 15), .move (.tmp 0), none, false⟩,
 ⟨(some 16), .move (.tmp 5), none, false⟩,
 ⟨(some 17), .call (.av (.fn (.func 94) [] [])) [(.tmp 15), (.tmp 16)], none, false⟩] false)
 (.seq (.region [⟨(some 18), .move (.tmp 6), none, false⟩,
 ⟨(some 4), .move (.tmp 18), none, false⟩] false)
 (.ret)))
 (.skip))))
 (.seq (.seq (.region [⟨(some 19), .move (.tmp 1), none, false⟩,
 ⟨(some 20), .call (.av (.fn (.func 64) [] [])) [(.tmp 19), (.av (.str [13, 10]))], none, false⟩] false)
 (.cond (.tmp 20)
 (.seq (.region [⟨(some 4), .move (.av (.int .i64 2)), none, false⟩] false)
 (.ret))
 (.skip)))
 (.seq (.seq (.region [⟨(some 21), .move (.tmp 1), none, false⟩,
 ⟨(some 22), .indexStr (.tmp 21) (.av (.int .i64 0)), none, false⟩,
 ⟨(some 23), .call (.av (.fn (.func 47) [] [])) [(.av (.str [110, 114, 116, 98, 102, 10, 13])), (.tmp 22)], none, false⟩,
 ⟨(some 7), .move (.tmp 23), none, false⟩] false)
 (.block 0
 (.seq (.region [⟨(some 25), .move (.tmp 7), none, false⟩,
 ⟨(some 26), .bin .lss .other true (.tmp 25) (.av (.int .i64 0)), none, false⟩,
 ⟨(some 24), .move (.tmp 26), none, false⟩] false)
 (.cond (.tmp 24)
 (.region [⟨(some 27), .move (.tmp 0), none, false⟩,
 ⟨(some 28), .move (.tmp 1), none, false⟩,
 ⟨(some 29), .indexStr (.tmp 28) (.av (.int .i64 0)), none, false⟩,
 ⟨(some 30), .call (.av (.fn (.func 94) [] [])) [(.tmp 27), (.tmp 29)], none, false⟩] false)
 (.seq (.region [⟨(some 32), .move (.tmp 7), none, false⟩,
 ⟨(some 33), .bin .lss .other true (.tmp 32) (.av (.int .i64 5)), none, false⟩,
 ⟨(some 31), .move (.tmp 33), none, false⟩] false)
 (.cond (.tmp 31)
 (.region [⟨(some 34), .move (.tmp 0), none, false⟩,
 ⟨(some 35), .move (.tmp 7), none, false⟩,
 ⟨(some 36), .indexStr (.av (.str [10, 13, 9, 8, 12])) (.tmp 35), none, false⟩,
 ⟨(some 37), .call (.av (.fn (.func 94) [] [])) [(.tmp 34), (.tmp 36)], none, false⟩] false)
 (.skip)))))))
 (.seq (.region [⟨(some 4), .move (.av (.int .i64 1)), none, false⟩] false)
 (.ret)))))⟩
/-- inkstand/lex.digit -/
def ac101 : AF := ⟨26, [.tmp 2, .tmp 3],
 .seq (.region [⟨(some 2), .move (.av (.int .u8 0)), none, false⟩,
 ⟨(some 3), .move (.av (.bool false)), none, false⟩] false)
 (.seq (.block 0
 (.seq (.region [⟨(some 5), .move (.tmp 0), none, false⟩,
 ⟨(some 6), .bin .geq .other false (.tmp 5) (.av (.int .u8 48)), none, false⟩,
 ⟨(some 7), .move (.tmp 6), none, false⟩,
 ⟨(some 8), .move (.tmp 0), (some (7, true)), false⟩,
 ⟨(some 9), .bin .leq .other false (.tmp 8) (.av (.int .u8 57)), (some (7, true)), false⟩,
 ⟨(some 10), .pick (.tmp 7) (.tmp 9) (.av (.bool false)), none, false⟩,
 ⟨(some 4), .move (.tmp 10), none, false⟩] false)
 (.cond (.tmp 4)
 (.seq (.region [⟨(some 11), .move (.tmp 0), none, false⟩,
 ⟨(some 12), .bin .sub .other false (.tmp 11) (.av (.int .u8 48)), none, false⟩,
 ⟨(some 2), .move (.tmp 12), none, false⟩,
 ⟨(some 3), .move (.av (.bool true)), none, false⟩] false)
 (.ret))
 (.seq (.region [⟨(some 14), .move (.tmp 0), none, false⟩,
 ⟨(some 15), .bin .or .other false (.tmp 14) (.av (.int .u8 32)), none, false⟩,
 ⟨(some 16), .bin .geq .other false (.tmp 15) (.av (.int .u8 97)), none, false⟩,
 ⟨(some 17), .move (.tmp 16), none, false⟩,
 ⟨(some 18), .move (.tmp 0), (some (17, true)), false⟩,
 ⟨(some 19), .bin .or .other false (.tmp 18) (.av (.int .u8 32)), (some (17, true)), false⟩,
 ⟨(some 20), .bin .leq .other false (.tmp 19) (.av (.int .u8 102)), (some (17, true)), false⟩,
 ⟨(some 21), .pick (.tmp 17) (.tmp 20) (.av (.bool false)), none, false⟩,
 ⟨(some 13), .move (.tmp 21), none, false⟩] false)
 (.cond (.tmp 13)
 (.seq (.region [⟨(some 22), .move (.tmp 0), none, false⟩,
 ⟨(some 23), .bin .or .other false (.tmp 22) (.av (.int .u8 32)), none, false⟩,
 ⟨(some 24), .bin .sub .other false (.tmp 23) (.av (.int .u8 97)), none, false⟩,
 ⟨(some 25), .bin .add .other false (.tmp 24) (.av (.int .u8 10)), none, false⟩,
 ⟨(some 2), .move (.tmp 25), none, false⟩,
 ⟨(some 3), .move (.av (.bool true)), none, false⟩] false)
 (.ret))
 (.skip))))))
 (.seq (.region [⟨(some 2), .move (.av (.int .u8 0)), none, false⟩,
 ⟨(some 3), .move (.av (.bool false)), none, false⟩] false)
 (.ret)))⟩
/-- strings.CutPrefix -/
def ac120 : AF := ⟨11, [.tmp 4, .tmp 5],
 .seq (.region [⟨(some 4), .move (.av (.str [])), none, false⟩,
 ⟨(some 5), .move (.av (.bool false)), none, false⟩] false)
 (.seq (.region [⟨(some 6), .move (.tmp 0), none, false⟩,
 ⟨(some 7), .move (.tmp 1), none, false⟩,
 ⟨(some 8), .call (.av (.fn (.func 139) [] [])) [(.tmp 6), (.tmp 7)], none, false⟩,
 ⟨(some 9), .extract (.tmp 8) 0, none, false⟩,
 ⟨(some 10), .extract (.tmp 8) 1, none, false⟩,
 ⟨(some 4), .move (.tmp 9), none, false⟩,
 ⟨(some 5), .move (.tmp 10), none, false⟩] false)
 (.ret))⟩
/-- strings.Cut -/
def ac125 : AF := ⟨13, [.tmp 4, .tmp 5, .tmp 6],
 .seq (.region [⟨(some 4), .move (.av (.str [])), none, false⟩,
 ⟨(some 5), .move (.av (.str [])), none, false⟩,
 ⟨(some 6), .move (.av (.bool false)), none, false⟩] false)
 (.seq (.region [⟨(some 7), .move (.tmp 0), none, false⟩,
 ⟨(some 8), .move (.tmp 1), none, false⟩,
 ⟨(some 9), .call (.av (.fn (.func 148) [] [])) [(.tmp 7), (.tmp 8)], none, false⟩,
 ⟨(some 10), .extract (.tmp 9) 0, none, false⟩,
 ⟨(some 11), .extract (.tmp 9) 1, none, false⟩,
 ⟨(some 12), .extract (.tmp 9) 2, none, false⟩,
 ⟨(some 4), .move (.tmp 10), none, false⟩,
 ⟨(some 5), .move (.tmp 11), none, false⟩,
 ⟨(some 6), .move (.tmp 12), none, false⟩] false)
 (.ret))⟩
/-- inkstand/lex.octet -/
def ac126 : AF := ⟨31, [.tmp 2, .tmp 3],
 .seq (.region [⟨(some 2), .move (.av (.int .u8 0)), none, false⟩,
 ⟨(some 3), .move (.av (.bool false)), none, false⟩] false)
 (.seq (.seq (.region [⟨(some 8), .move (.tmp 0), none, false⟩,
 ⟨(some 9), .len .str (.tmp 8), none, false⟩,
 ⟨(some 10), .bin .lss .other true (.tmp 9) (.av (.int .i64 2)), none, false⟩] false)
 (.cond (.tmp 10)
 (.seq (.region [⟨(some 2), .move (.av (.int .u8 0)), none, false⟩,
 ⟨(some 3), .move (.av (.bool false)), none, false⟩] false)
 (.ret))
 (.skip)))
 (.seq (.region [⟨(some 12), .move (.tmp 0), none, false⟩,
 ⟨(some 13), .indexStr (.tmp 12) (.av (.int .i64 0)), none, false⟩,
 ⟨(some 14), .call (.av (.fn (.func 101) [] [])) [(.tmp 13)], none, false⟩,
 ⟨(some 11), .move (.tmp 14), none, false⟩,
 ⟨(some 15), .extract (.tmp 11) 0, none, false⟩,
 ⟨(some 16), .extract (.tmp 11) 1, none, false⟩,
 ⟨(some 4), .move (.tmp 15), none, false⟩,
 ⟨(some 5), .move (.tmp 16), none, false⟩] false)
 (.seq (.region [⟨(some 18), .move (.tmp 0), none, false⟩,
 ⟨(some 19), .indexStr (.tmp 18) (.av (.int .i64 1)), none, false⟩,
 ⟨(some 20), .call (.av (.fn (.func 101) [] [])) [(.tmp 19)], none, false⟩,
 ⟨(some 17), .move (.tmp 20), none, false⟩,
 ⟨(some 21), .extract (.tmp 17) 0, none, false⟩,
 ⟨(some 22), .extract (.tmp 17) 1, none, false⟩,
 ⟨(some 6), .move (.tmp 21), none, false⟩,
 ⟨(some 7), .move (.tmp 22), none, false⟩] false)
 (.seq (.region [⟨(some 23), .move (.tmp 4), none, false⟩,
 ⟨(some 24), .bin .shl .other false (.tmp 23) (.av (.int .u64 4)), none, false⟩,
 ⟨(some 25), .move (.tmp 6), none, false⟩,
 ⟨(some 26), .bin .or .other false (.tmp 24) (.tmp 25), none, false⟩,
 ⟨(some 27), .move (.tmp 5), none, false⟩,
 ⟨(some 28), .move (.tmp 27), none, false⟩,
 ⟨(some 29), .move (.tmp 7), (some (28, true)), false⟩,
 ⟨(some 30), .pick (.tmp 28) (.tmp 29) (.av (.bool false)), none, false⟩,
 ⟨(some 2), .move (.tmp 26), none, false⟩,
 ⟨(some 3), .move (.tmp 30), none, false⟩] false)
 (.ret)))))⟩
/-- inkstand/lex.octal -/
def ac127 : AF := ⟨36, [.tmp 2, .tmp 3],
 .seq (.region [⟨(some 2), .move (.av (.int .u8 0)), none, false⟩,
 ⟨(some 3), .move (.av (.int .i64 0)), none, false⟩] false)
 (.seq (.region [⟨(some 4), .move (.av (.int .i64 0)), none, false⟩,
 ⟨(some 5), .move (.av (.int .i64 0)), none, false⟩] false)
 (.seq (.block 0
 (.loop
 (.seq (.seq (.region [⟨(some 6), .move (.tmp 4), none, false⟩,
 ⟨(some 7), .move (.tmp 0), none, false⟩,
 ⟨(some 8), .len .str (.tmp 7), none, false⟩,
 ⟨(some 9), .minmax false [(.tmp 8), (.av (.int .i64 3))], none, false⟩,
 ⟨(some 10), .bin .lss .other true (.tmp 6) (.tmp 9), none, false⟩,
 ⟨(some 11), .move (.tmp 10), none, false⟩,
 ⟨(some 12), .move (.tmp 0), (some (11, true)), false⟩,
 ⟨(some 13), .move (.tmp 4), (some (11, true)), false⟩,
 ⟨(some 14), .indexStr (.tmp 12) (.tmp 13), (some (11, true)), false⟩,
 ⟨(some 15), .bin .geq .other false (.tmp 14) (.av (.int .u8 48)), (some (11, true)), false⟩,
 ⟨(some 16), .pick (.tmp 11) (.tmp 15) (.av (.bool false)), none, false⟩,
 ⟨(some 17), .move (.tmp 16), none, false⟩,
 ⟨(some 18), .move (.tmp 0), (some (17, true)), false⟩,
 ⟨(some 19), .move (.tmp 4), (some (17, true)), false⟩,
 ⟨(some 20), .indexStr (.tmp 18) (.tmp 19), (some (17, true)), false⟩,
 ⟨(some 21), .bin .leq .other false (.tmp 20) (.av (.int .u8 55)), (some (17, true)), false⟩,
 ⟨(some 22), .pick (.tmp 17) (.tmp 21) (.av (.bool false)), none, false⟩] false)
 (.cond (.tmp 22)
 (.skip)
 (.exit 0)))
 (.block 1
 (.seq (.region [⟨(some 23), .move (.tmp 5), none, false⟩,
 ⟨(some 24), .bin .shl .other true (.tmp 23) (.av (.int .u64 3)), none, false⟩,
 ⟨(some 25), .move (.tmp 0), none, false⟩,
 ⟨(some 26), .move (.tmp 4), none, false⟩,
 ⟨(some 27), .indexStr (.tmp 25) (.tmp 26), none, false⟩,
 ⟨(some 28), .bin .sub .other false (.tmp 27) (.av (.int .u8 48)), none, false⟩,
 ⟨(some 29), .conv (.int .i64) (.tmp 28), none, false⟩,
 ⟨(some 30), .bin .or .other true (.tmp 24) (.tmp 29), none, false⟩,
 ⟨(some 5), .move (.tmp 30), none, false⟩] false)
 (.region [⟨(some 31), .move (.tmp 4), none, false⟩,
 ⟨(some 32), .bin .add .other true (.tmp 31) (.av (.int .i64 1)), none, false⟩,
 ⟨(some 4), .move (.tmp 32), none, false⟩] false))))))
 (.seq (.region [⟨(some 33), .move (.tmp 5), none, false⟩,
 ⟨(some 34), .conv (.int .u8) (.tmp 33), none, false⟩,
 ⟨(some 35), .move (.tmp 4), none, false⟩,
 ⟨(some 2), .move (.tmp 34), none, false⟩,
 ⟨(some 3), .move (.tmp 35), none, false⟩] false)
 (.ret))))⟩
/-- internal/stringslite.CutPrefix -/
def ac139 : AF := ⟨15, [.tmp 4, .tmp 5],
 .seq (.region [⟨(some 4), .move (.av (.str [])), none, false⟩,
 ⟨(some 5), .move (.av (.bool false)), none, false⟩] false)
 (.seq (.seq (.region [⟨(some 6), .move (.tmp 0), none, false⟩,
 ⟨(some 7), .move (.tmp 1), none, false⟩,
 ⟨(some 8), .call (.av (.fn (.func 98) [] [])) [(.tmp 6), (.tmp 7)], none, false⟩,
 ⟨(some 9), .un .not false (.tmp 8), none, false⟩] false)
 (.cond (.tmp 9)
 (.seq (.region [⟨(some 10), .move (.tmp 0), none, false⟩,
 ⟨(some 4), .move (.tmp 10), none, false⟩,
 ⟨(some 5), .move (.av (.bool false)), none, false⟩] false)
 (.ret))
 (.skip)))
 (.seq (.region [⟨(some 11), .move (.tmp 0), none, false⟩,
 ⟨(some 12), .move (.tmp 1), none, false⟩,
 ⟨(some 13), .len .str (.tmp 12), none, false⟩,
 ⟨(some 14), .slice .str (.tmp 11) (some (.tmp 13)) none, none, false⟩,
 ⟨(some 4), .move (.tmp 14), none, false⟩,
 ⟨(some 5), .move (.av (.bool true)), none, false⟩] false)
 (.ret)))⟩
/-- internal/stringslite.Cut -/
def ac148 : AF := ⟨23, [.tmp 4, .tmp 5, .tmp 6],
 .seq (.region [⟨(some 4), .move (.av (.str [])), none, false⟩,
 ⟨(some 5), .move (.av (.str [])), none, false⟩,
 ⟨(some 6), .move (.av (.bool false)), none, false⟩] false)
 (.seq (.seq (.region [⟨(some 8), .move (.tmp 0), none, false⟩,
 ⟨(some 9), .move (.tmp 1), none, false⟩,
 ⟨(some 10), .call (.av (.fn (.func 151) [] [])) [(.tmp 8), (.tmp 9)], none, false⟩,
 ⟨(some 7), .move (.tmp 10), none, false⟩] false)
 (.seq (.region [⟨(some 11), .move (.tmp 7), none, false⟩,
 ⟨(some 12), .bin .geq .other true (.tmp 11) (.av (.int .i64 0)), none, false⟩] false)
 (.cond (.tmp 12)
 (.seq (.region [⟨(some 13), .move (.tmp 0), none, false⟩,
 ⟨(some 14), .move (.tmp 7), none, false⟩,
 ⟨(some 15), .slice .str (.tmp 13) none (some (.tmp 14)), none, false⟩,
 ⟨(some 16), .move (.tmp 0), none, false⟩,
 ⟨(some 17), .move (.tmp 7), none, false⟩,
 ⟨(some 18), .move (.tmp 1), none, false⟩,
 ⟨(some 19), .len .str (.tmp 18), none, false⟩,
 ⟨(some 20), .bin .add .other true (.tmp 17) (.tmp 19), none, false⟩,
 ⟨(some 21), .slice .str (.tmp 16) (some (.tmp 20)) none, none, false⟩,
 ⟨(some 4), .move (.tmp 15), none, false⟩,
 ⟨(some 5), .move (.tmp 21), none, false⟩,
 ⟨(some 6), .move (.av (.bool true)), none, false⟩] true)
 (.ret))
 (.skip))))
 (.seq (.region [⟨(some 22), .move (.tmp 0), none, false⟩,
 ⟨(some 4), .move (.tmp 22), none, false⟩,
 ⟨(some 5), .move (.av (.str [])), none, false⟩,
 ⟨(some 6), .move (.av (.bool false)), none, false⟩] false)
 (.ret)))⟩
/-- internal/stringslite.Index -/
def ac151 : AF := ⟨143, [.tmp 4],
 .seq (.region [⟨(some 4), .move (.av (.int .i64 0)), none, false⟩] false)
 (.seq (.region [⟨(some 14), .move (.tmp 1), none, false⟩,
 ⟨(some 15), .len .str (.tmp 14), none, false⟩,
 ⟨(some 5), .move (.tmp 15), none, false⟩] false)
 (.seq (.block 0
 (.seq (.region [⟨(some 17), .move (.tmp 5), none, false⟩,
 ⟨(some 18), .bin .eql .other true (.tmp 17) (.av (.int .i64 0)), none, false⟩,
 ⟨(some 19), .move (.tmp 18), none, false⟩,
 ⟨(some 20), .move (.tmp 1), (some (19, false)), false⟩,
 ⟨(some 21), .move (.tmp 0), (some (19, false)), false⟩,
 ⟨(some 22), .bin .eql .other false (.tmp 20) (.tmp 21), (some (19, false)), false⟩,
 ⟨(some 23), .pick (.tmp 19) (.av (.bool true)) (.tmp 22), none, false⟩,
 ⟨(some 16), .move (.tmp 23), none, false⟩] false)
 (.cond (.tmp 16)
 (.seq (.region [⟨(some 4), .move (.av (.int .i64 0)), none, false⟩] false)
 (.ret))
 (.seq (.region [⟨(some 25), .move (.tmp 5), none, false⟩,
 ⟨(some 26), .bin .eql .other true (.tmp 25) (.av (.int .i64 1)), none, false⟩,
 ⟨(some 24), .move (.tmp 26), none, false⟩] false)
 (.cond (.tmp 24)
 (.seq (.region [⟨(some 27), .move (.tmp 0), none, false⟩,
 ⟨(some 28), .move (.tmp 1), none, false⟩,
 ⟨(some 29), .indexStr (.tmp 28) (.av (.int .i64 0)), none, false⟩,
 ⟨(some 30), .call (.av (.fn (.func 73) [] [])) [(.tmp 27), (.tmp 29)], none, false⟩,
 ⟨(some 4), .move (.tmp 30), none, false⟩] false)
 (.ret))
 (.seq (.region [⟨(some 32), .move (.tmp 5), none, false⟩,
 ⟨(some 33), .move (.tmp 0), none, false⟩,
 ⟨(some 34), .len .str (.tmp 33), none, false⟩,
 ⟨(some 35), .bin .geq .other true (.tmp 32) (.tmp 34), none, false⟩,
 ⟨(some 31), .move (.tmp 35), none, false⟩] false)
 (.cond (.tmp 31)
 (.seq (.region [⟨(some 4), .move (.av (.int .i64 (-1))), none, false⟩] false)
 (.ret))
 (.seq (.region [⟨(some 37), .move (.tmp 5), none, false⟩,
 ⟨(some 38), .load none (.av (.lit (.pointer (some ⟨0, 0, none⟩)))), none, false⟩,
 ⟨(some 39), .bin .leq .other true (.tmp 37) (.tmp 38), none, false⟩,
 ⟨(some 40), .move (.tmp 39), none, false⟩,
 ⟨(some 41), .move (.tmp 0), (some (40, true)), false⟩,
 ⟨(some 42), .len .str (.tmp 41), (some (40, true)), false⟩,
 ⟨(some 43), .bin .leq .other true (.tmp 42) (.av (.int .i64 64)), (some (40, true)), false⟩,
 ⟨(some 44), .pick (.tmp 40) (.tmp 43) (.av (.bool false)), none, false⟩,
 ⟨(some 36), .move (.tmp 44), none, false⟩] false)
 (.cond (.tmp 36)
 (.seq (.region [⟨(some 45), .move (.tmp 0), none, false⟩,
 ⟨(some 46), .move (.tmp 1), none, false⟩,
 ⟨(some 47), .call (.av (.fn (.func 167) [] [])) [(.tmp 45), (.tmp 46)], none, false⟩,
 ⟨(some 4), .move (.tmp 47), none, false⟩] false)
 (.ret))
 (.skip))))))))))
 (.seq (.region [⟨(some 48), .move (.tmp 1), none, false⟩,
 ⟨(some 49), .indexStr (.tmp 48) (.av (.int .i64 0)), none, false⟩,
 ⟨(some 6), .move (.tmp 49), none, false⟩] false)
 (.seq (.region [⟨(some 50), .move (.tmp 1), none, false⟩,
 ⟨(some 51), .indexStr (.tmp 50) (.av (.int .i64 1)), none, false⟩,
 ⟨(some 7), .move (.tmp 51), none, false⟩] false)
 (.seq (.region [⟨(some 8), .move (.av (.int .i64 0)), none, false⟩] false)
 (.seq (.region [⟨(some 52), .move (.tmp 0), none, false⟩,
 ⟨(some 53), .len .str (.tmp 52), none, false⟩,
 ⟨(some 54), .move (.tmp 5), none, false⟩,
 ⟨(some 55), .bin .sub .other true (.tmp 53) (.tmp 54), none, false⟩,
 ⟨(some 56), .bin .add .other true (.tmp 55) (.av (.int .i64 1)), none, false⟩,
 ⟨(some 9), .move (.tmp 56), none, false⟩] false)
 (.seq (.region [⟨(some 10), .move (.av (.int .i64 0)), none, false⟩] false)
 (.seq (.block 1
 (.loop
 (.seq (.seq (.region [⟨(some 57), .move (.tmp 8), none, false⟩,
 ⟨(some 58), .move (.tmp 9), none, false⟩,
 ⟨(some 59), .bin .lss .other true (.tmp 57) (.tmp 58), none, false⟩] false)
 (.cond (.tmp 59)
 (.skip)
 (.exit 1)))
 (.block 2
 (.seq (.seq (.region [⟨(some 60), .move (.tmp 0), none, false⟩,
 ⟨(some 61), .move (.tmp 8), none, false⟩,
 ⟨(some 62), .indexStr (.tmp 60) (.tmp 61), none, false⟩,
 ⟨(some 63), .move (.tmp 6), none, false⟩,
 ⟨(some 64), .bin .neq .other false (.tmp 62) (.tmp 63), none, false⟩] false)
 (.cond (.tmp 64)
 (.seq (.region [⟨(some 65), .move (.tmp 0), none, false⟩,
 ⟨(some 66), .move (.tmp 8), none, false⟩,
 ⟨(some 67), .bin .add .other true (.tmp 66) (.av (.int .i64 1)), none, false⟩,
 ⟨(some 68), .move (.tmp 9), none, false⟩,
 ⟨(some 69), .slice .str (.tmp 65) (some (.tmp 67)) (some (.tmp 68)), none, false⟩,
 ⟨(some 70), .move (.tmp 6), none, false⟩,
 ⟨(some 71), .call (.av (.fn (.func 73) [] [])) [(.tmp 69), (.tmp 70)], none, false⟩,
 ⟨(some 11), .move (.tmp 71), none, false⟩] false)
 (.seq (.seq (.region [⟨(some 72), .move (.tmp 11), none, false⟩,
 ⟨(some 73), .bin .lss .other true (.tmp 72) (.av (.int .i64 0)), none, false⟩] false)
 (.cond (.tmp 73)
 (.seq (.region [⟨(some 4), .move (.av (.int .i64 (-1))), none, false⟩] false)
 (.ret))
 (.skip)))
 (.region [⟨(some 74), .move (.tmp 8), none, false⟩,
 ⟨(some 75), .move (.tmp 11), none, false⟩,
 ⟨(some 76), .bin .add .other true (.tmp 75) (.av (.int .i64 1)), none, false⟩,
 ⟨(some 77), .bin .add .other true (.tmp 74) (.tmp 76), none, false⟩,
 ⟨(some 8), .move (.tmp 77), none, false⟩] false)))
 (.skip)))
 (.seq (.seq (.region [⟨(some 78), .move (.tmp 0), none, false⟩,
 ⟨(some 79), .move (.tmp 8), none, false⟩,
 ⟨(some 80), .bin .add .other true (.tmp 79) (.av (.int .i64 1)), none, false⟩,
 ⟨(some 81), .indexStr (.tmp 78) (.tmp 80), none, false⟩,
 ⟨(some 82), .move (.tmp 7), none, false⟩,
 ⟨(some 83), .bin .eql .other false (.tmp 81) (.tmp 82), none, false⟩,
 ⟨(some 84), .move (.tmp 83), none, false⟩,
 ⟨(some 85), .move (.tmp 0), (some (84, true)), false⟩,
 ⟨(some 86), .move (.tmp 8), (some (84, true)), false⟩,
 ⟨(some 87), .move (.tmp 8), (some (84, true)), false⟩,
 ⟨(some 88), .move (.tmp 5), (some (84, true)), false⟩,
 ⟨(some 89), .bin .add .other true (.tmp 87) (.tmp 88), (some (84, true)), false⟩,
 ⟨(some 90), .slice .str (.tmp 85) (some (.tmp 86)) (some (.tmp 89)), (some (84, true)), false⟩,
 ⟨(some 91), .move (.tmp 1), (some (84, true)), false⟩,
 ⟨(some 92), .bin .eql .other false (.tmp 90) (.tmp 91), (some (84, true)), false⟩,
 ⟨(some 93), .pick (.tmp 84) (.tmp 92) (.av (.bool false)), none, false⟩] false)
 (.cond (.tmp 93)
 (.seq (.region [⟨(some 94), .move (.tmp 8), none, false⟩,
 ⟨(some 4), .move (.tmp 94), none, false⟩] false)
 (.ret))
 (.skip)))
 (.seq (.region [⟨(some 95), .move (.tmp 8), none, false⟩,
 ⟨(some 96), .bin .add .other true (.tmp 95) (.av (.int .i64 1)), none, false⟩,
 ⟨(some 8), .move (.tmp 96), none, false⟩] false)
 (.seq (.region [⟨(some 97), .move (.tmp 10), none, false⟩,
 ⟨(some 98), .bin .add .other true (.tmp 97) (.av (.int .i64 1)), none, false⟩,
 ⟨(some 10), .move (.tmp 98), none, false⟩] false)
 (.seq (.region [⟨(some 99), .move (.tmp 5), none, false⟩,
 ⟨(some 100), .load none (.av (.lit (.pointer (some ⟨0, 0, none⟩)))), none, false⟩,
 ⟨(some 101), .bin .leq .other true (.tmp 99) (.tmp 100), none, false⟩,
 ⟨(some 102), .move (.tmp 101), none, false⟩,
 ⟨(some 103), .move (.tmp 10), (some (102, true)), false⟩,
 ⟨(some 104), .move (.tmp 8), (some (102, true)), false⟩,
 ⟨(some 105), .call (.av (.fn (.func 168) [] [])) [(.tmp 104)], (some (102, true)), false⟩,
 ⟨(some 106), .bin .gtr .other true (.tmp 103) (.tmp 105), (some (102, true)), false⟩,
 ⟨(some 107), .pick (.tmp 102) (.tmp 106) (.av (.bool false)), none, false⟩] false)
 (.cond (.tmp 107)
 (.seq (.region [⟨(some 108), .move (.tmp 0), none, false⟩,
 ⟨(some 109), .move (.tmp 8), none, false⟩,
 ⟨(some 110), .slice .str (.tmp 108) (some (.tmp 109)) none, none, false⟩,
 ⟨(some 111), .move (.tmp 1), none, false⟩,
 ⟨(some 112), .call (.av (.fn (.func 167) [] [])) [(.tmp 110), (.tmp 111)], none, false⟩,
 ⟨(some 12), .move (.tmp 112), none, false⟩] false)
 (.seq (.seq (.region [⟨(some 113), .move (.tmp 12), none, false⟩,
 ⟨(some 114), .bin .geq .other true (.tmp 113) (.av (.int .i64 0)), none, false⟩] false)
 (.cond (.tmp 114)
 (.seq (.region [⟨(some 115), .move (.tmp 12), none, false⟩,
 ⟨(some 116), .move (.tmp 8), none, false⟩,
 ⟨(some 117), .bin .add .other true (.tmp 115) (.tmp 116), none, false⟩,
 ⟨(some 4), .move (.tmp 117), none, false⟩] false)
 (.ret))
 (.skip)))
 (.seq (.region [⟨(some 4), .move (.av (.int .i64 (-1))), none, false⟩] false)
 (.ret))))
 (.seq (.region [⟨(some 118), .move (.tmp 5), none, false⟩,
 ⟨(some 119), .load none (.av (.lit (.pointer (some ⟨0, 0, none⟩)))), none, false⟩,
 ⟨(some 120), .bin .gtr .other true (.tmp 118) (.tmp 119), none, false⟩,
 ⟨(some 121), .move (.tmp 120), none, false⟩,
 ⟨(some 122), .move (.tmp 10), (some (121, true)), false⟩,
 ⟨(some 123), .move (.tmp 8), (some (121, true)), false⟩,
 ⟨(some 124), .bin .shr .other true (.tmp 123) (.av (.int .u64 4)), (some (121, true)), false⟩,
 ⟨(some 125), .bin .add .other true (.av (.int .i64 4)) (.tmp 124), (some (121, true)), false⟩,
 ⟨(some 126), .bin .geq .other true (.tmp 122) (.tmp 125), (some (121, true)), false⟩,
 ⟨(some 127), .pick (.tmp 121) (.tmp 126) (.av (.bool false)), none, false⟩,
 ⟨(some 128), .move (.tmp 127), none, false⟩,
 ⟨(some 129), .move (.tmp 8), (some (128, true)), false⟩,
 ⟨(some 130), .move (.tmp 9), (some (128, true)), false⟩,
 ⟨(some 131), .bin .lss .other true (.tmp 129) (.tmp 130), (some (128, true)), false⟩,
 ⟨(some 132), .pick (.tmp 128) (.tmp 131) (.av (.bool false)), none, false⟩] false)
 (.cond (.tmp 132)
 (.seq (.region [⟨(some 133), .move (.tmp 0), none, false⟩,
 ⟨(some 134), .move (.tmp 8), none, false⟩,
 ⟨(some 135), .slice .str (.tmp 133) (some (.tmp 134)) none, none, false⟩,
 ⟨(some 136), .move (.tmp 1), none, false⟩,
 ⟨(some 137), .call (.av (.fn (.func 169) [] [])) [(.tmp 135), (.tmp 136)], none, false⟩,
 ⟨(some 13), .move (.tmp 137), none, false⟩] false)
 (.seq (.seq (.region [⟨(some 138), .move (.tmp 13), none, false⟩,
 ⟨(some 139), .bin .lss .other true (.tmp 138) (.av (.int .i64 0)), none, false⟩] false)
 (.cond (.tmp 139)
 (.seq (.region [⟨(some 4), .move (.av (.int .i64 (-1))), none, false⟩] false)
 (.ret))
 (.skip)))
 (.seq (.region [⟨(some 140), .move (.tmp 8), none, false⟩,
 ⟨(some 141), .move (.tmp 13), none, false⟩,
 ⟨(some 142), .bin .add .other true (.tmp 140) (.tmp 141), none, false⟩,
 ⟨(some 4), .move (.tmp 142), none, false⟩] false)
 (.ret))))
 (.skip)))))))))))))
 (.seq (.region [⟨(some 4), .move (.av (.int .i64 (-1))), none, false⟩] false)
 (.ret))))))))))⟩
end Ink.D
