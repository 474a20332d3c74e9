import Derived.Test.YtipdgghfkdlfmaaGreatDoorInkBB
set_option linter.all false
namespace Ink.D
open Go
/-- inkstand/inkstandlaw04.CosSets -/
def ac3 : AF := ⟨107, [.tmp 8],
 .seq (.region [⟨(some 4), .box 26 (.tmp 0), none, false⟩,
 ⟨(some 7), .box 26 (.tmp 3), none, false⟩,
 ⟨(some 8), .move (.av (.bool false)), none, false⟩] false)
 (.seq (.region [⟨(some 12), .call (.av (.fn (.func 6) [] [])) [], none, false⟩,
 ⟨(some 9), .move (.tmp 12), none, false⟩] false)
 (.seq (.seq (.region [⟨(some 13), .load (some 6) (.tmp 4), none, false⟩,
 ⟨(some 14), .call (.av (.fn (.func 7) [] [])) [(.tmp 13), (.av (.int .i64 2000))], none, false⟩,
 ⟨(some 15), .un .not false (.tmp 14), none, false⟩,
 ⟨(some 16), .move (.tmp 15), none, false⟩,
 ⟨(some 17), .load (some 6) (.tmp 7), (some (16, false)), false⟩,
 ⟨(some 18), .call (.av (.fn (.func 7) [] [])) [(.tmp 17), (.av (.int .i64 2000))], (some (16, false)), false⟩,
 ⟨(some 19), .un .not false (.tmp 18), (some (16, false)), false⟩,
 ⟨(some 20), .pick (.tmp 16) (.av (.bool true)) (.tmp 19), none, false⟩,
 ⟨(some 21), .move (.tmp 20), none, false⟩,
 ⟨(some 22), .move (.tmp 1), (some (21, false)), false⟩,
 ⟨(some 23), .len .str (.tmp 22), (some (21, false)), false⟩,
 ⟨(some 24), .move (.tmp 2), (some (21, false)), false⟩,
 ⟨(some 25), .len .str (.tmp 24), (some (21, false)), false⟩,
 ⟨(some 26), .bin .add .other true (.tmp 23) (.tmp 25), (some (21, false)), false⟩,
 ⟨(some 27), .bin .gtr .other true (.tmp 26) (.av (.int .i64 300)), (some (21, false)), false⟩,
 ⟨(some 28), .pick (.tmp 21) (.av (.bool true)) (.tmp 27), none, false⟩] false)
 (.cond (.tmp 28)
 (.seq (.region [⟨(some 29), .move (.tmp 9), none, false⟩,
 ⟨(some 8), .move (.tmp 29), none, false⟩] false)
 (.ret))
 (.skip)))
 (.seq (.seq (.region [⟨(some 30), .fieldAddr 0 (.tmp 4), none, false⟩,
 ⟨(some 31), .load none (.tmp 30), none, false⟩,
 ⟨(some 32), .bin .neq .other true (.tmp 31) (.av (.int .i64 6)), none, false⟩,
 ⟨(some 33), .move (.tmp 32), none, false⟩,
 ⟨(some 34), .fieldAddr 0 (.tmp 4), (some (33, true)), false⟩,
 ⟨(some 35), .load none (.tmp 34), (some (33, true)), false⟩,
 ⟨(some 36), .bin .neq .other true (.tmp 35) (.av (.int .i64 8)), (some (33, true)), false⟩,
 ⟨(some 37), .pick (.tmp 33) (.tmp 36) (.av (.bool false)), none, false⟩] false)
 (.cond (.tmp 37)
 (.seq (.region [⟨(some 38), .move (.tmp 9), none, false⟩,
 ⟨(some 39), .move (.tmp 38), none, false⟩,
 ⟨(some 40), .load (some 6) (.tmp 4), (some (39, true)), false⟩,
 ⟨(some 41), .move (.tmp 1), (some (39, true)), false⟩,
 ⟨(some 42), .load (some 6) (.tmp 7), (some (39, true)), false⟩,
 ⟨(some 43), .call (.av (.fn (.func 9) [] [])) [(.tmp 40), (.tmp 41), (.tmp 42)], (some (39, true)), true⟩,
 ⟨(some 44), .load (some 6) (.tmp 4), (some (39, true)), false⟩,
 ⟨(some 45), .call (.av (.fn (.func 8) [] [])) [(.tmp 43), (.tmp 44)], (some (39, true)), false⟩,
 ⟨(some 46), .pick (.tmp 39) (.tmp 45) (.av (.bool false)), none, false⟩,
 ⟨(some 8), .move (.tmp 46), none, false⟩] true)
 (.ret))
 (.skip)))
 (.seq (.region [⟨(some 47), .load (some 6) (.tmp 4), none, false⟩,
 ⟨(some 48), .move (.tmp 1), none, false⟩,
 ⟨(some 49), .load (some 6) (.tmp 7), none, false⟩,
 ⟨(some 50), .call (.av (.fn (.func 9) [] [])) [(.tmp 47), (.tmp 48), (.tmp 49)], none, false⟩,
 ⟨(some 10), .alloc 26 [(.int .i64 0), (.int .i64 0), (.int .i64 0), (.str []), (.lit (.slice none 0 0)), (.lit (.slice none 0 0))], none, false⟩,
 ⟨none, .store 6 (.tmp 10) (.tmp 50), none, false⟩] false)
 (.seq (.region [⟨(some 51), .load (some 6) (.tmp 10), none, false⟩,
 ⟨(some 52), .move (.tmp 1), none, false⟩,
 ⟨(some 53), .build [(.int .i64 0), (.int .i64 0), (.int .i64 0), (.str []), (.lit (.slice none 0 0)), (.lit (.slice none 0 0))] [], none, false⟩,
 ⟨(some 54), .call (.av (.fn (.func 9) [] [])) [(.tmp 51), (.tmp 52), (.tmp 53)], none, false⟩,
 ⟨(some 11), .alloc 26 [(.int .i64 0), (.int .i64 0), (.int .i64 0), (.str []), (.lit (.slice none 0 0)), (.lit (.slice none 0 0))], none, false⟩,
 ⟨none, .store 6 (.tmp 11) (.tmp 54), none, false⟩] false)
 (.seq (.seq (.region [⟨(some 55), .load (some 6) (.tmp 10), none, false⟩,
 ⟨(some 56), .move (.tmp 1), none, false⟩,
 ⟨(some 57), .call (.av (.fn (.func 10) [] [])) [(.tmp 55), (.tmp 56)], none, true⟩,
 ⟨(some 58), .load (some 6) (.tmp 7), none, false⟩,
 ⟨(some 59), .call (.av (.fn (.func 8) [] [])) [(.tmp 57), (.tmp 58)], none, false⟩,
 ⟨(some 60), .un .not false (.tmp 59), none, false⟩,
 ⟨(some 61), .move (.tmp 60), none, false⟩,
 ⟨(some 62), .fieldAddr 0 (.tmp 7), (some (61, true)), false⟩,
 ⟨(some 63), .load none (.tmp 62), (some (61, true)), false⟩,
 ⟨(some 64), .bin .neq .other true (.tmp 63) (.av (.int .i64 0)), (some (61, true)), false⟩,
 ⟨(some 65), .pick (.tmp 61) (.tmp 64) (.av (.bool false)), none, false⟩,
 ⟨(some 66), .move (.tmp 65), none, false⟩,
 ⟨(some 67), .load (some 6) (.tmp 11), (some (66, false)), false⟩,
 ⟨(some 68), .move (.tmp 1), (some (66, false)), false⟩,
 ⟨(some 69), .call (.av (.fn (.func 10) [] [])) [(.tmp 67), (.tmp 68)], (some (66, false)), false⟩,
 ⟨(some 70), .field 0 none (.tmp 69), (some (66, false)), false⟩,
 ⟨(some 71), .bin .neq .other true (.tmp 70) (.av (.int .i64 0)), (some (66, false)), false⟩,
 ⟨(some 72), .pick (.tmp 66) (.av (.bool true)) (.tmp 71), none, false⟩] true)
 (.cond (.tmp 72)
 (.seq (.region [⟨(some 8), .move (.av (.bool false)), none, false⟩] false)
 (.ret))
 (.skip)))
 (.seq (.seq (.region [⟨(some 73), .move (.tmp 1), none, false⟩,
 ⟨(some 74), .move (.tmp 2), none, false⟩,
 ⟨(some 75), .bin .neq .other false (.tmp 73) (.tmp 74), none, false⟩,
 ⟨(some 76), .move (.tmp 75), none, false⟩,
 ⟨(some 77), .load (some 6) (.tmp 10), (some (76, true)), false⟩,
 ⟨(some 78), .move (.tmp 2), (some (76, true)), false⟩,
 ⟨(some 79), .call (.av (.fn (.func 10) [] [])) [(.tmp 77), (.tmp 78)], (some (76, true)), true⟩,
 ⟨(some 80), .load (some 6) (.tmp 4), (some (76, true)), false⟩,
 ⟨(some 81), .move (.tmp 2), (some (76, true)), false⟩,
 ⟨(some 82), .call (.av (.fn (.func 10) [] [])) [(.tmp 80), (.tmp 81)], (some (76, true)), false⟩,
 ⟨(some 83), .call (.av (.fn (.func 8) [] [])) [(.tmp 79), (.tmp 82)], (some (76, true)), false⟩,
 ⟨(some 84), .un .not false (.tmp 83), (some (76, true)), false⟩,
 ⟨(some 85), .pick (.tmp 76) (.tmp 84) (.av (.bool false)), none, false⟩] true)
 (.cond (.tmp 85)
 (.seq (.region [⟨(some 8), .move (.av (.bool false)), none, false⟩] false)
 (.ret))
 (.skip)))
 (.seq (.region [⟨(some 86), .move (.tmp 9), none, false⟩,
 ⟨(some 87), .move (.tmp 86), none, false⟩,
 ⟨(some 88), .load (some 6) (.tmp 10), (some (87, true)), false⟩,
 ⟨(some 89), .move (.tmp 1), (some (87, true)), false⟩,
 ⟨(some 90), .load (some 6) (.tmp 7), (some (87, true)), false⟩,
 ⟨(some 91), .call (.av (.fn (.func 9) [] [])) [(.tmp 88), (.tmp 89), (.tmp 90)], (some (87, true)), true⟩,
 ⟨(some 92), .load (some 6) (.tmp 10), (some (87, true)), false⟩,
 ⟨(some 93), .call (.av (.fn (.func 8) [] [])) [(.tmp 91), (.tmp 92)], (some (87, true)), false⟩,
 ⟨(some 94), .pick (.tmp 87) (.tmp 93) (.av (.bool false)), none, false⟩,
 ⟨(some 95), .move (.tmp 94), none, false⟩,
 ⟨(some 96), .fieldAddr 0 (.tmp 7), (some (95, true)), false⟩,
 ⟨(some 97), .load none (.tmp 96), (some (95, true)), false⟩,
 ⟨(some 98), .bin .neq .other true (.tmp 97) (.av (.int .i64 0)), (some (95, true)), false⟩,
 ⟨(some 99), .move (.tmp 98), (some (95, true)), false⟩,
 ⟨(some 100), .load (some 6) (.tmp 10), (some (99, false)), false⟩,
 ⟨(some 101), .move (.tmp 1), (some (99, false)), false⟩,
 ⟨(some 102), .call (.av (.fn (.func 10) [] [])) [(.tmp 100), (.tmp 101)], (some (99, false)), false⟩,
 ⟨(some 103), .build [(.int .i64 0), (.int .i64 0), (.int .i64 0), (.str []), (.lit (.slice none 0 0)), (.lit (.slice none 0 0))] [], (some (99, false)), false⟩,
 ⟨(some 104), .call (.av (.fn (.func 8) [] [])) [(.tmp 102), (.tmp 103)], (some (99, false)), false⟩,
 ⟨(some 105), .pick (.tmp 99) (.av (.bool true)) (.tmp 104), (some (95, true)), false⟩,
 ⟨(some 106), .pick (.tmp 95) (.tmp 105) (.av (.bool false)), none, false⟩,
 ⟨(some 8), .move (.tmp 106), none, false⟩] true)
 (.ret)))))))))⟩
/-- inkstand/inkstandlaw04.CosSame -/
def ac4 : AF := ⟨92, [.tmp 6],
 .seq (.region [⟨(some 3), .box 26 (.tmp 0), none, false⟩,
 ⟨(some 4), .box 26 (.tmp 1), none, false⟩,
 ⟨(some 6), .move (.av (.bool false)), none, false⟩] false)
 (.seq (.region [⟨(some 11), .call (.av (.fn (.func 6) [] [])) [], none, false⟩,
 ⟨(some 7), .move (.tmp 11), none, false⟩] false)
 (.seq (.seq (.region [⟨(some 12), .load (some 6) (.tmp 3), none, false⟩,
 ⟨(some 13), .call (.av (.fn (.func 7) [] [])) [(.tmp 12), (.av (.int .i64 2000))], none, false⟩,
 ⟨(some 14), .un .not false (.tmp 13), none, false⟩,
 ⟨(some 15), .move (.tmp 14), none, false⟩,
 ⟨(some 16), .load (some 6) (.tmp 4), (some (15, false)), false⟩,
 ⟨(some 17), .call (.av (.fn (.func 7) [] [])) [(.tmp 16), (.av (.int .i64 2000))], (some (15, false)), false⟩,
 ⟨(some 18), .un .not false (.tmp 17), (some (15, false)), false⟩,
 ⟨(some 19), .pick (.tmp 15) (.av (.bool true)) (.tmp 18), none, false⟩,
 ⟨(some 20), .move (.tmp 19), none, false⟩,
 ⟨(some 21), .move (.tmp 2), (some (20, false)), false⟩,
 ⟨(some 22), .len .str (.tmp 21), (some (20, false)), false⟩,
 ⟨(some 23), .bin .gtr .other true (.tmp 22) (.av (.int .i64 300)), (some (20, false)), false⟩,
 ⟨(some 24), .pick (.tmp 20) (.av (.bool true)) (.tmp 23), none, false⟩] false)
 (.cond (.tmp 24)
 (.seq (.region [⟨(some 25), .move (.tmp 7), none, false⟩,
 ⟨(some 6), .move (.tmp 25), none, false⟩] false)
 (.ret))
 (.skip)))
 (.seq (.region [⟨(some 26), .load (some 6) (.tmp 3), none, false⟩,
 ⟨(some 27), .buildSlice false 26 6 1 [(.int .i64 0), (.int .i64 0), (.int .i64 0), (.str []), (.lit (.slice none 0 0)), (.lit (.slice none 0 0))] [(0, (.tmp 26))], none, false⟩,
 ⟨(some 28), .build [(.int .i64 0), (.int .i64 0), (.int .i64 0), (.str []), (.lit (.slice none 0 0)), (.lit (.slice none 0 0))] [(0, 1, (.av (.int .i64 5))), (4, 1, (.tmp 27))], none, false⟩,
 ⟨(some 8), .alloc 26 [(.int .i64 0), (.int .i64 0), (.int .i64 0), (.str []), (.lit (.slice none 0 0)), (.lit (.slice none 0 0))], none, false⟩,
 ⟨none, .store 6 (.tmp 8) (.tmp 28), none, false⟩] false)
 (.seq (.region [⟨(some 29), .move (.tmp 2), none, false⟩,
 ⟨(some 30), .load (some 6) (.tmp 3), none, false⟩,
 ⟨(some 31), .build [(.str []), (.int .i64 0), (.int .i64 0), (.int .i64 0), (.str []), (.lit (.slice none 0 0)), (.lit (.slice none 0 0))] [(0, 1, (.tmp 29)), (1, 6, (.tmp 30))], none, false⟩,
 ⟨(some 32), .move (.tmp 2), none, false⟩,
 ⟨(some 33), .bin .add .other false (.tmp 32) (.av (.str [120])), none, false⟩,
 ⟨(some 34), .load (some 6) (.tmp 4), none, false⟩,
 ⟨(some 35), .build [(.str []), (.int .i64 0), (.int .i64 0), (.int .i64 0), (.str []), (.lit (.slice none 0 0)), (.lit (.slice none 0 0))] [(0, 1, (.tmp 33)), (1, 6, (.tmp 34))], none, false⟩,
 ⟨(some 36), .buildSlice false 34 7 2 [(.str []), (.int .i64 0), (.int .i64 0), (.int .i64 0), (.str []), (.lit (.slice none 0 0)), (.lit (.slice none 0 0))] [(0, (.tmp 31)), (1, (.tmp 35))], none, false⟩,
 ⟨(some 37), .build [(.int .i64 0), (.int .i64 0), (.int .i64 0), (.str []), (.lit (.slice none 0 0)), (.lit (.slice none 0 0))] [(0, 1, (.av (.int .i64 6))), (5, 1, (.tmp 36))], none, false⟩,
 ⟨(some 9), .alloc 26 [(.int .i64 0), (.int .i64 0), (.int .i64 0), (.str []), (.lit (.slice none 0 0)), (.lit (.slice none 0 0))], none, false⟩,
 ⟨none, .store 6 (.tmp 9) (.tmp 37), none, false⟩] false)
 (.seq (.region [⟨(some 38), .move (.tmp 2), none, false⟩,
 ⟨(some 39), .bin .add .other false (.tmp 38) (.av (.str [120])), none, false⟩,
 ⟨(some 40), .load (some 6) (.tmp 4), none, false⟩,
 ⟨(some 41), .build [(.str []), (.int .i64 0), (.int .i64 0), (.int .i64 0), (.str []), (.lit (.slice none 0 0)), (.lit (.slice none 0 0))] [(0, 1, (.tmp 39)), (1, 6, (.tmp 40))], none, false⟩,
 ⟨(some 42), .move (.tmp 2), none, false⟩,
 ⟨(some 43), .load (some 6) (.tmp 3), none, false⟩,
 ⟨(some 44), .build [(.str []), (.int .i64 0), (.int .i64 0), (.int .i64 0), (.str []), (.lit (.slice none 0 0)), (.lit (.slice none 0 0))] [(0, 1, (.tmp 42)), (1, 6, (.tmp 43))], none, false⟩,
 ⟨(some 45), .buildSlice false 34 7 2 [(.str []), (.int .i64 0), (.int .i64 0), (.int .i64 0), (.str []), (.lit (.slice none 0 0)), (.lit (.slice none 0 0))] [(0, (.tmp 41)), (1, (.tmp 44))], none, false⟩,
 ⟨(some 46), .build [(.int .i64 0), (.int .i64 0), (.int .i64 0), (.str []), (.lit (.slice none 0 0)), (.lit (.slice none 0 0))] [(0, 1, (.av (.int .i64 6))), (5, 1, (.tmp 45))], none, false⟩,
 ⟨(some 10), .alloc 26 [(.int .i64 0), (.int .i64 0), (.int .i64 0), (.str []), (.lit (.slice none 0 0)), (.lit (.slice none 0 0))], none, false⟩,
 ⟨none, .store 6 (.tmp 10) (.tmp 46), none, false⟩] false)
 (.seq (.region [⟨(some 47), .move (.tmp 7), none, false⟩,
 ⟨(some 48), .move (.tmp 47), none, false⟩,
 ⟨(some 49), .load (some 6) (.tmp 3), (some (48, true)), false⟩,
 ⟨(some 50), .load (some 6) (.tmp 3), (some (48, true)), false⟩,
 ⟨(some 51), .call (.av (.fn (.func 11) [] [])) [(.tmp 49), (.tmp 50)], (some (48, true)), false⟩,
 ⟨(some 52), .pick (.tmp 48) (.tmp 51) (.av (.bool false)), none, false⟩,
 ⟨(some 53), .move (.tmp 52), none, false⟩,
 ⟨(some 54), .load (some 6) (.tmp 3), (some (53, true)), false⟩,
 ⟨(some 55), .load (some 6) (.tmp 4), (some (53, true)), false⟩,
 ⟨(some 56), .call (.av (.fn (.func 11) [] [])) [(.tmp 54), (.tmp 55)], (some (53, true)), true⟩,
 ⟨(some 57), .load (some 6) (.tmp 4), (some (53, true)), false⟩,
 ⟨(some 58), .load (some 6) (.tmp 3), (some (53, true)), false⟩,
 ⟨(some 59), .call (.av (.fn (.func 11) [] [])) [(.tmp 57), (.tmp 58)], (some (53, true)), false⟩,
 ⟨(some 60), .bin .eql .bool false (.tmp 56) (.tmp 59), (some (53, true)), false⟩,
 ⟨(some 61), .pick (.tmp 53) (.tmp 60) (.av (.bool false)), none, false⟩,
 ⟨(some 62), .move (.tmp 61), none, false⟩,
 ⟨(some 63), .load (some 6) (.tmp 3), (some (62, true)), false⟩,
 ⟨(some 64), .load (some 6) (.tmp 8), (some (62, true)), false⟩,
 ⟨(some 65), .call (.av (.fn (.func 11) [] [])) [(.tmp 63), (.tmp 64)], (some (62, true)), false⟩,
 ⟨(some 66), .un .not false (.tmp 65), (some (62, true)), false⟩,
 ⟨(some 67), .pick (.tmp 62) (.tmp 66) (.av (.bool false)), none, false⟩,
 ⟨(some 68), .move (.tmp 67), none, false⟩,
 ⟨(some 69), .load (some 6) (.tmp 9), (some (68, true)), false⟩,
 ⟨(some 70), .load (some 6) (.tmp 10), (some (68, true)), false⟩,
 ⟨(some 71), .call (.av (.fn (.func 11) [] [])) [(.tmp 69), (.tmp 70)], (some (68, true)), false⟩,
 ⟨(some 72), .pick (.tmp 68) (.tmp 71) (.av (.bool false)), none, false⟩,
 ⟨(some 73), .move (.tmp 72), none, false⟩,
 ⟨(some 74), .load (some 6) (.tmp 8), (some (73, true)), false⟩,
 ⟨(some 75), .call (.av (.fn (.func 12) [] [])) [(.tmp 74)], (some (73, true)), true⟩,
 ⟨(some 76), .load (some 6) (.tmp 3), (some (73, true)), false⟩,
 ⟨(some 77), .call (.av (.fn (.func 12) [] [])) [(.tmp 76)], (some (73, true)), false⟩,
 ⟨(some 78), .bin .add .other true (.tmp 77) (.av (.int .i64 1)), (some (73, true)), false⟩,
 ⟨(some 79), .bin .eql .other true (.tmp 75) (.tmp 78), (some (73, true)), false⟩,
 ⟨(some 80), .pick (.tmp 73) (.tmp 79) (.av (.bool false)), none, false⟩,
 ⟨(some 81), .move (.tmp 80), none, false⟩,
 ⟨(some 82), .load (some 6) (.tmp 9), (some (81, true)), false⟩,
 ⟨(some 83), .call (.av (.fn (.func 12) [] [])) [(.tmp 82)], (some (81, true)), true⟩,
 ⟨(some 84), .load (some 6) (.tmp 3), (some (81, true)), false⟩,
 ⟨(some 85), .call (.av (.fn (.func 12) [] [])) [(.tmp 84)], (some (81, true)), true⟩,
 ⟨(some 86), .load (some 6) (.tmp 4), (some (81, true)), false⟩,
 ⟨(some 87), .call (.av (.fn (.func 12) [] [])) [(.tmp 86)], (some (81, true)), false⟩,
 ⟨(some 88), .bin .add .other true (.tmp 85) (.tmp 87), (some (81, true)), false⟩,
 ⟨(some 89), .bin .add .other true (.tmp 88) (.av (.int .i64 1)), (some (81, true)), false⟩,
 ⟨(some 90), .bin .eql .other true (.tmp 83) (.tmp 89), (some (81, true)), false⟩,
 ⟨(some 91), .pick (.tmp 81) (.tmp 90) (.av (.bool false)), none, false⟩,
 ⟨(some 6), .move (.tmp 91), none, false⟩] true)
 (.ret)))))))⟩
/-- inkstand/inkstandlaw04.awake -/
def ac6 : AF := ⟨70, [.tmp 0],
 .seq (.region [⟨(some 0), .move (.av (.bool false)), none, false⟩] false)
 (.seq (.region [⟨(some 8), .call (.av (.fn (.func 20) [] [])) [(.av (.str [91, 49, 32, 48, 32, 82, 32, 47, 65, 93])), (.av (.int .i64 0))], none, false⟩,
 ⟨(some 7), .move (.tmp 8), none, false⟩,
 ⟨(some 9), .extract (.tmp 7) 0, none, false⟩,
 ⟨(some 10), .extract (.tmp 7) 1, none, false⟩,
 ⟨(some 11), .extract (.tmp 7) 2, none, false⟩,
 ⟨(some 1), .alloc 26 [(.int .i64 0), (.int .i64 0), (.int .i64 0), (.str []), (.lit (.slice none 0 0)), (.lit (.slice none 0 0))], none, false⟩,
 ⟨none, .store 6 (.tmp 1) (.tmp 9), none, false⟩,
 ⟨(some 2), .move (.tmp 10), none, false⟩,
 ⟨(some 3), .move (.tmp 11), none, false⟩] false)
 (.seq (.region [⟨(some 13), .call (.av (.fn (.func 20) [] [])) [(.av (.str [60, 60, 47, 65, 32, 110, 117, 108, 108, 62, 62])), (.av (.int .i64 0))], none, false⟩,
 ⟨(some 12), .move (.tmp 13), none, false⟩,
 ⟨(some 14), .extract (.tmp 12) 0, none, false⟩,
 ⟨(some 15), .extract (.tmp 12) 1, none, false⟩,
 ⟨(some 16), .extract (.tmp 12) 2, none, false⟩,
 ⟨(some 4), .alloc 26 [(.int .i64 0), (.int .i64 0), (.int .i64 0), (.str []), (.lit (.slice none 0 0)), (.lit (.slice none 0 0))], none, false⟩,
 ⟨none, .store 6 (.tmp 4) (.tmp 14), none, false⟩,
 ⟨(some 5), .move (.tmp 15), none, false⟩,
 ⟨(some 6), .move (.tmp 16), none, false⟩] false)
 (.seq (.region [⟨(some 17), .move (.tmp 3), none, false⟩,
 ⟨(some 18), .bin .eql .other true (.tmp 17) (.av (.int .i64 0)), none, false⟩,
 ⟨(some 19), .move (.tmp 18), none, false⟩,
 ⟨(some 20), .move (.tmp 2), (some (19, true)), false⟩,
 ⟨(some 21), .bin .eql .other true (.tmp 20) (.av (.int .i64 10)), (some (19, true)), false⟩,
 ⟨(some 22), .pick (.tmp 19) (.tmp 21) (.av (.bool false)), none, false⟩,
 ⟨(some 23), .move (.tmp 22), none, false⟩,
 ⟨(some 24), .fieldAddr 4 (.tmp 1), (some (23, true)), false⟩,
 ⟨(some 25), .load none (.tmp 24), (some (23, true)), false⟩,
 ⟨(some 26), .len (.slice 6) (.tmp 25), (some (23, true)), false⟩,
 ⟨(some 27), .bin .eql .other true (.tmp 26) (.av (.int .i64 2)), (some (23, true)), false⟩,
 ⟨(some 28), .pick (.tmp 23) (.tmp 27) (.av (.bool false)), none, false⟩,
 ⟨(some 29), .move (.tmp 28), none, false⟩,
 ⟨(some 30), .fieldAddr 4 (.tmp 1), (some (29, true)), false⟩,
 ⟨(some 31), .load none (.tmp 30), (some (29, true)), false⟩,
 ⟨(some 32), .indexAddr none 6 (.tmp 31) (.av (.int .i64 0)), (some (29, true)), false⟩,
 ⟨(some 33), .fieldAddr 0 (.tmp 32), (some (29, true)), false⟩,
 ⟨(some 34), .load none (.tmp 33), (some (29, true)), false⟩,
 ⟨(some 35), .bin .eql .other true (.tmp 34) (.av (.int .i64 7)), (some (29, true)), false⟩,
 ⟨(some 36), .pick (.tmp 29) (.tmp 35) (.av (.bool false)), none, false⟩,
 ⟨(some 37), .move (.tmp 36), none, false⟩,
 ⟨(some 38), .move (.tmp 6), (some (37, true)), false⟩,
 ⟨(some 39), .bin .eql .other true (.tmp 38) (.av (.int .i64 0)), (some (37, true)), false⟩,
 ⟨(some 40), .pick (.tmp 37) (.tmp 39) (.av (.bool false)), none, false⟩,
 ⟨(some 41), .move (.tmp 40), none, false⟩,
 ⟨(some 42), .fieldAddr 0 (.tmp 4), (some (41, true)), false⟩,
 ⟨(some 43), .load none (.tmp 42), (some (41, true)), false⟩,
 ⟨(some 44), .bin .eql .other true (.tmp 43) (.av (.int .i64 6)), (some (41, true)), false⟩,
 ⟨(some 45), .pick (.tmp 41) (.tmp 44) (.av (.bool false)), none, false⟩,
 ⟨(some 46), .move (.tmp 45), none, false⟩,
 ⟨(some 47), .fieldAddr 5 (.tmp 4), (some (46, true)), false⟩,
 ⟨(some 48), .load none (.tmp 47), (some (46, true)), false⟩,
 ⟨(some 49), .len (.slice 7) (.tmp 48), (some (46, true)), false⟩,
 ⟨(some 50), .bin .eql .other true (.tmp 49) (.av (.int .i64 0)), (some (46, true)), false⟩,
 ⟨(some 51), .pick (.tmp 46) (.tmp 50) (.av (.bool false)), none, false⟩,
 ⟨(some 52), .move (.tmp 51), none, false⟩,
 ⟨(some 53), .load (some 6) (.tmp 4), (some (52, true)), false⟩,
 ⟨(some 54), .call (.av (.fn (.func 21) [] [])) [(.av (.int .i64 3))], (some (52, true)), true⟩,
 ⟨(some 55), .call (.av (.fn (.func 9) [] [])) [(.tmp 53), (.av (.str [120])), (.tmp 54)], (some (52, true)), false⟩,
 ⟨(some 56), .call (.av (.fn (.func 10) [] [])) [(.tmp 55), (.av (.str [120]))], (some (52, true)), false⟩,
 ⟨(some 57), .field 2 none (.tmp 56), (some (52, true)), false⟩,
 ⟨(some 58), .bin .eql .other true (.tmp 57) (.av (.int .i64 3000)), (some (52, true)), false⟩,
 ⟨(some 59), .pick (.tmp 52) (.tmp 58) (.av (.bool false)), none, false⟩,
 ⟨(some 60), .move (.tmp 59), none, false⟩,
 ⟨(some 61), .load (some 6) (.tmp 1), (some (60, true)), false⟩,
 ⟨(some 62), .call (.av (.fn (.func 12) [] [])) [(.tmp 61)], (some (60, true)), false⟩,
 ⟨(some 63), .bin .eql .other true (.tmp 62) (.av (.int .i64 3)), (some (60, true)), false⟩,
 ⟨(some 64), .pick (.tmp 60) (.tmp 63) (.av (.bool false)), none, false⟩,
 ⟨(some 65), .move (.tmp 64), none, false⟩,
 ⟨(some 66), .load (some 6) (.tmp 1), (some (65, true)), false⟩,
 ⟨(some 67), .load (some 6) (.tmp 1), (some (65, true)), false⟩,
 ⟨(some 68), .call (.av (.fn (.func 11) [] [])) [(.tmp 66), (.tmp 67)], (some (65, true)), false⟩,
 ⟨(some 69), .pick (.tmp 65) (.tmp 68) (.av (.bool false)), none, false⟩,
 ⟨(some 0), .move (.tmp 69), none, false⟩] true)
 (.ret))))⟩
/-- inkstand/inkstandref04.Few -/
def ac7 : AF := ⟨9, [.tmp 4],
 .seq (.region [⟨(some 2), .box 26 (.tmp 0), none, false⟩,
 ⟨(some 4), .move (.av (.bool false)), none, false⟩] false)
 (.seq (.region [⟨(some 5), .load (some 6) (.tmp 2), none, false⟩,
 ⟨(some 6), .move (.tmp 1), none, false⟩,
 ⟨(some 7), .call (.av (.fn (.func 22) [] [])) [(.tmp 5), (.tmp 6), (.av (.int .i64 0))], none, false⟩,
 ⟨(some 8), .bin .geq .other true (.tmp 7) (.av (.int .i64 0)), none, false⟩,
 ⟨(some 4), .move (.tmp 8), none, false⟩] false)
 (.ret))⟩
/-- inkstand/inkstandref04.Exact -/
def ac8 : AF := ⟨106, [.tmp 4],
 .seq (.region [⟨(some 2), .box 26 (.tmp 0), none, false⟩,
 ⟨(some 3), .box 26 (.tmp 1), none, false⟩,
 ⟨(some 4), .move (.av (.bool false)), none, false⟩] false)
 (.seq (.seq (.region [⟨(some 7), .fieldAddr 0 (.tmp 2), none, false⟩,
 ⟨(some 8), .load none (.tmp 7), none, false⟩,
 ⟨(some 9), .fieldAddr 0 (.tmp 3), none, false⟩,
 ⟨(some 10), .load none (.tmp 9), none, false⟩,
 ⟨(some 11), .bin .neq .other true (.tmp 8) (.tmp 10), none, false⟩,
 ⟨(some 12), .move (.tmp 11), none, false⟩,
 ⟨(some 13), .fieldAddr 1 (.tmp 2), (some (12, false)), false⟩,
 ⟨(some 14), .load none (.tmp 13), (some (12, false)), false⟩,
 ⟨(some 15), .fieldAddr 1 (.tmp 3), (some (12, false)), false⟩,
 ⟨(some 16), .load none (.tmp 15), (some (12, false)), false⟩,
 ⟨(some 17), .bin .neq .other true (.tmp 14) (.tmp 16), (some (12, false)), false⟩,
 ⟨(some 18), .pick (.tmp 12) (.av (.bool true)) (.tmp 17), none, false⟩,
 ⟨(some 19), .move (.tmp 18), none, false⟩,
 ⟨(some 20), .fieldAddr 2 (.tmp 2), (some (19, false)), false⟩,
 ⟨(some 21), .load none (.tmp 20), (some (19, false)), false⟩,
 ⟨(some 22), .fieldAddr 2 (.tmp 3), (some (19, false)), false⟩,
 ⟨(some 23), .load none (.tmp 22), (some (19, false)), false⟩,
 ⟨(some 24), .bin .neq .other true (.tmp 21) (.tmp 23), (some (19, false)), false⟩,
 ⟨(some 25), .pick (.tmp 19) (.av (.bool true)) (.tmp 24), none, false⟩,
 ⟨(some 26), .move (.tmp 25), none, false⟩,
 ⟨(some 27), .fieldAddr 3 (.tmp 2), (some (26, false)), false⟩,
 ⟨(some 28), .load none (.tmp 27), (some (26, false)), false⟩,
 ⟨(some 29), .fieldAddr 3 (.tmp 3), (some (26, false)), false⟩,
 ⟨(some 30), .load none (.tmp 29), (some (26, false)), false⟩,
 ⟨(some 31), .bin .neq .other false (.tmp 28) (.tmp 30), (some (26, false)), false⟩,
 ⟨(some 32), .pick (.tmp 26) (.av (.bool true)) (.tmp 31), none, false⟩,
 ⟨(some 33), .move (.tmp 32), none, false⟩,
 ⟨(some 34), .fieldAddr 4 (.tmp 2), (some (33, false)), false⟩,
 ⟨(some 35), .load none (.tmp 34), (some (33, false)), false⟩,
 ⟨(some 36), .len (.slice 6) (.tmp 35), (some (33, false)), false⟩,
 ⟨(some 37), .fieldAddr 4 (.tmp 3), (some (33, false)), false⟩,
 ⟨(some 38), .load none (.tmp 37), (some (33, false)), false⟩,
 ⟨(some 39), .len (.slice 6) (.tmp 38), (some (33, false)), false⟩,
 ⟨(some 40), .bin .neq .other true (.tmp 36) (.tmp 39), (some (33, false)), false⟩,
 ⟨(some 41), .pick (.tmp 33) (.av (.bool true)) (.tmp 40), none, false⟩,
 ⟨(some 42), .move (.tmp 41), none, false⟩,
 ⟨(some 43), .fieldAddr 5 (.tmp 2), (some (42, false)), false⟩,
 ⟨(some 44), .load none (.tmp 43), (some (42, false)), false⟩,
 ⟨(some 45), .len (.slice 7) (.tmp 44), (some (42, false)), false⟩,
 ⟨(some 46), .fieldAddr 5 (.tmp 3), (some (42, false)), false⟩,
 ⟨(some 47), .load none (.tmp 46), (some (42, false)), false⟩,
 ⟨(some 48), .len (.slice 7) (.tmp 47), (some (42, false)), false⟩,
 ⟨(some 49), .bin .neq .other true (.tmp 45) (.tmp 48), (some (42, false)), false⟩,
 ⟨(some 50), .pick (.tmp 42) (.av (.bool true)) (.tmp 49), none, false⟩] false)
 (.cond (.tmp 50)
 (.seq (.region [⟨(some 4), .move (.av (.bool false)), none, false⟩] false)
 (.ret))
 (.skip)))
 (.seq (.seq (.region [⟨(some 5), .move (.av (.int .i64 0)), none, false⟩] false)
 (.block 0
 (.loop
 (.seq (.seq (.region [⟨(some 51), .move (.tmp 5), none, false⟩,
 ⟨(some 52), .fieldAddr 4 (.tmp 2), none, false⟩,
 ⟨(some 53), .load none (.tmp 52), none, false⟩,
 ⟨(some 54), .len (.slice 6) (.tmp 53), none, false⟩,
 ⟨(some 55), .bin .lss .other true (.tmp 51) (.tmp 54), none, false⟩] false)
 (.cond (.tmp 55)
 (.skip)
 (.exit 0)))
 (.seq (.block 1
 (.seq (.region [⟨(some 58), .fieldAddr 4 (.tmp 2), none, false⟩,
 ⟨(some 59), .load none (.tmp 58), none, false⟩,
 ⟨(some 60), .move (.tmp 5), none, false⟩,
 ⟨(some 61), .indexAddr none 6 (.tmp 59) (.tmp 60), none, false⟩,
 ⟨(some 62), .load (some 6) (.tmp 61), none, false⟩,
 ⟨(some 63), .fieldAddr 4 (.tmp 3), none, false⟩,
 ⟨(some 64), .load none (.tmp 63), none, false⟩,
 ⟨(some 65), .move (.tmp 5), none, false⟩,
 ⟨(some 66), .indexAddr none 6 (.tmp 64) (.tmp 65), none, false⟩,
 ⟨(some 67), .load (some 6) (.tmp 66), none, false⟩,
 ⟨(some 68), .call (.av (.fn (.func 8) [] [])) [(.tmp 62), (.tmp 67)], none, false⟩,
 ⟨(some 69), .un .not false (.tmp 68), none, false⟩] true)
 (.cond (.tmp 69)
 (.seq (.region [⟨(some 4), .move (.av (.bool false)), none, false⟩] false)
 (.ret))
 (.skip))))
 (.region [⟨(some 56), .move (.tmp 5), none, false⟩,
 ⟨(some 57), .bin .add .other true (.tmp 56) (.av (.int .i64 1)), none, false⟩,
 ⟨(some 5), .move (.tmp 57), none, false⟩] false))))))
 (.seq (.seq (.region [⟨(some 6), .move (.av (.int .i64 0)), none, false⟩] false)
 (.block 2
 (.loop
 (.seq (.seq (.region [⟨(some 70), .move (.tmp 6), none, false⟩,
 ⟨(some 71), .fieldAddr 5 (.tmp 2), none, false⟩,
 ⟨(some 72), .load none (.tmp 71), none, false⟩,
 ⟨(some 73), .len (.slice 7) (.tmp 72), none, false⟩,
 ⟨(some 74), .bin .lss .other true (.tmp 70) (.tmp 73), none, false⟩] false)
 (.cond (.tmp 74)
 (.skip)
 (.exit 2)))
 (.seq (.block 3
 (.seq (.region [⟨(some 77), .fieldAddr 5 (.tmp 2), none, false⟩,
 ⟨(some 78), .load none (.tmp 77), none, false⟩,
 ⟨(some 79), .move (.tmp 6), none, false⟩,
 ⟨(some 80), .indexAddr none 7 (.tmp 78) (.tmp 79), none, false⟩,
 ⟨(some 81), .fieldAddr 0 (.tmp 80), none, false⟩,
 ⟨(some 82), .load none (.tmp 81), none, false⟩,
 ⟨(some 83), .fieldAddr 5 (.tmp 3), none, false⟩,
 ⟨(some 84), .load none (.tmp 83), none, false⟩,
 ⟨(some 85), .move (.tmp 6), none, false⟩,
 ⟨(some 86), .indexAddr none 7 (.tmp 84) (.tmp 85), none, false⟩,
 ⟨(some 87), .fieldAddr 0 (.tmp 86), none, false⟩,
 ⟨(some 88), .load none (.tmp 87), none, false⟩,
 ⟨(some 89), .bin .neq .other false (.tmp 82) (.tmp 88), none, false⟩,
 ⟨(some 90), .move (.tmp 89), none, false⟩,
 ⟨(some 91), .fieldAddr 5 (.tmp 2), (some (90, false)), false⟩,
 ⟨(some 92), .load none (.tmp 91), (some (90, false)), false⟩,
 ⟨(some 93), .move (.tmp 6), (some (90, false)), false⟩,
 ⟨(some 94), .indexAddr none 7 (.tmp 92) (.tmp 93), (some (90, false)), false⟩,
 ⟨(some 95), .fieldAddr 1 (.tmp 94), (some (90, false)), false⟩,
 ⟨(some 96), .load (some 6) (.tmp 95), (some (90, false)), false⟩,
 ⟨(some 97), .fieldAddr 5 (.tmp 3), (some (90, false)), false⟩,
 ⟨(some 98), .load none (.tmp 97), (some (90, false)), false⟩,
 ⟨(some 99), .move (.tmp 6), (some (90, false)), false⟩,
 ⟨(some 100), .indexAddr none 7 (.tmp 98) (.tmp 99), (some (90, false)), false⟩,
 ⟨(some 101), .fieldAddr 1 (.tmp 100), (some (90, false)), false⟩,
 ⟨(some 102), .load (some 6) (.tmp 101), (some (90, false)), false⟩,
 ⟨(some 103), .call (.av (.fn (.func 8) [] [])) [(.tmp 96), (.tmp 102)], (some (90, false)), false⟩,
 ⟨(some 104), .un .not false (.tmp 103), (some (90, false)), false⟩,
 ⟨(some 105), .pick (.tmp 90) (.av (.bool true)) (.tmp 104), none, false⟩] true)
 (.cond (.tmp 105)
 (.seq (.region [⟨(some 4), .move (.av (.bool false)), none, false⟩] false)
 (.ret))
 (.skip))))
 (.region [⟨(some 75), .move (.tmp 6), none, false⟩,
 ⟨(some 76), .bin .add .other true (.tmp 75) (.av (.int .i64 1)), none, false⟩,
 ⟨(some 6), .move (.tmp 76), none, false⟩] false))))))
 (.seq (.region [⟨(some 4), .move (.av (.bool true)), none, false⟩] false)
 (.ret)))))⟩
/-- inkstand/cos.Set -/
def ac9 : AF := ⟨45, [.cell 6 (some 6)],
 .seq (.region [⟨(some 3), .box 26 (.tmp 0), none, false⟩,
 ⟨(some 4), .box 9 (.tmp 1), none, false⟩,
 ⟨(some 5), .box 26 (.tmp 2), none, false⟩,
 ⟨(some 6), .alloc 26 [(.int .i64 0), (.int .i64 0), (.int .i64 0), (.str []), (.lit (.slice none 0 0)), (.lit (.slice none 0 0))], none, false⟩] false)
 (.seq (.seq (.region [⟨(some 9), .load (some 6) (.tmp 3), none, false⟩,
 ⟨(some 10), .call (.av (.fn (.func 23) [] [])) [(.tmp 9)], none, false⟩,
 ⟨(some 11), .un .not false (.tmp 10), none, false⟩] false)
 (.cond (.tmp 11)
 (.seq (.region [⟨(some 12), .load (some 6) (.tmp 3), none, false⟩,
 ⟨none, .store 6 (.tmp 6) (.tmp 12), none, false⟩] false)
 (.ret))
 (.skip)))
 (.seq (.region [⟨(some 13), .fieldAddr 5 (.tmp 3), none, false⟩,
 ⟨(some 14), .load none (.tmp 13), none, false⟩,
 ⟨(some 15), .load none (.tmp 4), none, false⟩,
 ⟨(some 16), .call (.av (.fn (.func 24) [] [])) [(.tmp 14), (.tmp 15)], none, false⟩,
 ⟨(some 7), .move (.tmp 16), none, false⟩] false)
 (.seq (.region [⟨(some 17), .fieldAddr 5 (.tmp 3), none, false⟩,
 ⟨(some 18), .load none (.tmp 17), none, false⟩,
 ⟨(some 19), .call (.av (.fn (.func 26) [] [])) [(.tmp 18)], none, false⟩,
 ⟨(some 20), .mkFunc (.func 27) [] [(.tmp 4)], none, false⟩,
 ⟨(some 21), .call (.av (.fn (.func 25) [] [])) [(.tmp 19), (.tmp 20)], none, false⟩,
 ⟨(some 8), .move (.tmp 21), none, false⟩] false)
 (.seq (.block 0
 (.seq (.region [⟨(some 30), .fieldAddr 0 (.tmp 5), none, false⟩,
 ⟨(some 31), .load none (.tmp 30), none, false⟩,
 ⟨(some 32), .bin .eql .other true (.tmp 31) (.av (.int .i64 0)), none, false⟩,
 ⟨(some 29), .move (.tmp 32), none, false⟩] false)
 (.cond (.tmp 29)
 (.skip)
 (.seq (.region [⟨(some 34), .move (.tmp 7), none, false⟩,
 ⟨(some 35), .bin .lss .other true (.tmp 34) (.av (.int .i64 0)), none, false⟩,
 ⟨(some 33), .move (.tmp 35), none, false⟩] false)
 (.cond (.tmp 33)
 (.region [⟨(some 36), .move (.tmp 8), none, false⟩,
 ⟨(some 37), .load none (.tmp 4), none, false⟩,
 ⟨(some 38), .load (some 6) (.tmp 5), none, false⟩,
 ⟨(some 39), .build [(.str []), (.int .i64 0), (.int .i64 0), (.int .i64 0), (.str []), (.lit (.slice none 0 0)), (.lit (.slice none 0 0))] [(0, 1, (.tmp 37)), (1, 6, (.tmp 38))], none, false⟩,
 ⟨(some 40), .buildSlice false 34 7 1 [(.str []), (.int .i64 0), (.int .i64 0), (.int .i64 0), (.str []), (.lit (.slice none 0 0)), (.lit (.slice none 0 0))] [(0, (.tmp 39))], none, false⟩,
 ⟨(some 41), .append 34 7 104 [(.str []), (.int .i64 0), (.int .i64 0), (.int .i64 0), (.str []), (.lit (.slice none 0 0)), (.lit (.slice none 0 0))] (.tmp 36) (.tmp 40), none, false⟩,
 ⟨(some 8), .move (.tmp 41), none, false⟩] false)
 (.region [⟨(some 22), .move (.tmp 8), none, false⟩,
 ⟨(some 23), .move (.tmp 7), none, false⟩,
 ⟨(some 24), .load none (.tmp 4), none, false⟩,
 ⟨(some 25), .load (some 6) (.tmp 5), none, false⟩,
 ⟨(some 26), .build [(.str []), (.int .i64 0), (.int .i64 0), (.int .i64 0), (.str []), (.lit (.slice none 0 0)), (.lit (.slice none 0 0))] [(0, 1, (.tmp 24)), (1, 6, (.tmp 25))], none, false⟩,
 ⟨(some 27), .buildSlice false 34 7 1 [(.str []), (.int .i64 0), (.int .i64 0), (.int .i64 0), (.str []), (.lit (.slice none 0 0)), (.lit (.slice none 0 0))] [(0, (.tmp 26))], none, false⟩,
 ⟨(some 28), .call (.av (.fn (.func 28) [] [])) [(.tmp 22), (.tmp 23), (.tmp 27)], none, false⟩,
 ⟨(some 8), .move (.tmp 28), none, false⟩] false))))))
 (.seq (.region [⟨(some 42), .move (.tmp 8), none, false⟩,
 ⟨(some 43), .fieldAddr 5 (.tmp 3), none, false⟩,
 ⟨none, .store 1 (.tmp 43) (.tmp 42), none, false⟩] false)
 (.seq (.region [⟨(some 44), .load (some 6) (.tmp 3), none, false⟩,
 ⟨none, .store 6 (.tmp 6) (.tmp 44), none, false⟩] false)
 (.ret)))))))⟩
/-- inkstand/cos.Get -/
def ac10 : AF := ⟨23, [.cell 4 (some 6)],
 .seq (.region [⟨(some 2), .box 26 (.tmp 0), none, false⟩,
 ⟨(some 4), .alloc 26 [(.int .i64 0), (.int .i64 0), (.int .i64 0), (.str []), (.lit (.slice none 0 0)), (.lit (.slice none 0 0))], none, false⟩] false)
 (.seq (.seq (.region [⟨(some 6), .load (some 6) (.tmp 2), none, false⟩,
 ⟨(some 7), .call (.av (.fn (.func 23) [] [])) [(.tmp 6)], none, false⟩,
 ⟨(some 8), .un .not false (.tmp 7), none, false⟩] false)
 (.cond (.tmp 8)
 (.seq (.region [⟨(some 9), .build [(.int .i64 0), (.int .i64 0), (.int .i64 0), (.str []), (.lit (.slice none 0 0)), (.lit (.slice none 0 0))] [], none, false⟩,
 ⟨none, .store 6 (.tmp 4) (.tmp 9), none, false⟩] false)
 (.ret))
 (.skip)))
 (.seq (.seq (.region [⟨(some 10), .fieldAddr 5 (.tmp 2), none, false⟩,
 ⟨(some 11), .load none (.tmp 10), none, false⟩,
 ⟨(some 12), .move (.tmp 1), none, false⟩,
 ⟨(some 13), .call (.av (.fn (.func 24) [] [])) [(.tmp 11), (.tmp 12)], none, false⟩,
 ⟨(some 5), .move (.tmp 13), none, false⟩] false)
 (.seq (.region [⟨(some 14), .move (.tmp 5), none, false⟩,
 ⟨(some 15), .bin .geq .other true (.tmp 14) (.av (.int .i64 0)), none, false⟩] false)
 (.cond (.tmp 15)
 (.seq (.region [⟨(some 16), .fieldAddr 5 (.tmp 2), none, false⟩,
 ⟨(some 17), .load none (.tmp 16), none, false⟩,
 ⟨(some 18), .move (.tmp 5), none, false⟩,
 ⟨(some 19), .indexAddr none 7 (.tmp 17) (.tmp 18), none, false⟩,
 ⟨(some 20), .fieldAddr 1 (.tmp 19), none, false⟩,
 ⟨(some 21), .load (some 6) (.tmp 20), none, false⟩,
 ⟨none, .store 6 (.tmp 4) (.tmp 21), none, false⟩] false)
 (.ret))
 (.skip))))
 (.seq (.region [⟨(some 22), .build [(.int .i64 0), (.int .i64 0), (.int .i64 0), (.str []), (.lit (.slice none 0 0)), (.lit (.slice none 0 0))] [], none, false⟩,
 ⟨none, .store 6 (.tmp 4) (.tmp 22), none, false⟩] false)
 (.ret))))⟩
/-- inkstand/cos.Same -/
def ac11 : AF := ⟨62, [.tmp 4],
 .seq (.region [⟨(some 2), .box 26 (.tmp 0), none, false⟩,
 ⟨(some 3), .box 26 (.tmp 1), none, false⟩,
 ⟨(some 4), .move (.av (.bool false)), none, false⟩] false)
 (.seq (.seq (.region [⟨(some 7), .fieldAddr 0 (.tmp 2), none, false⟩,
 ⟨(some 8), .load none (.tmp 7), none, false⟩,
 ⟨(some 9), .bin .eql .other true (.tmp 8) (.av (.int .i64 2)), none, false⟩] false)
 (.cond (.tmp 9)
 (.region [⟨(some 10), .fieldAddr 1 (.tmp 3), none, false⟩,
 ⟨(some 11), .load none (.tmp 10), none, false⟩,
 ⟨(some 12), .fieldAddr 1 (.tmp 2), none, false⟩,
 ⟨none, .store 1 (.tmp 12) (.tmp 11), none, false⟩] false)
 (.skip)))
 (.seq (.region [⟨(some 13), .fieldAddr 0 (.tmp 2), none, false⟩,
 ⟨(some 14), .load none (.tmp 13), none, false⟩,
 ⟨(some 15), .fieldAddr 0 (.tmp 3), none, false⟩,
 ⟨(some 16), .load none (.tmp 15), none, false⟩,
 ⟨(some 17), .bin .eql .other true (.tmp 14) (.tmp 16), none, false⟩,
 ⟨(some 18), .move (.tmp 17), none, false⟩,
 ⟨(some 19), .fieldAddr 1 (.tmp 2), (some (18, true)), false⟩,
 ⟨(some 20), .load none (.tmp 19), (some (18, true)), false⟩,
 ⟨(some 21), .fieldAddr 1 (.tmp 3), (some (18, true)), false⟩,
 ⟨(some 22), .load none (.tmp 21), (some (18, true)), false⟩,
 ⟨(some 23), .bin .eql .other true (.tmp 20) (.tmp 22), (some (18, true)), false⟩,
 ⟨(some 24), .pick (.tmp 18) (.tmp 23) (.av (.bool false)), none, false⟩,
 ⟨(some 25), .move (.tmp 24), none, false⟩,
 ⟨(some 26), .fieldAddr 2 (.tmp 2), (some (25, true)), false⟩,
 ⟨(some 27), .load none (.tmp 26), (some (25, true)), false⟩,
 ⟨(some 28), .fieldAddr 2 (.tmp 3), (some (25, true)), false⟩,
 ⟨(some 29), .load none (.tmp 28), (some (25, true)), false⟩,
 ⟨(some 30), .bin .eql .other true (.tmp 27) (.tmp 29), (some (25, true)), false⟩,
 ⟨(some 31), .pick (.tmp 25) (.tmp 30) (.av (.bool false)), none, false⟩,
 ⟨(some 32), .move (.tmp 31), none, false⟩,
 ⟨(some 33), .fieldAddr 3 (.tmp 2), (some (32, true)), false⟩,
 ⟨(some 34), .load none (.tmp 33), (some (32, true)), false⟩,
 ⟨(some 35), .fieldAddr 3 (.tmp 3), (some (32, true)), false⟩,
 ⟨(some 36), .load none (.tmp 35), (some (32, true)), false⟩,
 ⟨(some 37), .bin .eql .other false (.tmp 34) (.tmp 36), (some (32, true)), false⟩,
 ⟨(some 38), .pick (.tmp 32) (.tmp 37) (.av (.bool false)), none, false⟩,
 ⟨(some 5), .move (.tmp 38), none, false⟩] false)
 (.seq (.region [⟨(some 39), .mkFunc (.func 29) [] [(.tmp 2)], none, false⟩,
 ⟨(some 6), .move (.tmp 39), none, false⟩] false)
 (.seq (.region [⟨(some 40), .move (.tmp 5), none, false⟩,
 ⟨(some 41), .move (.tmp 40), none, false⟩,
 ⟨(some 42), .fieldAddr 4 (.tmp 2), (some (41, true)), false⟩,
 ⟨(some 43), .load none (.tmp 42), (some (41, true)), false⟩,
 ⟨(some 44), .fieldAddr 4 (.tmp 3), (some (41, true)), false⟩,
 ⟨(some 45), .load none (.tmp 44), (some (41, true)), false⟩,
 ⟨(some 46), .call (.av (.fn (.func 30) [] [])) [(.tmp 43), (.tmp 45), (.av (.fn (.func 11) [] []))], (some (41, true)), false⟩,
 ⟨(some 47), .pick (.tmp 41) (.tmp 46) (.av (.bool false)), none, false⟩,
 ⟨(some 48), .move (.tmp 47), none, false⟩,
 ⟨(some 49), .fieldAddr 5 (.tmp 2), (some (48, true)), false⟩,
 ⟨(some 50), .load none (.tmp 49), (some (48, true)), false⟩,
 ⟨(some 51), .fieldAddr 5 (.tmp 3), (some (48, true)), false⟩,
 ⟨(some 52), .load none (.tmp 51), (some (48, true)), false⟩,
 ⟨(some 53), .call (.av (.fn (.func 31) [] [])) [(.tmp 50), (.tmp 52)], (some (48, true)), false⟩,
 ⟨(some 54), .pick (.tmp 48) (.tmp 53) (.av (.bool false)), none, false⟩,
 ⟨(some 55), .move (.tmp 54), none, false⟩,
 ⟨(some 56), .fieldAddr 5 (.tmp 3), (some (55, true)), false⟩,
 ⟨(some 57), .load none (.tmp 56), (some (55, true)), false⟩,
 ⟨(some 58), .move (.tmp 6), (some (55, true)), false⟩,
 ⟨(some 59), .call (.av (.fn (.func 32) [] [])) [(.tmp 57), (.tmp 58)], (some (55, true)), false⟩,
 ⟨(some 60), .un .not false (.tmp 59), (some (55, true)), false⟩,
 ⟨(some 61), .pick (.tmp 55) (.tmp 60) (.av (.bool false)), none, false⟩,
 ⟨(some 4), .move (.tmp 61), none, false⟩] false)
 (.ret)))))⟩
/-- inkstand/cos.Count -/
def ac12 : AF := ⟨34, [.tmp 2],
 .seq (.region [⟨(some 1), .box 26 (.tmp 0), none, false⟩,
 ⟨(some 2), .move (.av (.int .i64 0)), none, false⟩] false)
 (.seq (.region [⟨(some 3), .move (.av (.int .i64 1)), none, false⟩] false)
 (.seq (.seq (.region [⟨(some 8), .fieldAddr 4 (.tmp 1), none, false⟩,
 ⟨(some 9), .load none (.tmp 8), none, false⟩,
 ⟨(some 10), .len (.slice 6) (.tmp 9), none, false⟩,
 ⟨(some 11), .move (.av (.int .i64 0)), none, false⟩] false)
 (.block 0
 (.loop
 (.seq (.region [⟨(some 12), .bin .lss .other true (.tmp 11) (.tmp 10), none, false⟩] false)
 (.seq (.cond (.tmp 12)
 (.skip)
 (.exit 0))
 (.seq (.block 1
 (.seq (.region [⟨(some 13), .indexAddr none 6 (.tmp 9) (.tmp 11), none, false⟩,
 ⟨(some 14), .load (some 6) (.tmp 13), none, false⟩,
 ⟨(some 5), .alloc 26 [(.int .i64 0), (.int .i64 0), (.int .i64 0), (.str []), (.lit (.slice none 0 0)), (.lit (.slice none 0 0))], none, false⟩,
 ⟨none, .store 6 (.tmp 5) (.tmp 14), none, false⟩] false)
 (.region [⟨(some 15), .move (.tmp 3), none, false⟩,
 ⟨(some 16), .load (some 6) (.tmp 5), none, false⟩,
 ⟨(some 17), .call (.av (.fn (.func 12) [] [])) [(.tmp 16)], none, false⟩,
 ⟨(some 18), .bin .add .other true (.tmp 15) (.tmp 17), none, false⟩,
 ⟨(some 3), .move (.tmp 18), none, false⟩] false)))
 (.region [⟨(some 19), .bin .add .other true (.tmp 11) (.av (.int .i64 1)), none, false⟩,
 ⟨(some 11), .move (.tmp 19), none, false⟩] false)))))))
 (.seq (.seq (.region [⟨(some 20), .fieldAddr 5 (.tmp 1), none, false⟩,
 ⟨(some 21), .load none (.tmp 20), none, false⟩,
 ⟨(some 22), .len (.slice 7) (.tmp 21), none, false⟩,
 ⟨(some 23), .move (.av (.int .i64 0)), none, false⟩] false)
 (.block 2
 (.loop
 (.seq (.region [⟨(some 24), .bin .lss .other true (.tmp 23) (.tmp 22), none, false⟩] false)
 (.seq (.cond (.tmp 24)
 (.skip)
 (.exit 2))
 (.seq (.block 3
 (.seq (.region [⟨(some 25), .indexAddr none 7 (.tmp 21) (.tmp 23), none, false⟩,
 ⟨(some 26), .load (some 7) (.tmp 25), none, false⟩,
 ⟨(some 7), .alloc 34 [(.str []), (.int .i64 0), (.int .i64 0), (.int .i64 0), (.str []), (.lit (.slice none 0 0)), (.lit (.slice none 0 0))], none, false⟩,
 ⟨none, .store 7 (.tmp 7) (.tmp 26), none, false⟩] false)
 (.region [⟨(some 27), .move (.tmp 3), none, false⟩,
 ⟨(some 28), .fieldAddr 1 (.tmp 7), none, false⟩,
 ⟨(some 29), .load (some 6) (.tmp 28), none, false⟩,
 ⟨(some 30), .call (.av (.fn (.func 12) [] [])) [(.tmp 29)], none, false⟩,
 ⟨(some 31), .bin .add .other true (.tmp 27) (.tmp 30), none, false⟩,
 ⟨(some 3), .move (.tmp 31), none, false⟩] false)))
 (.region [⟨(some 32), .bin .add .other true (.tmp 23) (.av (.int .i64 1)), none, false⟩,
 ⟨(some 23), .move (.tmp 32), none, false⟩] false)))))))
 (.seq (.region [⟨(some 33), .move (.tmp 3), none, false⟩,
 ⟨(some 2), .move (.tmp 33), none, false⟩] false)
 (.ret)))))⟩
/-- inkstand/cos.Parse -/
def ac20 : AF := ⟨28, [.cell 4 (some 6), .tmp 5, .tmp 6],
 .seq (.region [⟨(some 4), .alloc 26 [(.int .i64 0), (.int .i64 0), (.int .i64 0), (.str []), (.lit (.slice none 0 0)), (.lit (.slice none 0 0))], none, false⟩,
 ⟨(some 5), .move (.av (.int .i64 0)), none, false⟩,
 ⟨(some 6), .move (.av (.int .i64 0)), none, false⟩] false)
 (.seq (.region [⟨(some 10), .move (.tmp 0), none, false⟩,
 ⟨(some 11), .move (.tmp 1), none, false⟩,
 ⟨(some 12), .build [(.str []), (.int .i64 0), (.int .i64 0)] [(0, 1, (.tmp 10)), (1, 1, (.tmp 11))], none, false⟩,
 ⟨(some 13), .box 74 (.tmp 12), none, false⟩,
 ⟨(some 7), .move (.tmp 13), none, false⟩] false)
 (.seq (.region [⟨(some 15), .move (.tmp 7), none, false⟩,
 ⟨(some 16), .call (.av (.fn (.func 45) [] [])) [(.tmp 15)], none, false⟩,
 ⟨(some 14), .move (.tmp 16), none, false⟩,
 ⟨(some 17), .extract (.tmp 14) 0, none, false⟩,
 ⟨(some 18), .extract (.tmp 14) 1, none, false⟩,
 ⟨(some 8), .alloc 26 [(.int .i64 0), (.int .i64 0), (.int .i64 0), (.str []), (.lit (.slice none 0 0)), (.lit (.slice none 0 0))], none, false⟩,
 ⟨none, .store 6 (.tmp 8) (.tmp 17), none, false⟩,
 ⟨(some 9), .move (.tmp 18), none, false⟩] false)
 (.seq (.seq (.region [⟨(some 19), .move (.tmp 9), none, false⟩,
 ⟨(some 20), .bin .neq .other true (.tmp 19) (.av (.int .i64 0)), none, false⟩] false)
 (.cond (.tmp 20)
 (.seq (.region [⟨(some 21), .build [(.int .i64 0), (.int .i64 0), (.int .i64 0), (.str []), (.lit (.slice none 0 0)), (.lit (.slice none 0 0))] [], none, false⟩,
 ⟨(some 22), .move (.tmp 9), none, false⟩,
 ⟨none, .store 6 (.tmp 4) (.tmp 21), none, false⟩,
 ⟨(some 5), .move (.av (.int .i64 0)), none, false⟩,
 ⟨(some 6), .move (.tmp 22), none, false⟩] false)
 (.ret))
 (.skip)))
 (.seq (.region [⟨(some 23), .load (some 6) (.tmp 8), none, false⟩,
 ⟨(some 24), .move (.tmp 7), none, false⟩,
 ⟨(some 25), .nilCheck (.tmp 24), none, false⟩,
 ⟨(some 26), .fieldAddr 1 (.tmp 25), none, false⟩,
 ⟨(some 27), .loadA none (.tmp 26) [(.tmp 4)], none, false⟩,
 ⟨none, .storeA 6 (.tmp 4) (.tmp 23) (.tmp 4) [], none, false⟩,
 ⟨(some 5), .move (.tmp 27), none, false⟩,
 ⟨(some 6), .move (.av (.int .i64 0)), none, false⟩] true)
 (.ret)))))⟩
/-- inkstand/cos.Int -/
def ac21 : AF := ⟨15, [.cell 2 (some 6)],
 .seq (.region [⟨(some 2), .alloc 26 [(.int .i64 0), (.int .i64 0), (.int .i64 0), (.str []), (.lit (.slice none 0 0)), (.lit (.slice none 0 0))], none, false⟩] false)
 (.seq (.region [⟨(some 6), .move (.tmp 0), none, false⟩,
 ⟨(some 7), .call (.av (.fn (.func 46) [] [])) [(.tmp 6)], none, false⟩,
 ⟨(some 5), .move (.tmp 7), none, false⟩,
 ⟨(some 8), .extract (.tmp 5) 0, none, false⟩,
 ⟨(some 9), .extract (.tmp 5) 1, none, false⟩,
 ⟨(some 3), .move (.tmp 8), none, false⟩,
 ⟨(some 4), .move (.tmp 9), none, false⟩] false)
 (.seq (.seq (.region [⟨(some 10), .move (.tmp 4), none, false⟩,
 ⟨(some 11), .bin .neq .other true (.tmp 10) (.av (.int .i64 0)), none, false⟩] false)
 (.cond (.tmp 11)
 (.seq (.region [⟨(some 12), .build [(.int .i64 0), (.int .i64 0), (.int .i64 0), (.str []), (.lit (.slice none 0 0)), (.lit (.slice none 0 0))] [], none, false⟩,
 ⟨none, .store 6 (.tmp 2) (.tmp 12), none, false⟩] false)
 (.ret))
 (.skip)))
 (.seq (.region [⟨(some 13), .move (.tmp 3), none, false⟩,
 ⟨(some 14), .build [(.int .i64 0), (.int .i64 0), (.int .i64 0), (.str []), (.lit (.slice none 0 0)), (.lit (.slice none 0 0))] [(0, 1, (.av (.int .i64 2))), (1, 1, (.av (.int .i64 1))), (2, 1, (.tmp 13))], none, false⟩,
 ⟨none, .store 6 (.tmp 2) (.tmp 14), none, false⟩] false)
 (.ret))))⟩
/-- inkstand/inkstandref04.few -/
def ac22 : AF := ⟨67, [.tmp 6],
 .seq (.region [⟨(some 3), .box 26 (.tmp 0), none, false⟩,
 ⟨(some 6), .move (.av (.int .i64 0)), none, false⟩] false)
 (.seq (.seq (.region [⟨(some 9), .move (.tmp 2), none, false⟩,
 ⟨(some 10), .bin .gtr .other true (.tmp 9) (.av (.int .i64 200)), none, false⟩] false)
 (.cond (.tmp 10)
 (.seq (.region [⟨(some 6), .move (.av (.int .i64 (-1))), none, false⟩] false)
 (.ret))
 (.skip)))
 (.seq (.region [⟨(some 11), .move (.tmp 1), none, false⟩,
 ⟨(some 12), .bin .sub .other true (.tmp 11) (.av (.int .i64 1)), none, false⟩,
 ⟨(some 13), .fieldAddr 3 (.tmp 3), none, false⟩,
 ⟨(some 14), .load none (.tmp 13), none, false⟩,
 ⟨(some 15), .len .str (.tmp 14), none, false⟩,
 ⟨(some 16), .bin .sub .other true (.tmp 12) (.tmp 15), none, false⟩,
 ⟨(some 1), .move (.tmp 16), none, false⟩] false)
 (.seq (.seq (.region [⟨(some 7), .move (.av (.int .i64 0)), none, false⟩] false)
 (.block 0
 (.loop
 (.seq (.seq (.region [⟨(some 17), .move (.tmp 7), none, false⟩,
 ⟨(some 18), .fieldAddr 4 (.tmp 3), none, false⟩,
 ⟨(some 19), .load none (.tmp 18), none, false⟩,
 ⟨(some 20), .len (.slice 6) (.tmp 19), none, false⟩,
 ⟨(some 21), .bin .lss .other true (.tmp 17) (.tmp 20), none, false⟩,
 ⟨(some 22), .move (.tmp 21), none, false⟩,
 ⟨(some 23), .move (.tmp 1), (some (22, true)), false⟩,
 ⟨(some 24), .bin .geq .other true (.tmp 23) (.av (.int .i64 0)), (some (22, true)), false⟩,
 ⟨(some 25), .pick (.tmp 22) (.tmp 24) (.av (.bool false)), none, false⟩] false)
 (.cond (.tmp 25)
 (.skip)
 (.exit 0)))
 (.seq (.block 1
 (.region [⟨(some 28), .fieldAddr 4 (.tmp 3), none, false⟩,
 ⟨(some 29), .load none (.tmp 28), none, false⟩,
 ⟨(some 30), .move (.tmp 7), none, false⟩,
 ⟨(some 31), .indexAddr none 6 (.tmp 29) (.tmp 30), none, false⟩,
 ⟨(some 32), .load (some 6) (.tmp 31), none, false⟩,
 ⟨(some 33), .move (.tmp 1), none, false⟩,
 ⟨(some 34), .move (.tmp 2), none, false⟩,
 ⟨(some 35), .bin .add .other true (.tmp 34) (.av (.int .i64 1)), none, false⟩,
 ⟨(some 36), .call (.av (.fn (.func 22) [] [])) [(.tmp 32), (.tmp 33), (.tmp 35)], none, false⟩,
 ⟨(some 1), .move (.tmp 36), none, false⟩] false))
 (.region [⟨(some 26), .move (.tmp 7), none, false⟩,
 ⟨(some 27), .bin .add .other true (.tmp 26) (.av (.int .i64 1)), none, false⟩,
 ⟨(some 7), .move (.tmp 27), none, false⟩] false))))))
 (.seq (.seq (.region [⟨(some 8), .move (.av (.int .i64 0)), none, false⟩] false)
 (.block 2
 (.loop
 (.seq (.seq (.region [⟨(some 37), .move (.tmp 8), none, false⟩,
 ⟨(some 38), .fieldAddr 5 (.tmp 3), none, false⟩,
 ⟨(some 39), .load none (.tmp 38), none, false⟩,
 ⟨(some 40), .len (.slice 7) (.tmp 39), none, false⟩,
 ⟨(some 41), .bin .lss .other true (.tmp 37) (.tmp 40), none, false⟩,
 ⟨(some 42), .move (.tmp 41), none, false⟩,
 ⟨(some 43), .move (.tmp 1), (some (42, true)), false⟩,
 ⟨(some 44), .bin .geq .other true (.tmp 43) (.av (.int .i64 0)), (some (42, true)), false⟩,
 ⟨(some 45), .pick (.tmp 42) (.tmp 44) (.av (.bool false)), none, false⟩] false)
 (.cond (.tmp 45)
 (.skip)
 (.exit 2)))
 (.seq (.block 3
 (.region [⟨(some 48), .fieldAddr 5 (.tmp 3), none, false⟩,
 ⟨(some 49), .load none (.tmp 48), none, false⟩,
 ⟨(some 50), .move (.tmp 8), none, false⟩,
 ⟨(some 51), .indexAddr none 7 (.tmp 49) (.tmp 50), none, false⟩,
 ⟨(some 52), .fieldAddr 1 (.tmp 51), none, false⟩,
 ⟨(some 53), .load (some 6) (.tmp 52), none, false⟩,
 ⟨(some 54), .move (.tmp 1), none, false⟩,
 ⟨(some 55), .fieldAddr 5 (.tmp 3), none, false⟩,
 ⟨(some 56), .load none (.tmp 55), none, false⟩,
 ⟨(some 57), .move (.tmp 8), none, false⟩,
 ⟨(some 58), .indexAddr none 7 (.tmp 56) (.tmp 57), none, false⟩,
 ⟨(some 59), .fieldAddr 0 (.tmp 58), none, false⟩,
 ⟨(some 60), .load none (.tmp 59), none, false⟩,
 ⟨(some 61), .len .str (.tmp 60), none, false⟩,
 ⟨(some 62), .bin .sub .other true (.tmp 54) (.tmp 61), none, false⟩,
 ⟨(some 63), .move (.tmp 2), none, false⟩,
 ⟨(some 64), .bin .add .other true (.tmp 63) (.av (.int .i64 1)), none, false⟩,
 ⟨(some 65), .call (.av (.fn (.func 22) [] [])) [(.tmp 53), (.tmp 62), (.tmp 64)], none, false⟩,
 ⟨(some 1), .move (.tmp 65), none, false⟩] true))
 (.region [⟨(some 46), .move (.tmp 8), none, false⟩,
 ⟨(some 47), .bin .add .other true (.tmp 46) (.av (.int .i64 1)), none, false⟩,
 ⟨(some 8), .move (.tmp 47), none, false⟩] false))))))
 (.seq (.region [⟨(some 66), .move (.tmp 1), none, false⟩,
 ⟨(some 6), .move (.tmp 66), none, false⟩] false)
 (.ret))))))⟩
/-- inkstand/cos.dictionary -/
def ac23 : AF := ⟨11, [.tmp 2],
 .seq (.region [⟨(some 1), .box 26 (.tmp 0), none, false⟩,
 ⟨(some 2), .move (.av (.bool false)), none, false⟩] false)
 (.seq (.region [⟨(some 3), .fieldAddr 0 (.tmp 1), none, false⟩,
 ⟨(some 4), .load none (.tmp 3), none, false⟩,
 ⟨(some 5), .bin .eql .other true (.tmp 4) (.av (.int .i64 6)), none, false⟩,
 ⟨(some 6), .move (.tmp 5), none, false⟩,
 ⟨(some 7), .fieldAddr 0 (.tmp 1), (some (6, false)), false⟩,
 ⟨(some 8), .load none (.tmp 7), (some (6, false)), false⟩,
 ⟨(some 9), .bin .eql .other true (.tmp 8) (.av (.int .i64 8)), (some (6, false)), false⟩,
 ⟨(some 10), .pick (.tmp 6) (.av (.bool true)) (.tmp 9), none, false⟩,
 ⟨(some 2), .move (.tmp 10), none, false⟩] false)
 (.ret))⟩
/-- inkstand/cos.place -/
def ac24 : AF := ⟨8, [.tmp 4],
 .seq (.region [⟨(some 3), .box 9 (.tmp 1), none, false⟩,
 ⟨(some 4), .move (.av (.int .i64 0)), none, false⟩] false)
 (.seq (.region [⟨(some 5), .move (.tmp 0), none, false⟩,
 ⟨(some 6), .mkFunc (.func 48) [] [(.tmp 3)], none, false⟩,
 ⟨(some 7), .call (.av (.fn (.func 47) [] [])) [(.tmp 5), (.tmp 6)], none, false⟩,
 ⟨(some 4), .move (.tmp 7), none, false⟩] false)
 (.ret))⟩
/-- slices.DeleteFunc[[]inkstand/api.Entry,inkstand/api.Entry] -/
def ac25 : AF := ⟨42, [.tmp 4],
 .seq (.region [⟨(some 4), .move (.av (.lit (.slice none 0 0))), none, false⟩] false)
 (.seq (.region [⟨(some 8), .move (.tmp 0), none, false⟩,
 ⟨(some 9), .move (.tmp 1), none, false⟩,
 ⟨(some 10), .call (.av (.fn (.func 47) [] [])) [(.tmp 8), (.tmp 9)], none, false⟩,
 ⟨(some 5), .move (.tmp 10), none, false⟩] false)
 (.seq (.seq (.region [⟨(some 11), .move (.tmp 5), none, false⟩,
 ⟨(some 12), .bin .eql .other true (.tmp 11) (.av (.int .i64 (-1))), none, false⟩] false)
 (.cond (.tmp 12)
 (.seq (.region [⟨(some 13), .move (.tmp 0), none, false⟩,
 ⟨(some 4), .move (.tmp 13), none, false⟩] false)
 (.ret))
 (.skip)))
 (.seq (.seq (.region [⟨(some 14), .move (.tmp 5), none, false⟩,
 ⟨(some 15), .bin .add .other true (.tmp 14) (.av (.int .i64 1)), none, false⟩,
 ⟨(some 6), .move (.tmp 15), none, false⟩] false)
 (.block 0
 (.loop
 (.seq (.seq (.region [⟨(some 16), .move (.tmp 6), none, false⟩,
 ⟨(some 17), .move (.tmp 0), none, false⟩,
 ⟨(some 18), .len (.slice 7) (.tmp 17), none, false⟩,
 ⟨(some 19), .bin .lss .other true (.tmp 16) (.tmp 18), none, false⟩] false)
 (.cond (.tmp 19)
 (.skip)
 (.exit 0)))
 (.seq (.block 1
 (.seq (.region [⟨(some 22), .move (.tmp 0), none, false⟩,
 ⟨(some 23), .move (.tmp 6), none, false⟩,
 ⟨(some 24), .indexAddr none 7 (.tmp 22) (.tmp 23), none, false⟩,
 ⟨(some 25), .load (some 7) (.tmp 24), none, false⟩,
 ⟨(some 7), .alloc 34 [(.str []), (.int .i64 0), (.int .i64 0), (.int .i64 0), (.str []), (.lit (.slice none 0 0)), (.lit (.slice none 0 0))], none, false⟩,
 ⟨none, .store 7 (.tmp 7) (.tmp 25), none, false⟩] false)
 (.seq (.region [⟨(some 26), .move (.tmp 1), none, false⟩,
 ⟨(some 27), .load (some 7) (.tmp 7), none, false⟩,
 ⟨(some 28), .call (.tmp 26) [(.tmp 27)], none, false⟩,
 ⟨(some 29), .un .not false (.tmp 28), none, false⟩] false)
 (.cond (.tmp 29)
 (.seq (.region [⟨(some 30), .move (.tmp 0), none, false⟩,
 ⟨(some 31), .move (.tmp 5), none, false⟩,
 ⟨(some 32), .load (some 7) (.tmp 7), none, false⟩,
 ⟨(some 33), .indexAddr none 7 (.tmp 30) (.tmp 31), none, false⟩,
 ⟨none, .store 7 (.tmp 33) (.tmp 32), none, false⟩] false)
 (.region [⟨(some 34), .move (.tmp 5), none, false⟩,
 ⟨(some 35), .bin .add .other true (.tmp 34) (.av (.int .i64 1)), none, false⟩,
 ⟨(some 5), .move (.tmp 35), none, false⟩] false))
 (.skip)))))
 (.region [⟨(some 20), .move (.tmp 6), none, false⟩,
 ⟨(some 21), .bin .add .other true (.tmp 20) (.av (.int .i64 1)), none, false⟩,
 ⟨(some 6), .move (.tmp 21), none, false⟩] false))))))
 (.seq (.region [⟨(some 36), .move (.tmp 0), none, false⟩,
 ⟨(some 37), .move (.tmp 5), none, false⟩,
 ⟨(some 38), .slice (.slice 7) (.tmp 36) (some (.tmp 37)) none, none, false⟩,
 ⟨none, .xop (.clear 7 [(.str []), (.int .i64 0), (.int .i64 0), (.int .i64 0), (.str []), (.lit (.slice none 0 0)), (.lit (.slice none 0 0))]) [(.tmp 38)], none, false⟩] false)
 (.seq (.region [⟨(some 39), .move (.tmp 0), none, false⟩,
 ⟨(some 40), .move (.tmp 5), none, false⟩,
 ⟨(some 41), .slice (.slice 7) (.tmp 39) none (some (.tmp 40)), none, false⟩,
 ⟨(some 4), .move (.tmp 41), none, false⟩] false)
 (.ret))))))⟩
/-- slices.Clone[[]inkstand/api.Entry,inkstand/api.Entry] -/
def ac26 : AF := ⟨8, [.tmp 2],
 .seq (.region [⟨(some 2), .move (.av (.lit (.slice none 0 0))), none, false⟩] false)
 (.seq (.seq (.region [⟨(some 3), .move (.tmp 0), none, false⟩,
 ⟨(some 4), .bin .eql .slice false (.tmp 3) (.av (.lit (.slice none 0 0))), none, false⟩] false)
 (.cond (.tmp 4)
 (.seq (.region [⟨(some 2), .move (.av (.lit (.slice none 0 0))), none, false⟩] false)
 (.ret))
 (.skip)))
 (.seq (.region [⟨(some 5), .buildSlice true 34 7 0 [(.str []), (.int .i64 0), (.int .i64 0), (.int .i64 0), (.str []), (.lit (.slice none 0 0)), (.lit (.slice none 0 0))] [], none, false⟩,
 ⟨(some 6), .move (.tmp 0), none, false⟩,
 ⟨(some 7), .append 34 7 104 [(.str []), (.int .i64 0), (.int .i64 0), (.int .i64 0), (.str []), (.lit (.slice none 0 0)), (.lit (.slice none 0 0))] (.tmp 5) (.tmp 6), none, false⟩,
 ⟨(some 2), .move (.tmp 7), none, false⟩] false)
 (.ret)))⟩
/-- inkstand/cos.Set$1 -/
def ac27 : AF := ⟨8, [.tmp 3],
 .seq (.region [⟨(some 2), .box 34 (.tmp 0), none, false⟩,
 ⟨(some 3), .move (.av (.bool false)), none, false⟩] false)
 (.seq (.region [⟨(some 4), .fieldAddr 0 (.tmp 2), none, false⟩,
 ⟨(some 5), .load none (.tmp 4), none, false⟩,
 ⟨(some 6), .load none (.tmp 1), none, false⟩,
 ⟨(some 7), .bin .eql .other false (.tmp 5) (.tmp 6), none, false⟩,
 ⟨(some 3), .move (.tmp 7), none, false⟩] false)
 (.ret))⟩
/-- slices.Insert[[]inkstand/api.Entry,inkstand/api.Entry] -/
def ac28 : AF := ⟨95, [.tmp 6],
 .seq (.region [⟨(some 6), .move (.av (.lit (.slice none 0 0))), none, false⟩] false)
 (.seq (.region [⟨(some 10), .move (.tmp 0), none, false⟩,
 ⟨(some 11), .move (.tmp 1), none, false⟩,
 ⟨(some 12), .slice (.slice 7) (.tmp 10) (some (.tmp 11)) none, none, false⟩] false)
 (.seq (.region [⟨(some 13), .move (.tmp 2), none, false⟩,
 ⟨(some 14), .len (.slice 7) (.tmp 13), none, false⟩,
 ⟨(some 7), .move (.tmp 14), none, false⟩] false)
 (.seq (.seq (.region [⟨(some 15), .move (.tmp 7), none, false⟩,
 ⟨(some 16), .bin .eql .other true (.tmp 15) (.av (.int .i64 0)), none, false⟩] false)
 (.cond (.tmp 16)
 (.seq (.region [⟨(some 17), .move (.tmp 0), none, false⟩,
 ⟨(some 6), .move (.tmp 17), none, false⟩] false)
 (.ret))
 (.skip)))
 (.seq (.region [⟨(some 18), .move (.tmp 0), none, false⟩,
 ⟨(some 19), .len (.slice 7) (.tmp 18), none, false⟩,
 ⟨(some 8), .move (.tmp 19), none, false⟩] false)
 (.seq (.seq (.region [⟨(some 20), .move (.tmp 1), none, false⟩,
 ⟨(some 21), .move (.tmp 8), none, false⟩,
 ⟨(some 22), .bin .eql .other true (.tmp 20) (.tmp 21), none, false⟩] false)
 (.cond (.tmp 22)
 (.seq (.region [⟨(some 23), .move (.tmp 0), none, false⟩,
 ⟨(some 24), .move (.tmp 2), none, false⟩,
 ⟨(some 25), .append 34 7 104 [(.str []), (.int .i64 0), (.int .i64 0), (.int .i64 0), (.str []), (.lit (.slice none 0 0)), (.lit (.slice none 0 0))] (.tmp 23) (.tmp 24), none, false⟩,
 ⟨(some 6), .move (.tmp 25), none, false⟩] false)
 (.ret))
 (.skip)))
 (.seq (.seq (.region [⟨(some 26), .move (.tmp 8), none, false⟩,
 ⟨(some 27), .move (.tmp 7), none, false⟩,
 ⟨(some 28), .bin .add .other true (.tmp 26) (.tmp 27), none, false⟩,
 ⟨(some 29), .move (.tmp 0), none, false⟩,
 ⟨(some 30), .xop .cap [(.tmp 29)], none, false⟩,
 ⟨(some 31), .bin .gtr .other true (.tmp 28) (.tmp 30), none, false⟩] false)
 (.cond (.tmp 31)
 (.seq (.region [⟨(some 32), .move (.tmp 0), none, false⟩,
 ⟨(some 33), .move (.tmp 1), none, false⟩,
 ⟨(some 34), .slice (.slice 7) (.tmp 32) none (some (.tmp 33)), none, false⟩,
 ⟨(some 35), .move (.tmp 8), none, false⟩,
 ⟨(some 36), .move (.tmp 7), none, false⟩,
 ⟨(some 37), .bin .add .other true (.tmp 35) (.tmp 36), none, false⟩,
 ⟨(some 38), .move (.tmp 1), none, false⟩,
 ⟨(some 39), .bin .sub .other true (.tmp 37) (.tmp 38), none, false⟩,
 ⟨(some 40), .xop (.appendZ 34 7 104 [(.str []), (.int .i64 0), (.int .i64 0), (.int .i64 0), (.str []), (.lit (.slice none 0 0)), (.lit (.slice none 0 0))]) [(.tmp 34), (.tmp 39)], none, false⟩,
 ⟨(some 9), .move (.tmp 40), none, false⟩] false)
 (.seq (.region [⟨(some 41), .move (.tmp 9), none, false⟩,
 ⟨(some 42), .move (.tmp 1), none, false⟩,
 ⟨(some 43), .slice (.slice 7) (.tmp 41) (some (.tmp 42)) none, none, false⟩,
 ⟨(some 44), .move (.tmp 2), none, false⟩,
 ⟨(some 45), .xop (.copy 7) [(.tmp 43), (.tmp 44)], none, false⟩] false)
 (.seq (.region [⟨(some 46), .move (.tmp 9), none, false⟩,
 ⟨(some 47), .move (.tmp 1), none, false⟩,
 ⟨(some 48), .move (.tmp 7), none, false⟩,
 ⟨(some 49), .bin .add .other true (.tmp 47) (.tmp 48), none, false⟩,
 ⟨(some 50), .slice (.slice 7) (.tmp 46) (some (.tmp 49)) none, none, false⟩,
 ⟨(some 51), .move (.tmp 0), none, false⟩,
 ⟨(some 52), .move (.tmp 1), none, false⟩,
 ⟨(some 53), .slice (.slice 7) (.tmp 51) (some (.tmp 52)) none, none, false⟩,
 ⟨(some 54), .xop (.copy 7) [(.tmp 50), (.tmp 53)], none, false⟩] true)
 (.seq (.region [⟨(some 55), .move (.tmp 9), none, false⟩,
 ⟨(some 6), .move (.tmp 55), none, false⟩] false)
 (.ret)))))
 (.skip)))
 (.seq (.region [⟨(some 56), .move (.tmp 0), none, false⟩,
 ⟨(some 57), .move (.tmp 8), none, false⟩,
 ⟨(some 58), .move (.tmp 7), none, false⟩,
 ⟨(some 59), .bin .add .other true (.tmp 57) (.tmp 58), none, false⟩,
 ⟨(some 60), .slice (.slice 7) (.tmp 56) none (some (.tmp 59)), none, false⟩,
 ⟨(some 0), .move (.tmp 60), none, false⟩] false)
 (.seq (.seq (.region [⟨(some 61), .move (.tmp 2), none, false⟩,
 ⟨(some 62), .move (.tmp 0), none, false⟩,
 ⟨(some 63), .move (.tmp 1), none, false⟩,
 ⟨(some 64), .move (.tmp 7), none, false⟩,
 ⟨(some 65), .bin .add .other true (.tmp 63) (.tmp 64), none, false⟩,
 ⟨(some 66), .slice (.slice 7) (.tmp 62) (some (.tmp 65)) none, none, false⟩,
 ⟨(some 67), .call (.av (.fn (.func 49) [] [])) [(.tmp 61), (.tmp 66)], none, false⟩,
 ⟨(some 68), .un .not false (.tmp 67), none, false⟩] false)
 (.cond (.tmp 68)
 (.seq (.region [⟨(some 69), .move (.tmp 0), none, false⟩,
 ⟨(some 70), .move (.tmp 1), none, false⟩,
 ⟨(some 71), .move (.tmp 7), none, false⟩,
 ⟨(some 72), .bin .add .other true (.tmp 70) (.tmp 71), none, false⟩,
 ⟨(some 73), .slice (.slice 7) (.tmp 69) (some (.tmp 72)) none, none, false⟩,
 ⟨(some 74), .move (.tmp 0), none, false⟩,
 ⟨(some 75), .move (.tmp 1), none, false⟩,
 ⟨(some 76), .slice (.slice 7) (.tmp 74) (some (.tmp 75)) none, none, false⟩,
 ⟨(some 77), .xop (.copy 7) [(.tmp 73), (.tmp 76)], none, false⟩] true)
 (.seq (.region [⟨(some 78), .move (.tmp 0), none, false⟩,
 ⟨(some 79), .move (.tmp 1), none, false⟩,
 ⟨(some 80), .slice (.slice 7) (.tmp 78) (some (.tmp 79)) none, none, false⟩,
 ⟨(some 81), .move (.tmp 2), none, false⟩,
 ⟨(some 82), .xop (.copy 7) [(.tmp 80), (.tmp 81)], none, false⟩] false)
 (.seq (.region [⟨(some 83), .move (.tmp 0), none, false⟩,
 ⟨(some 6), .move (.tmp 83), none, false⟩] false)
 (.ret))))
 (.skip)))
 (.seq (.region [⟨(some 84), .move (.tmp 0), none, false⟩,
 ⟨(some 85), .move (.tmp 8), none, false⟩,
 ⟨(some 86), .slice (.slice 7) (.tmp 84) (some (.tmp 85)) none, none, false⟩,
 ⟨(some 87), .move (.tmp 2), none, false⟩,
 ⟨(some 88), .xop (.copy 7) [(.tmp 86), (.tmp 87)], none, false⟩] false)
 (.seq (.region [⟨(some 89), .move (.tmp 0), none, false⟩,
 ⟨(some 90), .move (.tmp 1), none, false⟩,
 ⟨(some 91), .slice (.slice 7) (.tmp 89) (some (.tmp 90)) none, none, false⟩,
 ⟨(some 92), .move (.tmp 7), none, false⟩,
 ⟨(some 93), .call (.av (.fn (.func 50) [] [])) [(.tmp 91), (.tmp 92)], none, false⟩] false)
 (.seq (.region [⟨(some 94), .move (.tmp 0), none, false⟩,
 ⟨(some 6), .move (.tmp 94), none, false⟩] false)
 (.ret))))))))))))⟩
/-- inkstand/cos.Same$1 -/
def ac29 : AF := ⟨10, [.tmp 3],
 .seq (.region [⟨(some 2), .box 34 (.tmp 0), none, false⟩,
 ⟨(some 3), .move (.av (.bool false)), none, false⟩] false)
 (.seq (.region [⟨(some 4), .fieldAddr 5 (.tmp 1), none, false⟩,
 ⟨(some 5), .load none (.tmp 4), none, false⟩,
 ⟨(some 6), .fieldAddr 0 (.tmp 2), none, false⟩,
 ⟨(some 7), .load none (.tmp 6), none, false⟩,
 ⟨(some 8), .call (.av (.fn (.func 24) [] [])) [(.tmp 5), (.tmp 7)], none, false⟩,
 ⟨(some 9), .bin .lss .other true (.tmp 8) (.av (.int .i64 0)), none, false⟩,
 ⟨(some 3), .move (.tmp 9), none, false⟩] false)
 (.ret))⟩
/-- slices.EqualFunc[[]inkstand/api.Obj,[]inkstand/api.Obj,inkstand/api.Obj,inkstand/api.Obj] -/
def ac30 : AF := ⟨32, [.tmp 6],
 .seq (.region [⟨(some 6), .move (.av (.bool false)), none, false⟩] false)
 (.seq (.seq (.region [⟨(some 10), .move (.tmp 0), none, false⟩,
 ⟨(some 11), .len (.slice 6) (.tmp 10), none, false⟩,
 ⟨(some 12), .move (.tmp 1), none, false⟩,
 ⟨(some 13), .len (.slice 6) (.tmp 12), none, false⟩,
 ⟨(some 14), .bin .neq .other true (.tmp 11) (.tmp 13), none, false⟩] false)
 (.cond (.tmp 14)
 (.seq (.region [⟨(some 6), .move (.av (.bool false)), none, false⟩] false)
 (.ret))
 (.skip)))
 (.seq (.seq (.region [⟨(some 15), .move (.tmp 0), none, false⟩,
 ⟨(some 16), .len (.slice 6) (.tmp 15), none, false⟩,
 ⟨(some 17), .move (.av (.int .i64 0)), none, false⟩] false)
 (.block 0
 (.loop
 (.seq (.region [⟨(some 18), .bin .lss .other true (.tmp 17) (.tmp 16), none, false⟩] false)
 (.seq (.cond (.tmp 18)
 (.skip)
 (.exit 0))
 (.seq (.block 1
 (.seq (.region [⟨(some 19), .move (.tmp 17), none, false⟩,
 ⟨(some 20), .indexAddr none 6 (.tmp 15) (.tmp 17), none, false⟩,
 ⟨(some 21), .load (some 6) (.tmp 20), none, false⟩,
 ⟨(some 8), .alloc 26 [(.int .i64 0), (.int .i64 0), (.int .i64 0), (.str []), (.lit (.slice none 0 0)), (.lit (.slice none 0 0))], none, false⟩,
 ⟨(some 7), .move (.tmp 19), none, false⟩,
 ⟨none, .store 6 (.tmp 8) (.tmp 21), none, false⟩] false)
 (.seq (.region [⟨(some 22), .move (.tmp 1), none, false⟩,
 ⟨(some 23), .move (.tmp 7), none, false⟩,
 ⟨(some 24), .indexAddr none 6 (.tmp 22) (.tmp 23), none, false⟩,
 ⟨(some 25), .load (some 6) (.tmp 24), none, false⟩,
 ⟨(some 9), .alloc 26 [(.int .i64 0), (.int .i64 0), (.int .i64 0), (.str []), (.lit (.slice none 0 0)), (.lit (.slice none 0 0))], none, false⟩,
 ⟨none, .store 6 (.tmp 9) (.tmp 25), none, false⟩] false)
 (.seq (.region [⟨(some 26), .move (.tmp 2), none, false⟩,
 ⟨(some 27), .load (some 6) (.tmp 8), none, false⟩,
 ⟨(some 28), .load (some 6) (.tmp 9), none, false⟩,
 ⟨(some 29), .call (.tmp 26) [(.tmp 27), (.tmp 28)], none, false⟩,
 ⟨(some 30), .un .not false (.tmp 29), none, false⟩] false)
 (.cond (.tmp 30)
 (.seq (.region [⟨(some 6), .move (.av (.bool false)), none, false⟩] false)
 (.ret))
 (.skip))))))
 (.region [⟨(some 31), .bin .add .other true (.tmp 17) (.av (.int .i64 1)), none, false⟩,
 ⟨(some 17), .move (.tmp 31), none, false⟩] false)))))))
 (.seq (.region [⟨(some 6), .move (.av (.bool true)), none, false⟩] false)
 (.ret))))⟩
/-- inkstand/cos.holds -/
def ac31 : AF := ⟨39, [.tmp 4],
 .seq (.region [⟨(some 4), .move (.av (.bool false)), none, false⟩] false)
 (.seq (.seq (.region [⟨(some 8), .move (.tmp 0), none, false⟩,
 ⟨(some 9), .len (.slice 7) (.tmp 8), none, false⟩,
 ⟨(some 10), .move (.av (.int .i64 0)), none, false⟩] false)
 (.block 0
 (.loop
 (.seq (.region [⟨(some 11), .bin .lss .other true (.tmp 10) (.tmp 9), none, false⟩] false)
 (.seq (.cond (.tmp 11)
 (.skip)
 (.exit 0))
 (.seq (.block 1
 (.seq (.region [⟨(some 12), .move (.tmp 10), none, false⟩,
 ⟨(some 13), .indexAddr none 7 (.tmp 8) (.tmp 10), none, false⟩,
 ⟨(some 14), .load (some 7) (.tmp 13), none, false⟩,
 ⟨(some 6), .alloc 34 [(.str []), (.int .i64 0), (.int .i64 0), (.int .i64 0), (.str []), (.lit (.slice none 0 0)), (.lit (.slice none 0 0))], none, false⟩,
 ⟨(some 5), .move (.tmp 12), none, false⟩,
 ⟨none, .store 7 (.tmp 6) (.tmp 14), none, false⟩] false)
 (.seq (.seq (.region [⟨(some 15), .move (.tmp 0), none, false⟩,
 ⟨(some 16), .fieldAddr 0 (.tmp 6), none, false⟩,
 ⟨(some 17), .load none (.tmp 16), none, false⟩,
 ⟨(some 18), .call (.av (.fn (.func 24) [] [])) [(.tmp 15), (.tmp 17)], none, false⟩,
 ⟨(some 19), .move (.tmp 5), none, false⟩,
 ⟨(some 20), .bin .neq .other true (.tmp 18) (.tmp 19), none, false⟩] false)
 (.cond (.tmp 20)
 (.exit 1)
 (.skip)))
 (.seq (.region [⟨(some 21), .move (.tmp 1), none, false⟩,
 ⟨(some 22), .fieldAddr 0 (.tmp 6), none, false⟩,
 ⟨(some 23), .load none (.tmp 22), none, false⟩,
 ⟨(some 24), .call (.av (.fn (.func 24) [] [])) [(.tmp 21), (.tmp 23)], none, false⟩,
 ⟨(some 7), .move (.tmp 24), none, false⟩] false)
 (.seq (.region [⟨(some 25), .move (.tmp 7), none, false⟩,
 ⟨(some 26), .bin .lss .other true (.tmp 25) (.av (.int .i64 0)), none, false⟩,
 ⟨(some 27), .move (.tmp 26), none, false⟩,
 ⟨(some 28), .fieldAddr 1 (.tmp 6), (some (27, false)), false⟩,
 ⟨(some 29), .load (some 6) (.tmp 28), (some (27, false)), false⟩,
 ⟨(some 30), .move (.tmp 1), (some (27, false)), false⟩,
 ⟨(some 31), .move (.tmp 7), (some (27, false)), false⟩,
 ⟨(some 32), .indexAddr none 7 (.tmp 30) (.tmp 31), (some (27, false)), false⟩,
 ⟨(some 33), .fieldAddr 1 (.tmp 32), (some (27, false)), false⟩,
 ⟨(some 34), .load (some 6) (.tmp 33), (some (27, false)), false⟩,
 ⟨(some 35), .call (.av (.fn (.func 11) [] [])) [(.tmp 29), (.tmp 34)], (some (27, false)), false⟩,
 ⟨(some 36), .un .not false (.tmp 35), (some (27, false)), false⟩,
 ⟨(some 37), .pick (.tmp 27) (.av (.bool true)) (.tmp 36), none, false⟩] true)
 (.cond (.tmp 37)
 (.seq (.region [⟨(some 4), .move (.av (.bool false)), none, false⟩] false)
 (.ret))
 (.skip)))))))
 (.region [⟨(some 38), .bin .add .other true (.tmp 10) (.av (.int .i64 1)), none, false⟩,
 ⟨(some 10), .move (.tmp 38), none, false⟩] false)))))))
 (.seq (.region [⟨(some 4), .move (.av (.bool true)), none, false⟩] false)
 (.ret)))⟩
/-- slices.ContainsFunc[[]inkstand/api.Entry,inkstand/api.Entry] -/
def ac32 : AF := ⟨9, [.tmp 4],
 .seq (.region [⟨(some 4), .move (.av (.bool false)), none, false⟩] false)
 (.seq (.region [⟨(some 5), .move (.tmp 0), none, false⟩,
 ⟨(some 6), .move (.tmp 1), none, false⟩,
 ⟨(some 7), .call (.av (.fn (.func 47) [] [])) [(.tmp 5), (.tmp 6)], none, false⟩,
 ⟨(some 8), .bin .geq .other true (.tmp 7) (.av (.int .i64 0)), none, false⟩,
 ⟨(some 4), .move (.tmp 8), none, false⟩] false)
 (.ret))⟩
/-- (*strings.Builder).WriteString -/
def ac37 : AF := ⟨19, [.tmp 4, .tmp 5],
 .seq (.region [⟨(some 4), .move (.av (.int .i64 0)), none, false⟩,
 ⟨(some 5), .move (.av (.lit .nilIface)), none, false⟩] false)
 (.seq (.region [⟨(some 6), .move (.tmp 0), none, false⟩,
 ⟨(some 7), .call (.av (.fn (.func 62) [] [])) [(.tmp 6)], none, false⟩] false)
 (.seq (.region [⟨(some 8), .move (.tmp 0), none, false⟩,
 ⟨(some 9), .move (.tmp 0), none, false⟩,
 ⟨(some 10), .nilCheck (.tmp 9), none, false⟩,
 ⟨(some 11), .fieldAddr 1 (.tmp 10), none, false⟩,
 ⟨(some 12), .load none (.tmp 11), none, false⟩,
 ⟨(some 13), .move (.tmp 1), none, false⟩,
 ⟨(some 14), .append 5 1 1 [(.int .u8 0)] (.tmp 12) (.tmp 13), none, false⟩,
 ⟨(some 15), .nilCheck (.tmp 8), none, false⟩,
 ⟨(some 16), .fieldAddr 1 (.tmp 15), none, false⟩,
 ⟨none, .store 1 (.tmp 16) (.tmp 14), none, false⟩] false)
 (.seq (.region [⟨(some 17), .move (.tmp 1), none, false⟩,
 ⟨(some 18), .len .str (.tmp 17), none, false⟩,
 ⟨(some 4), .move (.tmp 18), none, false⟩,
 ⟨(some 5), .move (.av (.lit .nilIface)), none, false⟩] false)
 (.ret))))⟩
/-- (*inkstand/cos.parser).object -/
def ac45 : AF := ⟨20, [.cell 2 (some 6), .tmp 3],
 .seq (.region [⟨(some 2), .alloc 26 [(.int .i64 0), (.int .i64 0), (.int .i64 0), (.str []), (.lit (.slice none 0 0)), (.lit (.slice none 0 0))], none, false⟩,
 ⟨(some 3), .move (.av (.int .i64 0)), none, false⟩] false)
 (.seq (.region [⟨(some 7), .move (.tmp 0), none, false⟩,
 ⟨(some 8), .call (.av (.fn (.func 71) [] [])) [(.tmp 7)], none, false⟩,
 ⟨(some 6), .move (.tmp 8), none, false⟩,
 ⟨(some 9), .extract (.tmp 6) 0, none, false⟩,
 ⟨(some 10), .extract (.tmp 6) 1, none, false⟩,
 ⟨(some 4), .alloc 93 [(.int .i64 0), (.int .i64 0), (.str []), (.bool false), (.int .i64 0), (.int .i64 0)], none, false⟩,
 ⟨none, .store 6 (.tmp 4) (.tmp 9), none, false⟩,
 ⟨(some 5), .move (.tmp 10), none, false⟩] false)
 (.seq (.seq (.region [⟨(some 11), .move (.tmp 5), none, false⟩,
 ⟨(some 12), .bin .neq .other true (.tmp 11) (.av (.int .i64 0)), none, false⟩] false)
 (.cond (.tmp 12)
 (.seq (.region [⟨(some 13), .build [(.int .i64 0), (.int .i64 0), (.int .i64 0), (.str []), (.lit (.slice none 0 0)), (.lit (.slice none 0 0))] [], none, false⟩,
 ⟨(some 14), .move (.tmp 5), none, false⟩,
 ⟨none, .store 6 (.tmp 2) (.tmp 13), none, false⟩,
 ⟨(some 3), .move (.tmp 14), none, false⟩] false)
 (.ret))
 (.skip)))
 (.seq (.region [⟨(some 15), .move (.tmp 0), none, false⟩,
 ⟨(some 16), .load (some 6) (.tmp 4), none, false⟩,
 ⟨(some 17), .call (.av (.fn (.func 72) [] [])) [(.tmp 15), (.tmp 16)], none, false⟩,
 ⟨(some 18), .extract (.tmp 17) 0, none, false⟩,
 ⟨(some 19), .extract (.tmp 17) 1, none, false⟩,
 ⟨none, .store 6 (.tmp 2) (.tmp 18), none, false⟩,
 ⟨(some 3), .move (.tmp 19), none, false⟩] false)
 (.ret))))⟩
/-- inkstand/fix.Int -/
def ac46 : AF := ⟨13, [.tmp 2, .tmp 3],
 .seq (.region [⟨(some 2), .move (.av (.int .i64 0)), none, false⟩,
 ⟨(some 3), .move (.av (.int .i64 0)), none, false⟩] false)
 (.seq (.seq (.region [⟨(some 4), .move (.tmp 0), none, false⟩,
 ⟨(some 5), .buildSlice false 22 1 1 [(.int .i64 0)] [(0, (.tmp 4))], none, false⟩,
 ⟨(some 6), .call (.av (.fn (.func 73) [] [])) [(.tmp 5)], none, false⟩,
 ⟨(some 7), .un .not false (.tmp 6), none, false⟩] false)
 (.cond (.tmp 7)
 (.seq (.region [⟨(some 2), .move (.av (.int .i64 0)), none, false⟩,
 ⟨(some 3), .move (.av (.int .i64 2)), none, false⟩] false)
 (.ret))
 (.skip)))
 (.seq (.region [⟨(some 8), .move (.tmp 0), none, false⟩,
 ⟨(some 9), .bin .mul .other true (.tmp 8) (.av (.int .i64 1000)), none, false⟩,
 ⟨(some 10), .call (.av (.fn (.func 74) [] [])) [(.tmp 9)], none, false⟩,
 ⟨(some 11), .extract (.tmp 10) 0, none, false⟩,
 ⟨(some 12), .extract (.tmp 10) 1, none, false⟩,
 ⟨(some 2), .move (.tmp 11), none, false⟩,
 ⟨(some 3), .move (.tmp 12), none, false⟩] false)
 (.ret)))⟩
/-- slices.IndexFunc[[]inkstand/api.Entry,inkstand/api.Entry] -/
def ac47 : AF := ⟨19, [.tmp 4],
 .seq (.region [⟨(some 4), .move (.av (.int .i64 0)), none, false⟩] false)
 (.seq (.seq (.region [⟨(some 6), .move (.tmp 0), none, false⟩,
 ⟨(some 7), .len (.slice 7) (.tmp 6), none, false⟩,
 ⟨(some 8), .move (.av (.int .i64 0)), none, false⟩] false)
 (.block 0
 (.loop
 (.seq (.region [⟨(some 9), .bin .lss .other true (.tmp 8) (.tmp 7), none, false⟩] false)
 (.seq (.cond (.tmp 9)
 (.skip)
 (.exit 0))
 (.seq (.block 1
 (.seq (.region [⟨(some 10), .move (.tmp 8), none, false⟩,
 ⟨(some 5), .move (.tmp 10), none, false⟩] false)
 (.seq (.region [⟨(some 11), .move (.tmp 1), none, false⟩,
 ⟨(some 12), .move (.tmp 0), none, false⟩,
 ⟨(some 13), .move (.tmp 5), none, false⟩,
 ⟨(some 14), .indexAddr none 7 (.tmp 12) (.tmp 13), none, false⟩,
 ⟨(some 15), .load (some 7) (.tmp 14), none, false⟩,
 ⟨(some 16), .call (.tmp 11) [(.tmp 15)], none, false⟩] false)
 (.cond (.tmp 16)
 (.seq (.region [⟨(some 17), .move (.tmp 5), none, false⟩,
 ⟨(some 4), .move (.tmp 17), none, false⟩] false)
 (.ret))
 (.skip)))))
 (.region [⟨(some 18), .bin .add .other true (.tmp 8) (.av (.int .i64 1)), none, false⟩,
 ⟨(some 8), .move (.tmp 18), none, false⟩] false)))))))
 (.seq (.region [⟨(some 4), .move (.av (.int .i64 (-1))), none, false⟩] false)
 (.ret)))⟩
/-- inkstand/cos.place$1 -/
def ac48 : AF := ⟨8, [.tmp 3],
 .seq (.region [⟨(some 2), .box 34 (.tmp 0), none, false⟩,
 ⟨(some 3), .move (.av (.bool false)), none, false⟩] false)
 (.seq (.region [⟨(some 4), .fieldAddr 0 (.tmp 2), none, false⟩,
 ⟨(some 5), .load none (.tmp 4), none, false⟩,
 ⟨(some 6), .load none (.tmp 1), none, false⟩,
 ⟨(some 7), .bin .eql .other false (.tmp 5) (.tmp 6), none, false⟩,
 ⟨(some 3), .move (.tmp 7), none, false⟩] false)
 (.ret))⟩
/-- inkstand/lex.NameOf -/
def ac53 : AF := ⟨45, [.tmp 2],
 .seq (.region [⟨(some 2), .move (.av (.str [])), none, false⟩] false)
 (.seq (.region [⟨(some 6), .buildSlice true 5 1 1 [(.int .u8 0)] [(0, (.av (.int .u8 47)))], none, false⟩,
 ⟨(some 3), .move (.tmp 6), none, false⟩] false)
 (.seq (.seq (.region [⟨(some 7), .move (.tmp 0), none, false⟩,
 ⟨(some 8), .len .str (.tmp 7), none, false⟩,
 ⟨(some 9), .move (.av (.int .i64 0)), none, false⟩] false)
 (.block 0
 (.loop
 (.seq (.region [⟨(some 10), .bin .lss .other true (.tmp 9) (.tmp 8), none, false⟩] false)
 (.seq (.cond (.tmp 10)
 (.skip)
 (.exit 0))
 (.seq (.block 1
 (.seq (.region [⟨(some 11), .move (.tmp 9), none, false⟩,
 ⟨(some 4), .move (.tmp 11), none, false⟩] false)
 (.seq (.region [⟨(some 12), .move (.tmp 0), none, false⟩,
 ⟨(some 13), .move (.tmp 4), none, false⟩,
 ⟨(some 14), .indexStr (.tmp 12) (.tmp 13), none, false⟩,
 ⟨(some 5), .move (.tmp 14), none, false⟩] false)
 (.seq (.seq (.region [⟨(some 15), .move (.tmp 5), none, false⟩,
 ⟨(some 16), .call (.av (.fn (.func 77) [] [])) [(.tmp 15)], none, false⟩,
 ⟨(some 17), .move (.tmp 16), none, false⟩,
 ⟨(some 18), .move (.tmp 5), (some (17, true)), false⟩,
 ⟨(some 19), .bin .neq .other false (.tmp 18) (.av (.int .u8 35)), (some (17, true)), false⟩,
 ⟨(some 20), .pick (.tmp 17) (.tmp 19) (.av (.bool false)), none, false⟩,
 ⟨(some 21), .move (.tmp 20), none, false⟩,
 ⟨(some 22), .move (.tmp 5), (some (21, true)), false⟩,
 ⟨(some 23), .bin .gtr .other false (.tmp 22) (.av (.int .u8 32)), (some (21, true)), false⟩,
 ⟨(some 24), .pick (.tmp 21) (.tmp 23) (.av (.bool false)), none, false⟩,
 ⟨(some 25), .move (.tmp 24), none, false⟩,
 ⟨(some 26), .move (.tmp 5), (some (25, true)), false⟩,
 ⟨(some 27), .bin .leq .other false (.tmp 26) (.av (.int .u8 126)), (some (25, true)), false⟩,
 ⟨(some 28), .pick (.tmp 25) (.tmp 27) (.av (.bool false)), none, false⟩] false)
 (.cond (.tmp 28)
 (.seq (.region [⟨(some 29), .move (.tmp 3), none, false⟩,
 ⟨(some 30), .move (.tmp 5), none, false⟩,
 ⟨(some 31), .buildSlice false 5 1 1 [(.int .u8 0)] [(0, (.tmp 30))], none, false⟩,
 ⟨(some 32), .append 5 1 1 [(.int .u8 0)] (.tmp 29) (.tmp 31), none, false⟩,
 ⟨(some 3), .move (.tmp 32), none, false⟩] false)
 (.exit 1))
 (.skip)))
 (.region [⟨(some 33), .move (.tmp 3), none, false⟩,
 ⟨(some 34), .move (.tmp 5), none, false⟩,
 ⟨(some 35), .bin .shr .other false (.tmp 34) (.av (.int .u64 4)), none, false⟩,
 ⟨(some 36), .indexStr (.av (.str [48, 49, 50, 51, 52, 53, 54, 55, 56, 57, 65, 66, 67, 68, 69, 70])) (.tmp 35), none, false⟩,
 ⟨(some 37), .move (.tmp 5), none, false⟩,
 ⟨(some 38), .bin .and .other false (.tmp 37) (.av (.int .u8 15)), none, false⟩,
 ⟨(some 39), .indexStr (.av (.str [48, 49, 50, 51, 52, 53, 54, 55, 56, 57, 65, 66, 67, 68, 69, 70])) (.tmp 38), none, false⟩,
 ⟨(some 40), .buildSlice false 5 1 3 [(.int .u8 0)] [(0, (.av (.int .u8 35))), (1, (.tmp 36)), (2, (.tmp 39))], none, false⟩,
 ⟨(some 41), .append 5 1 1 [(.int .u8 0)] (.tmp 33) (.tmp 40), none, false⟩,
 ⟨(some 3), .move (.tmp 41), none, false⟩] true)))))
 (.region [⟨(some 42), .bin .add .other true (.tmp 9) (.av (.int .i64 1)), none, false⟩,
 ⟨(some 9), .move (.tmp 42), none, false⟩] false)))))))
 (.seq (.region [⟨(some 43), .move (.tmp 3), none, false⟩,
 ⟨(some 44), .conv .ofBytes (.tmp 43), none, false⟩,
 ⟨(some 2), .move (.tmp 44), none, false⟩] false)
 (.ret))))⟩
/-- inkstand/lex.Quote -/
def ac54 : AF := ⟨55, [.tmp 2],
 .seq (.region [⟨(some 2), .move (.av (.str [])), none, false⟩] false)
 (.seq (.region [⟨(some 7), .buildSlice true 5 1 1 [(.int .u8 0)] [(0, (.av (.int .u8 40)))], none, false⟩,
 ⟨(some 3), .move (.tmp 7), none, false⟩] false)
 (.seq (.seq (.region [⟨(some 8), .move (.tmp 0), none, false⟩,
 ⟨(some 9), .len .str (.tmp 8), none, false⟩,
 ⟨(some 10), .move (.av (.int .i64 0)), none, false⟩] false)
 (.block 0
 (.loop
 (.seq (.region [⟨(some 11), .bin .lss .other true (.tmp 10) (.tmp 9), none, false⟩] false)
 (.seq (.cond (.tmp 11)
 (.skip)
 (.exit 0))
 (.seq (.block 1
 (.seq (.region [⟨(some 12), .move (.tmp 10), none, false⟩,
 ⟨(some 4), .move (.tmp 12), none, false⟩] false)
 (.seq (.region [⟨(some 13), .move (.tmp 0), none, false⟩,
 ⟨(some 14), .move (.tmp 4), none, false⟩,
 ⟨(some 15), .indexStr (.tmp 13) (.tmp 14), none, false⟩,
 ⟨(some 5), .move (.tmp 15), none, false⟩] false)
 (.seq (.region [⟨(some 16), .move (.tmp 5), none, false⟩,
 ⟨(some 17), .call (.av (.fn (.func 78) [] [])) [(.av (.str [10, 13, 9, 8, 12, 40, 41, 92])), (.tmp 16)], none, false⟩,
 ⟨(some 6), .move (.tmp 17), none, false⟩] false)
 (.block 2
 (.seq (.region [⟨(some 23), .move (.tmp 6), none, false⟩,
 ⟨(some 24), .bin .geq .other true (.tmp 23) (.av (.int .i64 0)), none, false⟩,
 ⟨(some 22), .move (.tmp 24), none, false⟩] false)
 (.cond (.tmp 22)
 (.region [⟨(some 25), .move (.tmp 3), none, false⟩,
 ⟨(some 26), .move (.tmp 6), none, false⟩,
 ⟨(some 27), .indexStr (.av (.str [110, 114, 116, 98, 102, 40, 41, 92])) (.tmp 26), none, false⟩,
 ⟨(some 28), .buildSlice false 5 1 2 [(.int .u8 0)] [(0, (.av (.int .u8 92))), (1, (.tmp 27))], none, false⟩,
 ⟨(some 29), .append 5 1 1 [(.int .u8 0)] (.tmp 25) (.tmp 28), none, false⟩,
 ⟨(some 3), .move (.tmp 29), none, false⟩] false)
 (.seq (.region [⟨(some 31), .move (.tmp 5), none, false⟩,
 ⟨(some 32), .bin .lss .other false (.tmp 31) (.av (.int .u8 32)), none, false⟩,
 ⟨(some 33), .move (.tmp 32), none, false⟩,
 ⟨(some 34), .move (.tmp 5), (some (33, false)), false⟩,
 ⟨(some 35), .bin .gtr .other false (.tmp 34) (.av (.int .u8 126)), (some (33, false)), false⟩,
 ⟨(some 36), .pick (.tmp 33) (.av (.bool true)) (.tmp 35), none, false⟩,
 ⟨(some 30), .move (.tmp 36), none, false⟩] false)
 (.cond (.tmp 30)
 (.region [⟨(some 37), .move (.tmp 3), none, false⟩,
 ⟨(some 38), .move (.tmp 5), none, false⟩,
 ⟨(some 39), .bin .shr .other false (.tmp 38) (.av (.int .u64 6)), none, false⟩,
 ⟨(some 40), .bin .add .other false (.av (.int .u8 48)) (.tmp 39), none, false⟩,
 ⟨(some 41), .move (.tmp 5), none, false⟩,
 ⟨(some 42), .bin .shr .other false (.tmp 41) (.av (.int .u64 3)), none, false⟩,
 ⟨(some 43), .bin .and .other false (.tmp 42) (.av (.int .u8 7)), none, false⟩,
 ⟨(some 44), .bin .add .other false (.av (.int .u8 48)) (.tmp 43), none, false⟩,
 ⟨(some 45), .move (.tmp 5), none, false⟩,
 ⟨(some 46), .bin .and .other false (.tmp 45) (.av (.int .u8 7)), none, false⟩,
 ⟨(some 47), .bin .add .other false (.av (.int .u8 48)) (.tmp 46), none, false⟩,
 ⟨(some 48), .buildSlice false 5 1 4 [(.int .u8 0)] [(0, (.av (.int .u8 92))), (1, (.tmp 40)), (2, (.tmp 44)), (3, (.tmp 47))], none, false⟩,
 ⟨(some 49), .append 5 1 1 [(.int .u8 0)] (.tmp 37) (.tmp 48), none, false⟩,
 ⟨(some 3), .move (.tmp 49), none, false⟩] false)
 (.region [⟨(some 18), .move (.tmp 3), none, false⟩,
 ⟨(some 19), .move (.tmp 5), none, false⟩,
 ⟨(some 20), .buildSlice false 5 1 1 [(.int .u8 0)] [(0, (.tmp 19))], none, false⟩,
 ⟨(some 21), .append 5 1 1 [(.int .u8 0)] (.tmp 18) (.tmp 20), none, false⟩,
 ⟨(some 3), .move (.tmp 21), none, false⟩] false))))))))))
 (.region [⟨(some 50), .bin .add .other true (.tmp 10) (.av (.int .i64 1)), none, false⟩,
 ⟨(some 10), .move (.tmp 50), none, false⟩] false)))))))
 (.seq (.region [⟨(some 51), .move (.tmp 3), none, false⟩,
 ⟨(some 52), .buildSlice false 5 1 1 [(.int .u8 0)] [(0, (.av (.int .u8 41)))], none, false⟩,
 ⟨(some 53), .append 5 1 1 [(.int .u8 0)] (.tmp 51) (.tmp 52), none, false⟩,
 ⟨(some 54), .conv .ofBytes (.tmp 53), none, false⟩,
 ⟨(some 2), .move (.tmp 54), none, false⟩] false)
 (.ret))))⟩
/-- (*strings.Builder).WriteByte -/
def ac56 : AF := ⟨17, [.tmp 4],
 .seq (.region [⟨(some 4), .move (.av (.lit .nilIface)), none, false⟩] false)
 (.seq (.region [⟨(some 5), .move (.tmp 0), none, false⟩,
 ⟨(some 6), .call (.av (.fn (.func 62) [] [])) [(.tmp 5)], none, false⟩] false)
 (.seq (.region [⟨(some 7), .move (.tmp 0), none, false⟩,
 ⟨(some 8), .move (.tmp 0), none, false⟩,
 ⟨(some 9), .nilCheck (.tmp 8), none, false⟩,
 ⟨(some 10), .fieldAddr 1 (.tmp 9), none, false⟩,
 ⟨(some 11), .load none (.tmp 10), none, false⟩,
 ⟨(some 12), .move (.tmp 1), none, false⟩,
 ⟨(some 13), .buildSlice false 5 1 1 [(.int .u8 0)] [(0, (.tmp 12))], none, false⟩,
 ⟨(some 14), .append 5 1 1 [(.int .u8 0)] (.tmp 11) (.tmp 13), none, false⟩,
 ⟨(some 15), .nilCheck (.tmp 7), none, false⟩,
 ⟨(some 16), .fieldAddr 1 (.tmp 15), none, false⟩,
 ⟨none, .store 1 (.tmp 16) (.tmp 14), none, false⟩] false)
 (.seq (.region [⟨(some 4), .move (.av (.lit .nilIface)), none, false⟩] false)
 (.ret))))⟩
/-- (*inkstand/cos.parser).next -/
def ac71 : AF := ⟨27, [.cell 2 (some 6), .tmp 3],
 .seq (.region [⟨(some 2), .alloc 93 [(.int .i64 0), (.int .i64 0), (.str []), (.bool false), (.int .i64 0), (.int .i64 0)], none, false⟩,
 ⟨(some 3), .move (.av (.int .i64 0)), none, false⟩] false)
 (.seq (.region [⟨(some 7), .move (.tmp 0), none, false⟩,
 ⟨(some 8), .nilCheck (.tmp 7), none, false⟩,
 ⟨(some 9), .fieldAddr 0 (.tmp 8), none, false⟩,
 ⟨(some 10), .load none (.tmp 9), none, false⟩,
 ⟨(some 11), .move (.tmp 0), none, false⟩,
 ⟨(some 12), .nilCheck (.tmp 11), none, false⟩,
 ⟨(some 13), .fieldAddr 1 (.tmp 12), none, false⟩,
 ⟨(some 14), .load none (.tmp 13), none, false⟩,
 ⟨(some 15), .call (.av (.fn (.func 90) [] [])) [(.tmp 10), (.tmp 14)], none, true⟩,
 ⟨(some 6), .move (.tmp 15), none, false⟩,
 ⟨(some 16), .extract (.tmp 6) 0, none, false⟩,
 ⟨(some 17), .extract (.tmp 6) 1, none, false⟩,
 ⟨(some 4), .alloc 93 [(.int .i64 0), (.int .i64 0), (.str []), (.bool false), (.int .i64 0), (.int .i64 0)], none, false⟩,
 ⟨none, .store 6 (.tmp 4) (.tmp 16), none, false⟩,
 ⟨(some 5), .move (.tmp 17), none, false⟩] true)
 (.seq (.seq (.region [⟨(some 18), .move (.tmp 5), none, false⟩,
 ⟨(some 19), .bin .eql .other true (.tmp 18) (.av (.int .i64 0)), none, false⟩] false)
 (.cond (.tmp 19)
 (.region [⟨(some 20), .move (.tmp 0), none, false⟩,
 ⟨(some 21), .fieldAddr 5 (.tmp 4), none, false⟩,
 ⟨(some 22), .load none (.tmp 21), none, false⟩,
 ⟨(some 23), .nilCheck (.tmp 20), none, false⟩,
 ⟨(some 24), .fieldAddr 1 (.tmp 23), none, false⟩,
 ⟨none, .store 1 (.tmp 24) (.tmp 22), none, false⟩] false)
 (.skip)))
 (.seq (.region [⟨(some 25), .load (some 6) (.tmp 4), none, false⟩,
 ⟨(some 26), .move (.tmp 5), none, false⟩,
 ⟨none, .store 6 (.tmp 2) (.tmp 25), none, false⟩,
 ⟨(some 3), .move (.tmp 26), none, false⟩] false)
 (.ret))))⟩
/-- (*inkstand/cos.parser).of -/
def ac72 : AF := ⟨50, [.cell 4 (some 6), .tmp 5],
 .seq (.region [⟨(some 3), .box 93 (.tmp 1), none, false⟩,
 ⟨(some 4), .alloc 26 [(.int .i64 0), (.int .i64 0), (.int .i64 0), (.str []), (.lit (.slice none 0 0)), (.lit (.slice none 0 0))], none, false⟩,
 ⟨(some 5), .move (.av (.int .i64 0)), none, false⟩] false)
 (.seq (.seq (.region [⟨(some 6), .fieldAddr 0 (.tmp 3), none, false⟩,
 ⟨(some 7), .load none (.tmp 6), none, false⟩] false)
 (.block 0
 (.seq (.region [⟨(some 9), .bin .eql .other true (.tmp 7) (.av (.int .i64 0)), none, false⟩,
 ⟨(some 8), .move (.tmp 9), none, false⟩] false)
 (.cond (.tmp 8)
 (.seq (.region [⟨(some 10), .build [(.int .i64 0), (.int .i64 0), (.int .i64 0), (.str []), (.lit (.slice none 0 0)), (.lit (.slice none 0 0))] [], none, false⟩,
 ⟨none, .store 6 (.tmp 4) (.tmp 10), none, false⟩,
 ⟨(some 5), .move (.av (.int .i64 4)), none, false⟩] false)
 (.ret))
 (.seq (.region [⟨(some 12), .bin .eql .other true (.tmp 7) (.av (.int .i64 1)), none, false⟩,
 ⟨(some 11), .move (.tmp 12), none, false⟩] false)
 (.cond (.tmp 11)
 (.seq (.region [⟨(some 13), .move (.tmp 0), none, false⟩,
 ⟨(some 14), .load (some 6) (.tmp 3), none, false⟩,
 ⟨(some 15), .call (.av (.fn (.func 91) [] [])) [(.tmp 13), (.tmp 14)], none, false⟩,
 ⟨none, .store 6 (.tmp 4) (.tmp 15), none, false⟩,
 ⟨(some 5), .move (.av (.int .i64 0)), none, false⟩] false)
 (.ret))
 (.seq (.region [⟨(some 17), .bin .eql .other true (.tmp 7) (.av (.int .i64 2)), none, false⟩,
 ⟨(some 16), .move (.tmp 17), none, false⟩] false)
 (.cond (.tmp 16)
 (.seq (.region [⟨(some 18), .fieldAddr 2 (.tmp 3), none, false⟩,
 ⟨(some 19), .load none (.tmp 18), none, false⟩,
 ⟨(some 20), .call (.av (.fn (.func 92) [] [])) [(.tmp 19)], none, false⟩,
 ⟨none, .store 6 (.tmp 4) (.tmp 20), none, false⟩,
 ⟨(some 5), .move (.av (.int .i64 0)), none, false⟩] false)
 (.ret))
 (.seq (.region [⟨(some 22), .bin .eql .other true (.tmp 7) (.av (.int .i64 3)), none, false⟩,
 ⟨(some 21), .move (.tmp 22), none, false⟩] false)
 (.cond (.tmp 21)
 (.seq (.region [⟨(some 23), .fieldAddr 2 (.tmp 3), none, false⟩,
 ⟨(some 24), .load none (.tmp 23), none, false⟩,
 ⟨(some 25), .build [(.int .i64 0), (.int .i64 0), (.int .i64 0), (.str []), (.lit (.slice none 0 0)), (.lit (.slice none 0 0))] [(0, 1, (.av (.int .i64 4))), (3, 1, (.tmp 24))], none, false⟩,
 ⟨none, .store 6 (.tmp 4) (.tmp 25), none, false⟩,
 ⟨(some 5), .move (.av (.int .i64 0)), none, false⟩] false)
 (.ret))
 (.seq (.region [⟨(some 27), .bin .eql .other true (.tmp 7) (.av (.int .i64 4)), none, false⟩,
 ⟨(some 26), .move (.tmp 27), none, false⟩] false)
 (.cond (.tmp 26)
 (.seq (.region [⟨(some 28), .move (.tmp 0), none, false⟩,
 ⟨(some 29), .move (.tmp 0), none, false⟩,
 ⟨(some 30), .mkFunc (.func 94) [(.tmp 29)] [], none, false⟩,
 ⟨(some 31), .call (.av (.fn (.func 93) [] [])) [(.tmp 28), (.tmp 30)], none, false⟩,
 ⟨(some 32), .extract (.tmp 31) 0, none, false⟩,
 ⟨(some 33), .extract (.tmp 31) 1, none, false⟩,
 ⟨none, .store 6 (.tmp 4) (.tmp 32), none, false⟩,
 ⟨(some 5), .move (.tmp 33), none, false⟩] false)
 (.ret))
 (.seq (.region [⟨(some 35), .bin .eql .other true (.tmp 7) (.av (.int .i64 6)), none, false⟩,
 ⟨(some 34), .move (.tmp 35), none, false⟩] false)
 (.cond (.tmp 34)
 (.seq (.region [⟨(some 36), .move (.tmp 0), none, false⟩,
 ⟨(some 37), .move (.tmp 0), none, false⟩,
 ⟨(some 38), .mkFunc (.func 95) [(.tmp 37)] [], none, false⟩,
 ⟨(some 39), .call (.av (.fn (.func 93) [] [])) [(.tmp 36), (.tmp 38)], none, false⟩,
 ⟨(some 40), .extract (.tmp 39) 0, none, false⟩,
 ⟨(some 41), .extract (.tmp 39) 1, none, false⟩,
 ⟨none, .store 6 (.tmp 4) (.tmp 40), none, false⟩,
 ⟨(some 5), .move (.tmp 41), none, false⟩] false)
 (.ret))
 (.seq (.region [⟨(some 43), .bin .eql .other true (.tmp 7) (.av (.int .i64 8)), none, false⟩,
 ⟨(some 42), .move (.tmp 43), none, false⟩] false)
 (.cond (.tmp 42)
 (.seq (.region [⟨(some 44), .fieldAddr 2 (.tmp 3), none, false⟩,
 ⟨(some 45), .load none (.tmp 44), none, false⟩,
 ⟨(some 46), .call (.av (.fn (.func 96) [] [])) [(.tmp 45)], none, false⟩,
 ⟨(some 47), .extract (.tmp 46) 0, none, false⟩,
 ⟨(some 48), .extract (.tmp 46) 1, none, false⟩,
 ⟨none, .store 6 (.tmp 4) (.tmp 47), none, false⟩,
 ⟨(some 5), .move (.tmp 48), none, false⟩] false)
 (.ret))
 (.skip)))))))))))))))))
 (.seq (.region [⟨(some 49), .build [(.int .i64 0), (.int .i64 0), (.int .i64 0), (.str []), (.lit (.slice none 0 0)), (.lit (.slice none 0 0))] [], none, false⟩,
 ⟨none, .store 6 (.tmp 4) (.tmp 49), none, false⟩,
 ⟨(some 5), .move (.av (.int .i64 3)), none, false⟩] false)
 (.ret)))⟩
/-- inkstand/fix.Sane -/
def ac73 : AF := ⟨18, [.tmp 2],
 .seq (.region [⟨(some 2), .move (.av (.bool false)), none, false⟩] false)
 (.seq (.seq (.region [⟨(some 5), .move (.tmp 0), none, false⟩,
 ⟨(some 6), .len (.slice 1) (.tmp 5), none, false⟩,
 ⟨(some 7), .move (.av (.int .i64 0)), none, false⟩] false)
 (.block 0
 (.loop
 (.seq (.region [⟨(some 8), .bin .lss .other true (.tmp 7) (.tmp 6), none, false⟩] false)
 (.seq (.cond (.tmp 8)
 (.skip)
 (.exit 0))
 (.seq (.block 1
 (.seq (.region [⟨(some 9), .indexAddr none 1 (.tmp 5) (.tmp 7), none, false⟩,
 ⟨(some 10), .load none (.tmp 9), none, false⟩,
 ⟨(some 4), .move (.tmp 10), none, false⟩] false)
 (.seq (.region [⟨(some 11), .move (.tmp 4), none, false⟩,
 ⟨(some 12), .bin .lss .other true (.tmp 11) (.av (.int .i64 (-2147483648))), none, false⟩,
 ⟨(some 13), .move (.tmp 12), none, false⟩,
 ⟨(some 14), .move (.tmp 4), (some (13, false)), false⟩,
 ⟨(some 15), .bin .gtr .other true (.tmp 14) (.av (.int .i64 2147483648)), (some (13, false)), false⟩,
 ⟨(some 16), .pick (.tmp 13) (.av (.bool true)) (.tmp 15), none, false⟩] false)
 (.cond (.tmp 16)
 (.seq (.region [⟨(some 2), .move (.av (.bool false)), none, false⟩] false)
 (.ret))
 (.skip)))))
 (.region [⟨(some 17), .bin .add .other true (.tmp 7) (.av (.int .i64 1)), none, false⟩,
 ⟨(some 7), .move (.tmp 17), none, false⟩] false)))))))
 (.seq (.region [⟨(some 2), .move (.av (.bool true)), none, false⟩] false)
 (.ret)))⟩
/-- inkstand/fix.told -/
def ac74 : AF := ⟨9, [.tmp 2, .tmp 3],
 .seq (.region [⟨(some 2), .move (.av (.int .i64 0)), none, false⟩,
 ⟨(some 3), .move (.av (.int .i64 0)), none, false⟩] false)
 (.seq (.seq (.region [⟨(some 4), .move (.tmp 0), none, false⟩,
 ⟨(some 5), .buildSlice false 22 1 1 [(.int .i64 0)] [(0, (.tmp 4))], none, false⟩,
 ⟨(some 6), .call (.av (.fn (.func 73) [] [])) [(.tmp 5)], none, false⟩,
 ⟨(some 7), .un .not false (.tmp 6), none, false⟩] false)
 (.cond (.tmp 7)
 (.seq (.region [⟨(some 2), .move (.av (.int .i64 0)), none, false⟩,
 ⟨(some 3), .move (.av (.int .i64 2)), none, false⟩] false)
 (.ret))
 (.skip)))
 (.seq (.region [⟨(some 8), .move (.tmp 0), none, false⟩,
 ⟨(some 2), .move (.tmp 8), none, false⟩,
 ⟨(some 3), .move (.av (.int .i64 0)), none, false⟩] false)
 (.ret)))⟩
/-- inkstand/lex.regular -/
def ac77 : AF := ⟨11, [.tmp 2],
 .seq (.region [⟨(some 2), .move (.av (.bool false)), none, false⟩] false)
 (.seq (.region [⟨(some 3), .move (.tmp 0), none, false⟩,
 ⟨(some 4), .call (.av (.fn (.func 98) [] [])) [(.tmp 3)], none, false⟩,
 ⟨(some 5), .un .not false (.tmp 4), none, false⟩,
 ⟨(some 6), .move (.tmp 5), none, false⟩,
 ⟨(some 7), .move (.tmp 0), (some (6, true)), false⟩,
 ⟨(some 8), .call (.av (.fn (.func 99) [] [])) [(.tmp 7)], (some (6, true)), false⟩,
 ⟨(some 9), .un .not false (.tmp 8), (some (6, true)), false⟩,
 ⟨(some 10), .pick (.tmp 6) (.tmp 9) (.av (.bool false)), none, false⟩,
 ⟨(some 2), .move (.tmp 10), none, false⟩] false)
 (.ret))⟩
/-- strings.IndexByte -/
def ac78 : AF := ⟨8, [.tmp 4],
 .seq (.region [⟨(some 4), .move (.av (.int .i64 0)), none, false⟩] false)
 (.seq (.region [⟨(some 5), .move (.tmp 0), none, false⟩,
 ⟨(some 6), .move (.tmp 1), none, false⟩,
 ⟨(some 7), .call (.av (.fn (.func 100) [] [])) [(.tmp 5), (.tmp 6)], none, false⟩,
 ⟨(some 4), .move (.tmp 7), none, false⟩] false)
 (.ret))⟩
/-- strings.CutPrefix -/
def ac79 : AF := ⟨11, [.tmp 4, .tmp 5],
 .seq (.region [⟨(some 4), .move (.av (.str [])), none, false⟩,
 ⟨(some 5), .move (.av (.bool false)), none, false⟩] false)
 (.seq (.region [⟨(some 6), .move (.tmp 0), none, false⟩,
 ⟨(some 7), .move (.tmp 1), none, false⟩,
 ⟨(some 8), .call (.av (.fn (.func 101) [] [])) [(.tmp 6), (.tmp 7)], none, false⟩,
 ⟨(some 9), .extract (.tmp 8) 0, none, false⟩,
 ⟨(some 10), .extract (.tmp 8) 1, none, false⟩,
 ⟨(some 4), .move (.tmp 9), none, false⟩,
 ⟨(some 5), .move (.tmp 10), none, false⟩] false)
 (.ret))⟩
/-- inkstand/inkstandref03.regular -/
def ac84 : AF := ⟨11, [.tmp 2],
 .seq (.region [⟨(some 2), .move (.av (.bool false)), none, false⟩] false)
 (.seq (.region [⟨(some 3), .move (.tmp 0), none, false⟩,
 ⟨(some 4), .call (.av (.fn (.func 111) [] [])) [(.tmp 3)], none, false⟩,
 ⟨(some 5), .un .not false (.tmp 4), none, false⟩,
 ⟨(some 6), .move (.tmp 5), none, false⟩,
 ⟨(some 7), .move (.tmp 0), (some (6, true)), false⟩,
 ⟨(some 8), .call (.av (.fn (.func 112) [] [])) [(.tmp 7)], (some (6, true)), false⟩,
 ⟨(some 9), .un .not false (.tmp 8), (some (6, true)), false⟩,
 ⟨(some 10), .pick (.tmp 6) (.tmp 9) (.av (.bool false)), none, false⟩,
 ⟨(some 2), .move (.tmp 10), none, false⟩] false)
 (.ret))⟩
/-- inkstand/lex.Next -/
def ac90 : AF := ⟨41, [.cell 4 (some 6), .tmp 5],
 .seq (.region [⟨(some 4), .alloc 93 [(.int .i64 0), (.int .i64 0), (.str []), (.bool false), (.int .i64 0), (.int .i64 0)], none, false⟩,
 ⟨(some 5), .move (.av (.int .i64 0)), none, false⟩] false)
 (.seq (.seq (.region [⟨(some 8), .move (.tmp 1), none, false⟩,
 ⟨(some 9), .bin .lss .other true (.tmp 8) (.av (.int .i64 0)), none, false⟩,
 ⟨(some 10), .move (.tmp 9), none, false⟩,
 ⟨(some 11), .move (.tmp 1), (some (10, false)), false⟩,
 ⟨(some 12), .move (.tmp 0), (some (10, false)), false⟩,
 ⟨(some 13), .len .str (.tmp 12), (some (10, false)), false⟩,
 ⟨(some 14), .bin .gtr .other true (.tmp 11) (.tmp 13), (some (10, false)), false⟩,
 ⟨(some 15), .pick (.tmp 10) (.av (.bool true)) (.tmp 14), none, false⟩] false)
 (.cond (.tmp 15)
 (.seq (.region [⟨(some 16), .build [(.int .i64 0), (.int .i64 0), (.str []), (.bool false), (.int .i64 0), (.int .i64 0)] [], none, false⟩,
 ⟨none, .store 6 (.tmp 4) (.tmp 16), none, false⟩,
 ⟨(some 5), .move (.av (.int .i64 1)), none, false⟩] false)
 (.ret))
 (.skip)))
 (.seq (.region [⟨(some 17), .move (.tmp 0), none, false⟩,
 ⟨(some 18), .move (.tmp 1), none, false⟩,
 ⟨(some 19), .call (.av (.fn (.func 117) [] [])) [(.tmp 17), (.tmp 18)], none, false⟩,
 ⟨(some 20), .build [(.int .i64 0), (.int .i64 0), (.str []), (.bool false), (.int .i64 0), (.int .i64 0)] [(4, 1, (.tmp 19))], none, false⟩,
 ⟨(some 6), .alloc 93 [(.int .i64 0), (.int .i64 0), (.str []), (.bool false), (.int .i64 0), (.int .i64 0)], none, false⟩,
 ⟨none, .store 6 (.tmp 6) (.tmp 20), none, false⟩] false)
 (.seq (.seq (.region [⟨(some 21), .fieldAddr 4 (.tmp 6), none, false⟩,
 ⟨(some 22), .load none (.tmp 21), none, false⟩,
 ⟨(some 23), .move (.tmp 0), none, false⟩,
 ⟨(some 24), .len .str (.tmp 23), none, false⟩,
 ⟨(some 25), .bin .eql .other true (.tmp 22) (.tmp 24), none, false⟩] false)
 (.cond (.tmp 25)
 (.seq (.region [⟨(some 26), .fieldAddr 4 (.tmp 6), none, false⟩,
 ⟨(some 27), .load none (.tmp 26), none, false⟩,
 ⟨(some 28), .fieldAddr 5 (.tmp 6), none, false⟩,
 ⟨none, .store 1 (.tmp 28) (.tmp 27), none, false⟩] false)
 (.seq (.region [⟨(some 29), .load (some 6) (.tmp 6), none, false⟩,
 ⟨none, .store 6 (.tmp 4) (.tmp 29), none, false⟩,
 ⟨(some 5), .move (.av (.int .i64 0)), none, false⟩] false)
 (.ret)))
 (.skip)))
 (.seq (.region [⟨(some 31), .move (.tmp 0), none, false⟩,
 ⟨(some 32), .load (some 6) (.tmp 6), none, false⟩,
 ⟨(some 33), .call (.av (.fn (.func 118) [] [])) [(.tmp 31), (.tmp 32)], none, false⟩,
 ⟨(some 30), .move (.tmp 33), none, false⟩,
 ⟨(some 34), .extract (.tmp 30) 0, none, false⟩,
 ⟨(some 35), .extract (.tmp 30) 1, none, false⟩,
 ⟨none, .store 6 (.tmp 6) (.tmp 34), none, false⟩,
 ⟨(some 7), .move (.tmp 35), none, false⟩] false)
 (.seq (.seq (.region [⟨(some 36), .move (.tmp 7), none, false⟩,
 ⟨(some 37), .bin .neq .other true (.tmp 36) (.av (.int .i64 0)), none, false⟩] false)
 (.cond (.tmp 37)
 (.seq (.region [⟨(some 38), .build [(.int .i64 0), (.int .i64 0), (.str []), (.bool false), (.int .i64 0), (.int .i64 0)] [], none, false⟩,
 ⟨(some 39), .move (.tmp 7), none, false⟩,
 ⟨none, .store 6 (.tmp 4) (.tmp 38), none, false⟩,
 ⟨(some 5), .move (.tmp 39), none, false⟩] false)
 (.ret))
 (.skip)))
 (.seq (.region [⟨(some 40), .load (some 6) (.tmp 6), none, false⟩,
 ⟨none, .store 6 (.tmp 4) (.tmp 40), none, false⟩,
 ⟨(some 5), .move (.av (.int .i64 0)), none, false⟩] false)
 (.ret)))))))⟩
/-- (*inkstand/cos.parser).number -/
def ac91 : AF := ⟨65, [.cell 4 (some 6)],
 .seq (.region [⟨(some 3), .box 93 (.tmp 1), none, false⟩,
 ⟨(some 4), .alloc 26 [(.int .i64 0), (.int .i64 0), (.int .i64 0), (.str []), (.lit (.slice none 0 0)), (.lit (.slice none 0 0))], none, false⟩] false)
 (.seq (.region [⟨(some 11), .fieldAddr 1 (.tmp 3), none, false⟩,
 ⟨(some 12), .load none (.tmp 11), none, false⟩,
 ⟨(some 13), .build [(.int .i64 0), (.int .i64 0), (.int .i64 0), (.str []), (.lit (.slice none 0 0)), (.lit (.slice none 0 0))] [(0, 1, (.av (.int .i64 2))), (2, 1, (.tmp 12))], none, false⟩,
 ⟨(some 5), .alloc 26 [(.int .i64 0), (.int .i64 0), (.int .i64 0), (.str []), (.lit (.slice none 0 0)), (.lit (.slice none 0 0))], none, false⟩,
 ⟨none, .store 6 (.tmp 5) (.tmp 13), none, false⟩] false)
 (.seq (.seq (.region [⟨(some 14), .fieldAddr 3 (.tmp 3), none, false⟩,
 ⟨(some 15), .load none (.tmp 14), none, false⟩] false)
 (.cond (.tmp 15)
 (.region [⟨(some 16), .fieldAddr 1 (.tmp 5), none, false⟩,
 ⟨none, .store 1 (.tmp 16) (.av (.int .i64 1)), none, false⟩] false)
 (.skip)))
 (.seq (.region [⟨(some 17), .move (.tmp 0), none, false⟩,
 ⟨(some 18), .nilCheck (.tmp 17), none, false⟩,
 ⟨(some 19), .load (some 3) (.tmp 18), none, false⟩,
 ⟨(some 6), .alloc 74 [(.str []), (.int .i64 0), (.int .i64 0)], none, false⟩,
 ⟨none, .store 3 (.tmp 6) (.tmp 19), none, false⟩] false)
 (.seq (.region [⟨(some 21), .call (.av (.fn (.func 71) [] [])) [(.tmp 6)], none, false⟩,
 ⟨(some 20), .move (.tmp 21), none, false⟩,
 ⟨(some 22), .extract (.tmp 20) 0, none, false⟩,
 ⟨(some 23), .extract (.tmp 20) 1, none, false⟩,
 ⟨(some 7), .alloc 93 [(.int .i64 0), (.int .i64 0), (.str []), (.bool false), (.int .i64 0), (.int .i64 0)], none, false⟩,
 ⟨none, .store 6 (.tmp 7) (.tmp 22), none, false⟩,
 ⟨(some 8), .move (.tmp 23), none, false⟩] false)
 (.seq (.seq (.region [⟨(some 24), .load (some 6) (.tmp 3), none, false⟩,
 ⟨(some 25), .call (.av (.fn (.func 119) [] [])) [(.tmp 24)], none, false⟩,
 ⟨(some 26), .un .not false (.tmp 25), none, false⟩,
 ⟨(some 27), .move (.tmp 26), none, false⟩,
 ⟨(some 28), .move (.tmp 8), (some (27, false)), false⟩,
 ⟨(some 29), .bin .neq .other true (.tmp 28) (.av (.int .i64 0)), (some (27, false)), false⟩,
 ⟨(some 30), .pick (.tmp 27) (.av (.bool true)) (.tmp 29), none, false⟩,
 ⟨(some 31), .move (.tmp 30), none, false⟩,
 ⟨(some 32), .load (some 6) (.tmp 7), (some (31, false)), false⟩,
 ⟨(some 33), .call (.av (.fn (.func 119) [] [])) [(.tmp 32)], (some (31, false)), false⟩,
 ⟨(some 34), .un .not false (.tmp 33), (some (31, false)), false⟩,
 ⟨(some 35), .pick (.tmp 31) (.av (.bool true)) (.tmp 34), none, false⟩] false)
 (.cond (.tmp 35)
 (.seq (.region [⟨(some 36), .load (some 6) (.tmp 5), none, false⟩,
 ⟨none, .store 6 (.tmp 4) (.tmp 36), none, false⟩] false)
 (.ret))
 (.skip)))
 (.seq (.seq (.region [⟨(some 38), .call (.av (.fn (.func 71) [] [])) [(.tmp 6)], none, false⟩,
 ⟨(some 37), .move (.tmp 38), none, false⟩,
 ⟨(some 39), .extract (.tmp 37) 0, none, false⟩,
 ⟨(some 40), .extract (.tmp 37) 1, none, false⟩,
 ⟨(some 9), .alloc 93 [(.int .i64 0), (.int .i64 0), (.str []), (.bool false), (.int .i64 0), (.int .i64 0)], none, false⟩,
 ⟨none, .store 6 (.tmp 9) (.tmp 39), none, false⟩,
 ⟨(some 10), .move (.tmp 40), none, false⟩] false)
 (.seq (.region [⟨(some 41), .move (.tmp 10), none, false⟩,
 ⟨(some 42), .bin .neq .other true (.tmp 41) (.av (.int .i64 0)), none, false⟩,
 ⟨(some 43), .move (.tmp 42), none, false⟩,
 ⟨(some 44), .fieldAddr 0 (.tmp 9), (some (43, false)), false⟩,
 ⟨(some 45), .load none (.tmp 44), (some (43, false)), false⟩,
 ⟨(some 46), .bin .neq .other true (.tmp 45) (.av (.int .i64 8)), (some (43, false)), false⟩,
 ⟨(some 47), .pick (.tmp 43) (.av (.bool true)) (.tmp 46), none, false⟩,
 ⟨(some 48), .move (.tmp 47), none, false⟩,
 ⟨(some 49), .fieldAddr 2 (.tmp 9), (some (48, false)), false⟩,
 ⟨(some 50), .load none (.tmp 49), (some (48, false)), false⟩,
 ⟨(some 51), .bin .neq .other false (.tmp 50) (.av (.str [82])), (some (48, false)), false⟩,
 ⟨(some 52), .pick (.tmp 48) (.av (.bool true)) (.tmp 51), none, false⟩] false)
 (.cond (.tmp 52)
 (.seq (.region [⟨(some 53), .load (some 6) (.tmp 5), none, false⟩,
 ⟨none, .store 6 (.tmp 4) (.tmp 53), none, false⟩] false)
 (.ret))
 (.skip))))
 (.seq (.region [⟨(some 54), .move (.tmp 0), none, false⟩,
 ⟨(some 55), .fieldAddr 1 (.tmp 6), none, false⟩,
 ⟨(some 56), .load none (.tmp 55), none, false⟩,
 ⟨(some 57), .nilCheck (.tmp 54), none, false⟩,
 ⟨(some 58), .fieldAddr 1 (.tmp 57), none, false⟩,
 ⟨none, .store 1 (.tmp 58) (.tmp 56), none, false⟩] false)
 (.seq (.region [⟨(some 59), .fieldAddr 1 (.tmp 3), none, false⟩,
 ⟨(some 60), .load none (.tmp 59), none, false⟩,
 ⟨(some 61), .bin .quo .other true (.tmp 60) (.av (.int .i64 1000)), none, false⟩,
 ⟨(some 62), .fieldAddr 1 (.tmp 7), none, false⟩,
 ⟨(some 63), .load none (.tmp 62), none, false⟩,
 ⟨(some 64), .build [(.int .i64 0), (.int .i64 0), (.int .i64 0), (.str []), (.lit (.slice none 0 0)), (.lit (.slice none 0 0))] [(0, 1, (.av (.int .i64 7))), (1, 1, (.tmp 61)), (2, 1, (.tmp 63))], none, false⟩,
 ⟨none, .store 6 (.tmp 4) (.tmp 64), none, false⟩] false)
 (.ret)))))))))⟩
/-- inkstand/cos.Word -/
def ac92 : AF := ⟨5, [.cell 2 (some 6)],
 .seq (.region [⟨(some 2), .alloc 26 [(.int .i64 0), (.int .i64 0), (.int .i64 0), (.str []), (.lit (.slice none 0 0)), (.lit (.slice none 0 0))], none, false⟩] false)
 (.seq (.region [⟨(some 3), .move (.tmp 0), none, false⟩,
 ⟨(some 4), .build [(.int .i64 0), (.int .i64 0), (.int .i64 0), (.str []), (.lit (.slice none 0 0)), (.lit (.slice none 0 0))] [(0, 1, (.av (.int .i64 3))), (3, 1, (.tmp 3))], none, false⟩,
 ⟨none, .store 6 (.tmp 2) (.tmp 4), none, false⟩] false)
 (.ret))⟩
/-- (*inkstand/cos.parser).within -/
def ac93 : AF := ⟨38, [.cell 4 (some 6), .tmp 5],
 .seq (.region [⟨(some 4), .alloc 26 [(.int .i64 0), (.int .i64 0), (.int .i64 0), (.str []), (.lit (.slice none 0 0)), (.lit (.slice none 0 0))], none, false⟩,
 ⟨(some 5), .move (.av (.int .i64 0)), none, false⟩] false)
 (.seq (.seq (.region [⟨(some 8), .move (.tmp 0), none, false⟩,
 ⟨(some 9), .nilCheck (.tmp 8), none, false⟩,
 ⟨(some 10), .fieldAddr 2 (.tmp 9), none, false⟩,
 ⟨(some 11), .load none (.tmp 10), none, false⟩,
 ⟨(some 12), .bin .eql .other true (.tmp 11) (.av (.int .i64 64)), none, false⟩] false)
 (.cond (.tmp 12)
 (.seq (.region [⟨(some 13), .build [(.int .i64 0), (.int .i64 0), (.int .i64 0), (.str []), (.lit (.slice none 0 0)), (.lit (.slice none 0 0))] [], none, false⟩,
 ⟨none, .store 6 (.tmp 4) (.tmp 13), none, false⟩,
 ⟨(some 5), .move (.av (.int .i64 5)), none, false⟩] false)
 (.ret))
 (.skip)))
 (.seq (.region [⟨(some 14), .move (.tmp 0), none, false⟩,
 ⟨(some 15), .nilCheck (.tmp 14), none, false⟩,
 ⟨(some 16), .fieldAddr 2 (.tmp 15), none, false⟩,
 ⟨(some 17), .load none (.tmp 16), none, false⟩,
 ⟨(some 18), .bin .add .other true (.tmp 17) (.av (.int .i64 1)), none, false⟩,
 ⟨(some 19), .nilCheck (.tmp 14), none, false⟩,
 ⟨(some 20), .fieldAddr 2 (.tmp 19), none, false⟩,
 ⟨none, .store 1 (.tmp 20) (.tmp 18), none, false⟩] false)
 (.seq (.region [⟨(some 22), .move (.tmp 1), none, false⟩,
 ⟨(some 23), .call (.tmp 22) [], none, false⟩,
 ⟨(some 21), .move (.tmp 23), none, false⟩,
 ⟨(some 24), .extract (.tmp 21) 0, none, false⟩,
 ⟨(some 25), .extract (.tmp 21) 1, none, false⟩,
 ⟨(some 6), .alloc 26 [(.int .i64 0), (.int .i64 0), (.int .i64 0), (.str []), (.lit (.slice none 0 0)), (.lit (.slice none 0 0))], none, false⟩,
 ⟨none, .store 6 (.tmp 6) (.tmp 24), none, false⟩,
 ⟨(some 7), .move (.tmp 25), none, false⟩] false)
 (.seq (.region [⟨(some 26), .move (.tmp 0), none, false⟩,
 ⟨(some 27), .nilCheck (.tmp 26), none, false⟩,
 ⟨(some 28), .fieldAddr 2 (.tmp 27), none, false⟩,
 ⟨(some 29), .load none (.tmp 28), none, false⟩,
 ⟨(some 30), .bin .sub .other true (.tmp 29) (.av (.int .i64 1)), none, false⟩,
 ⟨(some 31), .nilCheck (.tmp 26), none, false⟩,
 ⟨(some 32), .fieldAddr 2 (.tmp 31), none, false⟩,
 ⟨none, .store 1 (.tmp 32) (.tmp 30), none, false⟩] false)
 (.seq (.seq (.region [⟨(some 33), .move (.tmp 7), none, false⟩,
 ⟨(some 34), .bin .neq .other true (.tmp 33) (.av (.int .i64 0)), none, false⟩] false)
 (.cond (.tmp 34)
 (.seq (.region [⟨(some 35), .build [(.int .i64 0), (.int .i64 0), (.int .i64 0), (.str []), (.lit (.slice none 0 0)), (.lit (.slice none 0 0))] [], none, false⟩,
 ⟨(some 36), .move (.tmp 7), none, false⟩,
 ⟨none, .store 6 (.tmp 4) (.tmp 35), none, false⟩,
 ⟨(some 5), .move (.tmp 36), none, false⟩] false)
 (.ret))
 (.skip)))
 (.seq (.region [⟨(some 37), .load (some 6) (.tmp 6), none, false⟩,
 ⟨none, .store 6 (.tmp 4) (.tmp 37), none, false⟩,
 ⟨(some 5), .move (.av (.int .i64 0)), none, false⟩] false)
 (.ret)))))))⟩
/-- (*inkstand/cos.parser).array -/
def ac94 : AF := ⟨51, [.cell 2 (some 6), .tmp 3],
 .seq (.region [⟨(some 2), .alloc 26 [(.int .i64 0), (.int .i64 0), (.int .i64 0), (.str []), (.lit (.slice none 0 0)), (.lit (.slice none 0 0))], none, false⟩,
 ⟨(some 3), .move (.av (.int .i64 0)), none, false⟩] false)
 (.seq (.region [⟨(some 8), .build [(.int .i64 0), (.int .i64 0), (.int .i64 0), (.str []), (.lit (.slice none 0 0)), (.lit (.slice none 0 0))] [(0, 1, (.av (.int .i64 5)))], none, false⟩,
 ⟨(some 4), .alloc 26 [(.int .i64 0), (.int .i64 0), (.int .i64 0), (.str []), (.lit (.slice none 0 0)), (.lit (.slice none 0 0))], none, false⟩,
 ⟨none, .store 6 (.tmp 4) (.tmp 8), none, false⟩] false)
 (.block 0
 (.loop
 (.block 1
 (.seq (.region [⟨(some 10), .move (.tmp 0), none, false⟩,
 ⟨(some 11), .call (.av (.fn (.func 71) [] [])) [(.tmp 10)], none, false⟩,
 ⟨(some 9), .move (.tmp 11), none, false⟩,
 ⟨(some 12), .extract (.tmp 9) 0, none, false⟩,
 ⟨(some 13), .extract (.tmp 9) 1, none, false⟩,
 ⟨(some 5), .alloc 93 [(.int .i64 0), (.int .i64 0), (.str []), (.bool false), (.int .i64 0), (.int .i64 0)], none, false⟩,
 ⟨none, .store 6 (.tmp 5) (.tmp 12), none, false⟩,
 ⟨(some 6), .move (.tmp 13), none, false⟩] false)
 (.seq (.block 2
 (.seq (.region [⟨(some 15), .move (.tmp 6), none, false⟩,
 ⟨(some 16), .bin .neq .other true (.tmp 15) (.av (.int .i64 0)), none, false⟩,
 ⟨(some 14), .move (.tmp 16), none, false⟩] false)
 (.cond (.tmp 14)
 (.seq (.region [⟨(some 17), .load (some 6) (.tmp 4), none, false⟩,
 ⟨(some 18), .move (.tmp 6), none, false⟩,
 ⟨none, .store 6 (.tmp 2) (.tmp 17), none, false⟩,
 ⟨(some 3), .move (.tmp 18), none, false⟩] false)
 (.ret))
 (.seq (.region [⟨(some 20), .fieldAddr 0 (.tmp 5), none, false⟩,
 ⟨(some 21), .load none (.tmp 20), none, false⟩,
 ⟨(some 22), .bin .eql .other true (.tmp 21) (.av (.int .i64 5)), none, false⟩,
 ⟨(some 19), .move (.tmp 22), none, false⟩] false)
 (.cond (.tmp 19)
 (.seq (.region [⟨(some 23), .load (some 6) (.tmp 4), none, false⟩,
 ⟨none, .store 6 (.tmp 2) (.tmp 23), none, false⟩,
 ⟨(some 3), .move (.av (.int .i64 0)), none, false⟩] false)
 (.ret))
 (.seq (.region [⟨(some 25), .fieldAddr 0 (.tmp 5), none, false⟩,
 ⟨(some 26), .load none (.tmp 25), none, false⟩,
 ⟨(some 27), .bin .neq .other true (.tmp 26) (.av (.int .i64 0)), none, false⟩,
 ⟨(some 28), .move (.tmp 27), none, false⟩,
 ⟨(some 29), .fieldAddr 4 (.tmp 4), (some (28, true)), false⟩,
 ⟨(some 30), .load none (.tmp 29), (some (28, true)), false⟩,
 ⟨(some 31), .len (.slice 6) (.tmp 30), (some (28, true)), false⟩,
 ⟨(some 32), .bin .eql .other true (.tmp 31) (.av (.int .i64 1024)), (some (28, true)), false⟩,
 ⟨(some 33), .pick (.tmp 28) (.tmp 32) (.av (.bool false)), none, false⟩,
 ⟨(some 24), .move (.tmp 33), none, false⟩] false)
 (.cond (.tmp 24)
 (.seq (.region [⟨(some 34), .load (some 6) (.tmp 4), none, false⟩,
 ⟨none, .store 6 (.tmp 2) (.tmp 34), none, false⟩,
 ⟨(some 3), .move (.av (.int .i64 6)), none, false⟩] false)
 (.ret))
 (.skip))))))))
 (.seq (.region [⟨(some 36), .move (.tmp 0), none, false⟩,
 ⟨(some 37), .load (some 6) (.tmp 5), none, false⟩,
 ⟨(some 38), .call (.av (.fn (.func 72) [] [])) [(.tmp 36), (.tmp 37)], none, false⟩,
 ⟨(some 35), .move (.tmp 38), none, false⟩,
 ⟨(some 39), .extract (.tmp 35) 0, none, false⟩,
 ⟨(some 40), .extract (.tmp 35) 1, none, false⟩,
 ⟨(some 7), .alloc 26 [(.int .i64 0), (.int .i64 0), (.int .i64 0), (.str []), (.lit (.slice none 0 0)), (.lit (.slice none 0 0))], none, false⟩,
 ⟨none, .store 6 (.tmp 7) (.tmp 39), none, false⟩,
 ⟨(some 6), .move (.tmp 40), none, false⟩] false)
 (.seq (.seq (.region [⟨(some 41), .move (.tmp 6), none, false⟩,
 ⟨(some 42), .bin .neq .other true (.tmp 41) (.av (.int .i64 0)), none, false⟩] false)
 (.cond (.tmp 42)
 (.seq (.region [⟨(some 43), .load (some 6) (.tmp 4), none, false⟩,
 ⟨(some 44), .move (.tmp 6), none, false⟩,
 ⟨none, .store 6 (.tmp 2) (.tmp 43), none, false⟩,
 ⟨(some 3), .move (.tmp 44), none, false⟩] false)
 (.ret))
 (.skip)))
 (.region [⟨(some 45), .fieldAddr 4 (.tmp 4), none, false⟩,
 ⟨(some 46), .load none (.tmp 45), none, false⟩,
 ⟨(some 47), .load (some 6) (.tmp 7), none, false⟩,
 ⟨(some 48), .buildSlice false 26 6 1 [(.int .i64 0), (.int .i64 0), (.int .i64 0), (.str []), (.lit (.slice none 0 0)), (.lit (.slice none 0 0))] [(0, (.tmp 47))], none, false⟩,
 ⟨(some 49), .append 26 6 88 [(.int .i64 0), (.int .i64 0), (.int .i64 0), (.str []), (.lit (.slice none 0 0)), (.lit (.slice none 0 0))] (.tmp 46) (.tmp 48), none, false⟩,
 ⟨(some 50), .fieldAddr 4 (.tmp 4), none, false⟩,
 ⟨none, .store 1 (.tmp 50) (.tmp 49), none, false⟩] false)))))))))⟩
/-- (*inkstand/cos.parser).dict -/
def ac95 : AF := ⟨55, [.cell 2 (some 6), .tmp 3],
 .seq (.region [⟨(some 2), .alloc 26 [(.int .i64 0), (.int .i64 0), (.int .i64 0), (.str []), (.lit (.slice none 0 0)), (.lit (.slice none 0 0))], none, false⟩,
 ⟨(some 3), .move (.av (.int .i64 0)), none, false⟩] false)
 (.seq (.region [⟨(some 9), .build [(.int .i64 0), (.int .i64 0), (.int .i64 0), (.str []), (.lit (.slice none 0 0)), (.lit (.slice none 0 0))] [(0, 1, (.av (.int .i64 6)))], none, false⟩,
 ⟨(some 4), .alloc 26 [(.int .i64 0), (.int .i64 0), (.int .i64 0), (.str []), (.lit (.slice none 0 0)), (.lit (.slice none 0 0))], none, false⟩,
 ⟨none, .store 6 (.tmp 4) (.tmp 9), none, false⟩] false)
 (.seq (.region [⟨(some 5), .move (.av (.int .i64 0)), none, false⟩] false)
 (.block 0
 (.loop
 (.seq (.block 1
 (.seq (.region [⟨(some 13), .move (.tmp 0), none, false⟩,
 ⟨(some 14), .call (.av (.fn (.func 71) [] [])) [(.tmp 13)], none, false⟩,
 ⟨(some 12), .move (.tmp 14), none, false⟩,
 ⟨(some 15), .extract (.tmp 12) 0, none, false⟩,
 ⟨(some 16), .extract (.tmp 12) 1, none, false⟩,
 ⟨(some 6), .alloc 93 [(.int .i64 0), (.int .i64 0), (.str []), (.bool false), (.int .i64 0), (.int .i64 0)], none, false⟩,
 ⟨none, .store 6 (.tmp 6) (.tmp 15), none, false⟩,
 ⟨(some 7), .move (.tmp 16), none, false⟩] false)
 (.seq (.block 2
 (.seq (.region [⟨(some 18), .move (.tmp 7), none, false⟩,
 ⟨(some 19), .bin .neq .other true (.tmp 18) (.av (.int .i64 0)), none, false⟩,
 ⟨(some 17), .move (.tmp 19), none, false⟩] false)
 (.cond (.tmp 17)
 (.seq (.region [⟨(some 20), .load (some 6) (.tmp 4), none, false⟩,
 ⟨(some 21), .move (.tmp 7), none, false⟩,
 ⟨none, .store 6 (.tmp 2) (.tmp 20), none, false⟩,
 ⟨(some 3), .move (.tmp 21), none, false⟩] false)
 (.ret))
 (.seq (.region [⟨(some 23), .fieldAddr 0 (.tmp 6), none, false⟩,
 ⟨(some 24), .load none (.tmp 23), none, false⟩,
 ⟨(some 25), .bin .eql .other true (.tmp 24) (.av (.int .i64 7)), none, false⟩,
 ⟨(some 22), .move (.tmp 25), none, false⟩] false)
 (.cond (.tmp 22)
 (.seq (.region [⟨(some 26), .load (some 6) (.tmp 4), none, false⟩,
 ⟨none, .store 6 (.tmp 2) (.tmp 26), none, false⟩,
 ⟨(some 3), .move (.av (.int .i64 0)), none, false⟩] false)
 (.ret))
 (.seq (.region [⟨(some 28), .fieldAddr 0 (.tmp 6), none, false⟩,
 ⟨(some 29), .load none (.tmp 28), none, false⟩,
 ⟨(some 30), .bin .eql .other true (.tmp 29) (.av (.int .i64 0)), none, false⟩,
 ⟨(some 27), .move (.tmp 30), none, false⟩] false)
 (.cond (.tmp 27)
 (.seq (.region [⟨(some 31), .load (some 6) (.tmp 4), none, false⟩,
 ⟨none, .store 6 (.tmp 2) (.tmp 31), none, false⟩,
 ⟨(some 3), .move (.av (.int .i64 4)), none, false⟩] false)
 (.ret))
 (.seq (.region [⟨(some 33), .move (.tmp 5), none, false⟩,
 ⟨(some 34), .bin .eql .other true (.tmp 33) (.av (.int .i64 1024)), none, false⟩,
 ⟨(some 32), .move (.tmp 34), none, false⟩] false)
 (.cond (.tmp 32)
 (.seq (.region [⟨(some 35), .load (some 6) (.tmp 4), none, false⟩,
 ⟨none, .store 6 (.tmp 2) (.tmp 35), none, false⟩,
 ⟨(some 3), .move (.av (.int .i64 6)), none, false⟩] false)
 (.ret))
 (.seq (.region [⟨(some 37), .fieldAddr 0 (.tmp 6), none, false⟩,
 ⟨(some 38), .load none (.tmp 37), none, false⟩,
 ⟨(some 39), .bin .neq .other true (.tmp 38) (.av (.int .i64 2)), none, false⟩,
 ⟨(some 36), .move (.tmp 39), none, false⟩] false)
 (.cond (.tmp 36)
 (.seq (.region [⟨(some 40), .load (some 6) (.tmp 4), none, false⟩,
 ⟨none, .store 6 (.tmp 2) (.tmp 40), none, false⟩,
 ⟨(some 3), .move (.av (.int .i64 3)), none, false⟩] false)
 (.ret))
 (.skip))))))))))))
 (.seq (.region [⟨(some 42), .move (.tmp 0), none, false⟩,
 ⟨(some 43), .call (.av (.fn (.func 45) [] [])) [(.tmp 42)], none, false⟩,
 ⟨(some 41), .move (.tmp 43), none, false⟩,
 ⟨(some 44), .extract (.tmp 41) 0, none, false⟩,
 ⟨(some 45), .extract (.tmp 41) 1, none, false⟩,
 ⟨(some 8), .alloc 26 [(.int .i64 0), (.int .i64 0), (.int .i64 0), (.str []), (.lit (.slice none 0 0)), (.lit (.slice none 0 0))], none, false⟩,
 ⟨none, .store 6 (.tmp 8) (.tmp 44), none, false⟩,
 ⟨(some 7), .move (.tmp 45), none, false⟩] false)
 (.seq (.seq (.region [⟨(some 46), .move (.tmp 7), none, false⟩,
 ⟨(some 47), .bin .neq .other true (.tmp 46) (.av (.int .i64 0)), none, false⟩] false)
 (.cond (.tmp 47)
 (.seq (.region [⟨(some 48), .load (some 6) (.tmp 4), none, false⟩,
 ⟨(some 49), .move (.tmp 7), none, false⟩,
 ⟨none, .store 6 (.tmp 2) (.tmp 48), none, false⟩,
 ⟨(some 3), .move (.tmp 49), none, false⟩] false)
 (.ret))
 (.skip)))
 (.region [⟨(some 50), .load (some 6) (.tmp 4), none, false⟩,
 ⟨(some 51), .fieldAddr 2 (.tmp 6), none, false⟩,
 ⟨(some 52), .load none (.tmp 51), none, false⟩,
 ⟨(some 53), .load (some 6) (.tmp 8), none, false⟩,
 ⟨(some 54), .call (.av (.fn (.func 9) [] [])) [(.tmp 50), (.tmp 52), (.tmp 53)], none, false⟩,
 ⟨none, .store 6 (.tmp 4) (.tmp 54), none, false⟩] false))))))
 (.region [⟨(some 10), .move (.tmp 5), none, false⟩,
 ⟨(some 11), .bin .add .other true (.tmp 10) (.av (.int .i64 1)), none, false⟩,
 ⟨(some 5), .move (.tmp 11), none, false⟩] false))))))⟩
/-- inkstand/cos.word -/
def ac96 : AF := ⟨15, [.cell 2 (some 6), .tmp 3],
 .seq (.region [⟨(some 2), .alloc 26 [(.int .i64 0), (.int .i64 0), (.int .i64 0), (.str []), (.lit (.slice none 0 0)), (.lit (.slice none 0 0))], none, false⟩,
 ⟨(some 3), .move (.av (.int .i64 0)), none, false⟩] false)
 (.seq (.seq (.region [⟨(some 4), .move (.tmp 0), none, false⟩] false)
 (.block 0
 (.seq (.region [⟨(some 6), .bin .eql .other false (.tmp 4) (.av (.str [116, 114, 117, 101])), none, false⟩,
 ⟨(some 5), .move (.tmp 6), none, false⟩] false)
 (.cond (.tmp 5)
 (.seq (.region [⟨(some 7), .build [(.int .i64 0), (.int .i64 0), (.int .i64 0), (.str []), (.lit (.slice none 0 0)), (.lit (.slice none 0 0))] [(0, 1, (.av (.int .i64 1))), (1, 1, (.av (.int .i64 1)))], none, false⟩,
 ⟨none, .store 6 (.tmp 2) (.tmp 7), none, false⟩,
 ⟨(some 3), .move (.av (.int .i64 0)), none, false⟩] false)
 (.ret))
 (.seq (.region [⟨(some 9), .bin .eql .other false (.tmp 4) (.av (.str [102, 97, 108, 115, 101])), none, false⟩,
 ⟨(some 8), .move (.tmp 9), none, false⟩] false)
 (.cond (.tmp 8)
 (.seq (.region [⟨(some 10), .build [(.int .i64 0), (.int .i64 0), (.int .i64 0), (.str []), (.lit (.slice none 0 0)), (.lit (.slice none 0 0))] [(0, 1, (.av (.int .i64 1)))], none, false⟩,
 ⟨none, .store 6 (.tmp 2) (.tmp 10), none, false⟩,
 ⟨(some 3), .move (.av (.int .i64 0)), none, false⟩] false)
 (.ret))
 (.seq (.region [⟨(some 12), .bin .eql .other false (.tmp 4) (.av (.str [110, 117, 108, 108])), none, false⟩,
 ⟨(some 11), .move (.tmp 12), none, false⟩] false)
 (.cond (.tmp 11)
 (.seq (.region [⟨(some 13), .build [(.int .i64 0), (.int .i64 0), (.int .i64 0), (.str []), (.lit (.slice none 0 0)), (.lit (.slice none 0 0))] [], none, false⟩,
 ⟨none, .store 6 (.tmp 2) (.tmp 13), none, false⟩,
 ⟨(some 3), .move (.av (.int .i64 0)), none, false⟩] false)
 (.ret))
 (.skip)))))))))
 (.seq (.region [⟨(some 14), .build [(.int .i64 0), (.int .i64 0), (.int .i64 0), (.str []), (.lit (.slice none 0 0)), (.lit (.slice none 0 0))] [], none, false⟩,
 ⟨none, .store 6 (.tmp 2) (.tmp 14), none, false⟩,
 ⟨(some 3), .move (.av (.int .i64 3)), none, false⟩] false)
 (.ret)))⟩
/-- inkstand/lex.White -/
def ac98 : AF := ⟨11, [.tmp 2],
 .seq (.region [⟨(some 2), .move (.av (.bool false)), none, false⟩] false)
 (.seq (.seq (.region [⟨(some 3), .move (.tmp 0), none, false⟩] false)
 (.block 0
 (.seq (.seq (.region [⟨(some 5), .bin .eql .other false (.tmp 3) (.av (.int .u8 0)), none, false⟩,
 ⟨(some 4), .move (.tmp 5), none, false⟩] false)
 (.cond (.tmp 4)
 (.skip)
 (.seq (.region [⟨(some 6), .bin .eql .other false (.tmp 3) (.av (.int .u8 9)), none, false⟩,
 ⟨(some 4), .move (.tmp 6), none, false⟩] false)
 (.cond (.tmp 4)
 (.skip)
 (.seq (.region [⟨(some 7), .bin .eql .other false (.tmp 3) (.av (.int .u8 10)), none, false⟩,
 ⟨(some 4), .move (.tmp 7), none, false⟩] false)
 (.cond (.tmp 4)
 (.skip)
 (.seq (.region [⟨(some 8), .bin .eql .other false (.tmp 3) (.av (.int .u8 12)), none, false⟩,
 ⟨(some 4), .move (.tmp 8), none, false⟩] false)
 (.cond (.tmp 4)
 (.skip)
 (.seq (.region [⟨(some 9), .bin .eql .other false (.tmp 3) (.av (.int .u8 13)), none, false⟩,
 ⟨(some 4), .move (.tmp 9), none, false⟩] false)
 (.cond (.tmp 4)
 (.skip)
 (.region [⟨(some 10), .bin .eql .other false (.tmp 3) (.av (.int .u8 32)), none, false⟩,
 ⟨(some 4), .move (.tmp 10), none, false⟩] false)))))))))))
 (.cond (.tmp 4)
 (.seq (.region [⟨(some 2), .move (.av (.bool true)), none, false⟩] false)
 (.ret))
 (.skip)))))
 (.seq (.region [⟨(some 2), .move (.av (.bool false)), none, false⟩] false)
 (.ret)))⟩
/-- inkstand/lex.Delim -/
def ac99 : AF := ⟨6, [.tmp 2],
 .seq (.region [⟨(some 2), .move (.av (.bool false)), none, false⟩] false)
 (.seq (.region [⟨(some 3), .move (.tmp 0), none, false⟩,
 ⟨(some 4), .call (.av (.fn (.func 78) [] [])) [(.av (.str [40, 41, 60, 62, 91, 93, 123, 125, 47, 37])), (.tmp 3)], none, false⟩,
 ⟨(some 5), .bin .geq .other true (.tmp 4) (.av (.int .i64 0)), none, false⟩,
 ⟨(some 2), .move (.tmp 5), none, false⟩] false)
 (.ret))⟩
/-- internal/stringslite.IndexByte -/
def ac100 : AF := ⟨8, [.tmp 4],
 .seq (.region [⟨(some 4), .move (.av (.int .i64 0)), none, false⟩] false)
 (.seq (.region [⟨(some 5), .move (.tmp 0), none, false⟩,
 ⟨(some 6), .move (.tmp 1), none, false⟩,
 ⟨(some 7), .call (.av (.fn (.func 120) [] [])) [(.tmp 5), (.tmp 6)], none, false⟩,
 ⟨(some 4), .move (.tmp 7), none, false⟩] false)
 (.ret))⟩
/-- internal/stringslite.CutPrefix -/
def ac101 : AF := ⟨15, [.tmp 4, .tmp 5],
 .seq (.region [⟨(some 4), .move (.av (.str [])), none, false⟩,
 ⟨(some 5), .move (.av (.bool false)), none, false⟩] false)
 (.seq (.seq (.region [⟨(some 6), .move (.tmp 0), none, false⟩,
 ⟨(some 7), .move (.tmp 1), none, false⟩,
 ⟨(some 8), .call (.av (.fn (.func 121) [] [])) [(.tmp 6), (.tmp 7)], none, false⟩,
 ⟨(some 9), .un .not false (.tmp 8), none, false⟩] false)
 (.cond (.tmp 9)
 (.seq (.region [⟨(some 10), .move (.tmp 0), none, false⟩,
 ⟨(some 4), .move (.tmp 10), none, false⟩,
 ⟨(some 5), .move (.av (.bool false)), none, false⟩] false)
 (.ret))
 (.skip)))
 (.seq (.region [⟨(some 11), .move (.tmp 0), none, false⟩,
 ⟨(some 12), .move (.tmp 1), none, false⟩,
 ⟨(some 13), .len .str (.tmp 12), none, false⟩,
 ⟨(some 14), .slice .str (.tmp 11) (some (.tmp 13)) none, none, false⟩,
 ⟨(some 4), .move (.tmp 14), none, false⟩,
 ⟨(some 5), .move (.av (.bool true)), none, false⟩] false)
 (.ret)))⟩
/-- strings.HasPrefix -/
def ac103 : AF := ⟨8, [.tmp 4],
 .seq (.region [⟨(some 4), .move (.av (.bool false)), none, false⟩] false)
 (.seq (.region [⟨(some 5), .move (.tmp 0), none, false⟩,
 ⟨(some 6), .move (.tmp 1), none, false⟩,
 ⟨(some 7), .call (.av (.fn (.func 121) [] [])) [(.tmp 5), (.tmp 6)], none, false⟩,
 ⟨(some 4), .move (.tmp 7), none, false⟩] false)
 (.ret))⟩
/-- strings.makeASCIISet -/
def ac108 : AF := ⟨21, [.cell 2 (some 256), .tmp 3],
 .seq (.region [⟨(some 2), .alloc 124 (List.replicate 256 (.bool false)), none, false⟩,
 ⟨(some 3), .move (.av (.bool false)), none, false⟩] false)
 (.seq (.seq (.region [⟨(some 4), .move (.av (.int .i64 0)), none, false⟩] false)
 (.block 0
 (.loop
 (.seq (.seq (.region [⟨(some 6), .move (.tmp 4), none, false⟩,
 ⟨(some 7), .move (.tmp 0), none, false⟩,
 ⟨(some 8), .len .str (.tmp 7), none, false⟩,
 ⟨(some 9), .bin .lss .other true (.tmp 6) (.tmp 8), none, false⟩] false)
 (.cond (.tmp 9)
 (.skip)
 (.exit 0)))
 (.seq (.block 1
 (.seq (.region [⟨(some 12), .move (.tmp 0), none, false⟩,
 ⟨(some 13), .move (.tmp 4), none, false⟩,
 ⟨(some 14), .indexStr (.tmp 12) (.tmp 13), none, false⟩,
 ⟨(some 5), .move (.tmp 14), none, false⟩] false)
 (.seq (.seq (.region [⟨(some 15), .move (.tmp 5), none, false⟩,
 ⟨(some 16), .bin .geq .other false (.tmp 15) (.av (.int .u8 128)), none, false⟩] false)
 (.cond (.tmp 16)
 (.seq (.region [⟨(some 17), .load (some 256) (.tmp 2), none, false⟩,
 ⟨none, .store 256 (.tmp 2) (.tmp 17), none, false⟩,
 ⟨(some 3), .move (.av (.bool false)), none, false⟩] false)
 (.ret))
 (.skip)))
 (.region [⟨(some 18), .move (.tmp 5), none, false⟩,
 ⟨(some 19), .indexAddr (some 256) 1 (.tmp 2) (.tmp 18), none, false⟩,
 ⟨none, .store 1 (.tmp 19) (.av (.bool true)), none, false⟩] false))))
 (.region [⟨(some 10), .move (.tmp 4), none, false⟩,
 ⟨(some 11), .bin .add .other true (.tmp 10) (.av (.int .i64 1)), none, false⟩,
 ⟨(some 4), .move (.tmp 11), none, false⟩] false))))))
 (.seq (.region [⟨(some 20), .load (some 256) (.tmp 2), none, false⟩,
 ⟨none, .store 256 (.tmp 2) (.tmp 20), none, false⟩,
 ⟨(some 3), .move (.av (.bool true)), none, false⟩] false)
 (.ret)))⟩
/-- strings.trimRightASCII -/
def ac109 : AF := ⟨22, [.tmp 4],
 .seq (.region [⟨(some 4), .move (.av (.str [])), none, false⟩] false)
 (.seq (.block 0
 (.loop
 (.seq (.seq (.region [⟨(some 5), .move (.tmp 0), none, false⟩,
 ⟨(some 6), .len .str (.tmp 5), none, false⟩,
 ⟨(some 7), .bin .gtr .other true (.tmp 6) (.av (.int .i64 0)), none, false⟩] false)
 (.cond (.tmp 7)
 (.skip)
 (.exit 0)))
 (.block 1
 (.seq (.seq (.region [⟨(some 8), .move (.tmp 1), none, false⟩,
 ⟨(some 9), .move (.tmp 0), none, false⟩,
 ⟨(some 10), .move (.tmp 0), none, false⟩,
 ⟨(some 11), .len .str (.tmp 10), none, false⟩,
 ⟨(some 12), .bin .sub .other true (.tmp 11) (.av (.int .i64 1)), none, false⟩,
 ⟨(some 13), .indexStr (.tmp 9) (.tmp 12), none, false⟩,
 ⟨(some 14), .call (.av (.fn (.func 126) [] [])) [(.tmp 8), (.tmp 13)], none, false⟩,
 ⟨(some 15), .un .not false (.tmp 14), none, false⟩] false)
 (.cond (.tmp 15)
 (.exit 0)
 (.skip)))
 (.region [⟨(some 16), .move (.tmp 0), none, false⟩,
 ⟨(some 17), .move (.tmp 0), none, false⟩,
 ⟨(some 18), .len .str (.tmp 17), none, false⟩,
 ⟨(some 19), .bin .sub .other true (.tmp 18) (.av (.int .i64 1)), none, false⟩,
 ⟨(some 20), .slice .str (.tmp 16) none (some (.tmp 19)), none, false⟩,
 ⟨(some 0), .move (.tmp 20), none, false⟩] false))))))
 (.seq (.region [⟨(some 21), .move (.tmp 0), none, false⟩,
 ⟨(some 4), .move (.tmp 21), none, false⟩] false)
 (.ret)))⟩
/-- inkstand/inkstandref03.White -/
def ac111 : AF := ⟨25, [.tmp 2],
 .seq (.region [⟨(some 2), .move (.av (.bool false)), none, false⟩] false)
 (.seq (.region [⟨(some 3), .move (.tmp 0), none, false⟩,
 ⟨(some 4), .bin .eql .other false (.tmp 3) (.av (.int .u8 0)), none, false⟩,
 ⟨(some 5), .move (.tmp 4), none, false⟩,
 ⟨(some 6), .move (.tmp 0), (some (5, false)), false⟩,
 ⟨(some 7), .bin .eql .other false (.tmp 6) (.av (.int .u8 9)), (some (5, false)), false⟩,
 ⟨(some 8), .pick (.tmp 5) (.av (.bool true)) (.tmp 7), none, false⟩,
 ⟨(some 9), .move (.tmp 8), none, false⟩,
 ⟨(some 10), .move (.tmp 0), (some (9, false)), false⟩,
 ⟨(some 11), .bin .eql .other false (.tmp 10) (.av (.int .u8 10)), (some (9, false)), false⟩,
 ⟨(some 12), .pick (.tmp 9) (.av (.bool true)) (.tmp 11), none, false⟩,
 ⟨(some 13), .move (.tmp 12), none, false⟩,
 ⟨(some 14), .move (.tmp 0), (some (13, false)), false⟩,
 ⟨(some 15), .bin .eql .other false (.tmp 14) (.av (.int .u8 12)), (some (13, false)), false⟩,
 ⟨(some 16), .pick (.tmp 13) (.av (.bool true)) (.tmp 15), none, false⟩,
 ⟨(some 17), .move (.tmp 16), none, false⟩,
 ⟨(some 18), .move (.tmp 0), (some (17, false)), false⟩,
 ⟨(some 19), .bin .eql .other false (.tmp 18) (.av (.int .u8 13)), (some (17, false)), false⟩,
 ⟨(some 20), .pick (.tmp 17) (.av (.bool true)) (.tmp 19), none, false⟩,
 ⟨(some 21), .move (.tmp 20), none, false⟩,
 ⟨(some 22), .move (.tmp 0), (some (21, false)), false⟩,
 ⟨(some 23), .bin .eql .other false (.tmp 22) (.av (.int .u8 32)), (some (21, false)), false⟩,
 ⟨(some 24), .pick (.tmp 21) (.av (.bool true)) (.tmp 23), none, false⟩,
 ⟨(some 2), .move (.tmp 24), none, false⟩] false)
 (.ret))⟩
/-- inkstand/inkstandref03.Delim -/
def ac112 : AF := ⟨16, [.tmp 2],
 .seq (.region [⟨(some 2), .move (.av (.bool false)), none, false⟩] false)
 (.seq (.region [⟨(some 3), .move (.av (.str [40, 41, 60, 62, 91, 93, 123, 125, 47, 37])), none, false⟩] false)
 (.seq (.seq (.region [⟨(some 4), .move (.av (.int .i64 0)), none, false⟩] false)
 (.block 0
 (.loop
 (.seq (.seq (.region [⟨(some 5), .move (.tmp 4), none, false⟩,
 ⟨(some 6), .move (.tmp 3), none, false⟩,
 ⟨(some 7), .len .str (.tmp 6), none, false⟩,
 ⟨(some 8), .bin .lss .other true (.tmp 5) (.tmp 7), none, false⟩] false)
 (.cond (.tmp 8)
 (.skip)
 (.exit 0)))
 (.seq (.block 1
 (.seq (.region [⟨(some 11), .move (.tmp 3), none, false⟩,
 ⟨(some 12), .move (.tmp 4), none, false⟩,
 ⟨(some 13), .indexStr (.tmp 11) (.tmp 12), none, false⟩,
 ⟨(some 14), .move (.tmp 0), none, false⟩,
 ⟨(some 15), .bin .eql .other false (.tmp 13) (.tmp 14), none, false⟩] false)
 (.cond (.tmp 15)
 (.seq (.region [⟨(some 2), .move (.av (.bool true)), none, false⟩] false)
 (.ret))
 (.skip))))
 (.region [⟨(some 9), .move (.tmp 4), none, false⟩,
 ⟨(some 10), .bin .add .other true (.tmp 9) (.av (.int .i64 1)), none, false⟩,
 ⟨(some 4), .move (.tmp 10), none, false⟩] false))))))
 (.seq (.region [⟨(some 2), .move (.av (.bool false)), none, false⟩] false)
 (.ret))))⟩
/-- inkstand/lex.Space -/
def ac117 : AF := ⟨27, [.tmp 4],
 .seq (.region [⟨(some 4), .move (.av (.int .i64 0)), none, false⟩] false)
 (.seq (.region [⟨(some 5), .move (.tmp 1), none, false⟩,
 ⟨(some 6), .minmax true [(.tmp 5), (.av (.int .i64 0))], none, false⟩,
 ⟨(some 7), .move (.tmp 0), none, false⟩,
 ⟨(some 8), .len .str (.tmp 7), none, false⟩,
 ⟨(some 9), .minmax false [(.tmp 6), (.tmp 8)], none, false⟩,
 ⟨(some 1), .move (.tmp 9), none, false⟩] false)
 (.block 0
 (.loop
 (.block 1
 (.seq (.region [⟨(some 10), .move (.tmp 0), none, false⟩,
 ⟨(some 11), .move (.tmp 1), none, false⟩,
 ⟨(some 12), .call (.av (.fn (.func 134) [] [])) [(.tmp 10), (.tmp 11), (.av (.fn (.func 98) [] []))], none, false⟩,
 ⟨(some 1), .move (.tmp 12), none, false⟩] false)
 (.seq (.seq (.region [⟨(some 13), .move (.tmp 1), none, false⟩,
 ⟨(some 14), .move (.tmp 0), none, false⟩,
 ⟨(some 15), .len .str (.tmp 14), none, false⟩,
 ⟨(some 16), .bin .eql .other true (.tmp 13) (.tmp 15), none, false⟩,
 ⟨(some 17), .move (.tmp 16), none, false⟩,
 ⟨(some 18), .move (.tmp 0), (some (17, false)), false⟩,
 ⟨(some 19), .move (.tmp 1), (some (17, false)), false⟩,
 ⟨(some 20), .indexStr (.tmp 18) (.tmp 19), (some (17, false)), false⟩,
 ⟨(some 21), .bin .neq .other false (.tmp 20) (.av (.int .u8 37)), (some (17, false)), false⟩,
 ⟨(some 22), .pick (.tmp 17) (.av (.bool true)) (.tmp 21), none, false⟩] false)
 (.cond (.tmp 22)
 (.seq (.region [⟨(some 23), .move (.tmp 1), none, false⟩,
 ⟨(some 4), .move (.tmp 23), none, false⟩] false)
 (.ret))
 (.skip)))
 (.region [⟨(some 24), .move (.tmp 0), none, false⟩,
 ⟨(some 25), .move (.tmp 1), none, false⟩,
 ⟨(some 26), .call (.av (.fn (.func 134) [] [])) [(.tmp 24), (.tmp 25), (.av (.fn (.func 135) [] []))], none, false⟩,
 ⟨(some 1), .move (.tmp 26), none, false⟩] false)))))))⟩
/-- inkstand/lex.token -/
def ac118 : AF := ⟨71, [.cell 4 (some 6), .tmp 5],
 .seq (.region [⟨(some 3), .box 93 (.tmp 1), none, false⟩,
 ⟨(some 4), .alloc 93 [(.int .i64 0), (.int .i64 0), (.str []), (.bool false), (.int .i64 0), (.int .i64 0)], none, false⟩,
 ⟨(some 5), .move (.av (.int .i64 0)), none, false⟩] false)
 (.seq (.region [⟨(some 10), .move (.tmp 0), none, false⟩,
 ⟨(some 11), .fieldAddr 4 (.tmp 3), none, false⟩,
 ⟨(some 12), .load none (.tmp 11), none, false⟩,
 ⟨(some 13), .slice .str (.tmp 10) (some (.tmp 12)) none, none, false⟩,
 ⟨(some 6), .move (.tmp 13), none, false⟩] false)
 (.seq (.seq (.region [⟨(some 14), .build (List.replicate 8 (.str [])) [(4, 1, (.av (.str [91]))), (5, 1, (.av (.str [93]))), (6, 1, (.av (.str [60, 60]))), (7, 1, (.av (.str [62, 62])))], none, false⟩,
 ⟨(some 15), .move (.av (.int .i64 0)), none, false⟩] false)
 (.block 0
 (.loop
 (.seq (.region [⟨(some 16), .bin .lss .other true (.tmp 15) (.av (.int .i64 8)), none, false⟩] false)
 (.seq (.cond (.tmp 16)
 (.skip)
 (.exit 0))
 (.seq (.block 1
 (.seq (.region [⟨(some 17), .move (.tmp 15), none, false⟩,
 ⟨(some 18), .indexArr 8 1 false (.tmp 14) (.tmp 15), none, false⟩,
 ⟨(some 7), .move (.tmp 17), none, false⟩,
 ⟨(some 8), .move (.tmp 18), none, false⟩] false)
 (.seq (.region [⟨(some 19), .move (.tmp 8), none, false⟩,
 ⟨(some 20), .bin .neq .other false (.tmp 19) (.av (.str [])), none, false⟩,
 ⟨(some 21), .move (.tmp 20), none, false⟩,
 ⟨(some 22), .move (.tmp 6), (some (21, true)), false⟩,
 ⟨(some 23), .move (.tmp 8), (some (21, true)), false⟩,
 ⟨(some 24), .call (.av (.fn (.func 103) [] [])) [(.tmp 22), (.tmp 23)], (some (21, true)), false⟩,
 ⟨(some 25), .pick (.tmp 21) (.tmp 24) (.av (.bool false)), none, false⟩] false)
 (.cond (.tmp 25)
 (.seq (.region [⟨(some 26), .move (.tmp 7), none, false⟩,
 ⟨(some 27), .fieldAddr 4 (.tmp 3), none, false⟩,
 ⟨(some 28), .load none (.tmp 27), none, false⟩,
 ⟨(some 29), .move (.tmp 8), none, false⟩,
 ⟨(some 30), .len .str (.tmp 29), none, false⟩,
 ⟨(some 31), .bin .add .other true (.tmp 28) (.tmp 30), none, false⟩,
 ⟨(some 32), .fieldAddr 0 (.tmp 3), none, false⟩,
 ⟨none, .store 1 (.tmp 32) (.tmp 26), none, false⟩,
 ⟨(some 33), .fieldAddr 5 (.tmp 3), none, false⟩,
 ⟨none, .store 1 (.tmp 33) (.tmp 31), none, false⟩] false)
 (.seq (.region [⟨(some 34), .load (some 6) (.tmp 3), none, false⟩,
 ⟨none, .store 6 (.tmp 4) (.tmp 34), none, false⟩,
 ⟨(some 5), .move (.av (.int .i64 0)), none, false⟩] false)
 (.ret)))
 (.skip)))))
 (.region [⟨(some 35), .bin .add .other true (.tmp 15) (.av (.int .i64 1)), none, false⟩,
 ⟨(some 15), .move (.tmp 35), none, false⟩] false)))))))
 (.seq (.seq (.region [⟨(some 36), .move (.tmp 6), none, false⟩,
 ⟨(some 37), .indexStr (.tmp 36) (.av (.int .i64 0)), none, false⟩,
 ⟨(some 9), .move (.tmp 37), none, false⟩] false)
 (.block 2
 (.seq (.region [⟨(some 39), .move (.tmp 9), none, false⟩,
 ⟨(some 40), .bin .eql .other false (.tmp 39) (.av (.int .u8 47)), none, false⟩,
 ⟨(some 38), .move (.tmp 40), none, false⟩] false)
 (.cond (.tmp 38)
 (.seq (.region [⟨(some 41), .move (.tmp 0), none, false⟩,
 ⟨(some 42), .load (some 6) (.tmp 3), none, false⟩,
 ⟨(some 43), .call (.av (.fn (.func 136) [] [])) [(.tmp 41), (.tmp 42)], none, false⟩,
 ⟨(some 44), .extract (.tmp 43) 0, none, false⟩,
 ⟨(some 45), .extract (.tmp 43) 1, none, false⟩,
 ⟨none, .store 6 (.tmp 4) (.tmp 44), none, false⟩,
 ⟨(some 5), .move (.tmp 45), none, false⟩] false)
 (.ret))
 (.seq (.region [⟨(some 47), .move (.tmp 9), none, false⟩,
 ⟨(some 48), .bin .eql .other false (.tmp 47) (.av (.int .u8 40)), none, false⟩,
 ⟨(some 46), .move (.tmp 48), none, false⟩] false)
 (.cond (.tmp 46)
 (.seq (.region [⟨(some 49), .move (.tmp 0), none, false⟩,
 ⟨(some 50), .load (some 6) (.tmp 3), none, false⟩,
 ⟨(some 51), .call (.av (.fn (.func 137) [] [])) [(.tmp 49), (.tmp 50)], none, false⟩,
 ⟨(some 52), .extract (.tmp 51) 0, none, false⟩,
 ⟨(some 53), .extract (.tmp 51) 1, none, false⟩,
 ⟨none, .store 6 (.tmp 4) (.tmp 52), none, false⟩,
 ⟨(some 5), .move (.tmp 53), none, false⟩] false)
 (.ret))
 (.seq (.region [⟨(some 55), .move (.tmp 9), none, false⟩,
 ⟨(some 56), .bin .eql .other false (.tmp 55) (.av (.int .u8 60)), none, false⟩,
 ⟨(some 54), .move (.tmp 56), none, false⟩] false)
 (.cond (.tmp 54)
 (.seq (.region [⟨(some 57), .move (.tmp 0), none, false⟩,
 ⟨(some 58), .load (some 6) (.tmp 3), none, false⟩,
 ⟨(some 59), .call (.av (.fn (.func 138) [] [])) [(.tmp 57), (.tmp 58)], none, false⟩,
 ⟨(some 60), .extract (.tmp 59) 0, none, false⟩,
 ⟨(some 61), .extract (.tmp 59) 1, none, false⟩,
 ⟨none, .store 6 (.tmp 4) (.tmp 60), none, false⟩,
 ⟨(some 5), .move (.tmp 61), none, false⟩] false)
 (.ret))
 (.seq (.region [⟨(some 63), .move (.tmp 9), none, false⟩,
 ⟨(some 64), .call (.av (.fn (.func 99) [] [])) [(.tmp 63)], none, false⟩,
 ⟨(some 62), .move (.tmp 64), none, false⟩] false)
 (.cond (.tmp 62)
 (.seq (.region [⟨(some 65), .build [(.int .i64 0), (.int .i64 0), (.str []), (.bool false), (.int .i64 0), (.int .i64 0)] [], none, false⟩,
 ⟨none, .store 6 (.tmp 4) (.tmp 65), none, false⟩,
 ⟨(some 5), .move (.av (.int .i64 3)), none, false⟩] false)
 (.ret))
 (.skip)))))))))))
 (.seq (.region [⟨(some 66), .move (.tmp 0), none, false⟩,
 ⟨(some 67), .load (some 6) (.tmp 3), none, false⟩,
 ⟨(some 68), .call (.av (.fn (.func 139) [] [])) [(.tmp 66), (.tmp 67)], none, false⟩,
 ⟨(some 69), .extract (.tmp 68) 0, none, false⟩,
 ⟨(some 70), .extract (.tmp 68) 1, none, false⟩,
 ⟨none, .store 6 (.tmp 4) (.tmp 69), none, false⟩,
 ⟨(some 5), .move (.tmp 70), none, false⟩] false)
 (.ret)))))⟩
/-- inkstand/cos.whole -/
def ac119 : AF := ⟨15, [.tmp 2],
 .seq (.region [⟨(some 1), .box 93 (.tmp 0), none, false⟩,
 ⟨(some 2), .move (.av (.bool false)), none, false⟩] false)
 (.seq (.region [⟨(some 3), .fieldAddr 0 (.tmp 1), none, false⟩,
 ⟨(some 4), .load none (.tmp 3), none, false⟩,
 ⟨(some 5), .bin .eql .other true (.tmp 4) (.av (.int .i64 1)), none, false⟩,
 ⟨(some 6), .move (.tmp 5), none, false⟩,
 ⟨(some 7), .fieldAddr 3 (.tmp 1), (some (6, true)), false⟩,
 ⟨(some 8), .load none (.tmp 7), (some (6, true)), false⟩,
 ⟨(some 9), .pick (.tmp 6) (.tmp 8) (.av (.bool false)), none, false⟩,
 ⟨(some 10), .move (.tmp 9), none, false⟩,
 ⟨(some 11), .fieldAddr 1 (.tmp 1), (some (10, true)), false⟩,
 ⟨(some 12), .load none (.tmp 11), (some (10, true)), false⟩,
 ⟨(some 13), .bin .geq .other true (.tmp 12) (.av (.int .i64 0)), (some (10, true)), false⟩,
 ⟨(some 14), .pick (.tmp 10) (.tmp 13) (.av (.bool false)), none, false⟩,
 ⟨(some 2), .move (.tmp 14), none, false⟩] false)
 (.ret))⟩
/-- internal/stringslite.HasPrefix -/
def ac121 : AF := ⟨18, [.tmp 4],
 .seq (.region [⟨(some 4), .move (.av (.bool false)), none, false⟩] false)
 (.seq (.region [⟨(some 5), .move (.tmp 0), none, false⟩,
 ⟨(some 6), .len .str (.tmp 5), none, false⟩,
 ⟨(some 7), .move (.tmp 1), none, false⟩,
 ⟨(some 8), .len .str (.tmp 7), none, false⟩,
 ⟨(some 9), .bin .geq .other true (.tmp 6) (.tmp 8), none, false⟩,
 ⟨(some 10), .move (.tmp 9), none, false⟩,
 ⟨(some 11), .move (.tmp 0), (some (10, true)), false⟩,
 ⟨(some 12), .move (.tmp 1), (some (10, true)), false⟩,
 ⟨(some 13), .len .str (.tmp 12), (some (10, true)), false⟩,
 ⟨(some 14), .slice .str (.tmp 11) none (some (.tmp 13)), (some (10, true)), false⟩,
 ⟨(some 15), .move (.tmp 1), (some (10, true)), false⟩,
 ⟨(some 16), .bin .eql .other false (.tmp 14) (.tmp 15), (some (10, true)), false⟩,
 ⟨(some 17), .pick (.tmp 10) (.tmp 16) (.av (.bool false)), none, false⟩,
 ⟨(some 4), .move (.tmp 17), none, false⟩] false)
 (.ret))⟩
/-- (*strings.asciiSet).contains -/
def ac126 : AF := ⟨10, [.tmp 4],
 .seq (.region [⟨(some 4), .move (.av (.bool false)), none, false⟩] false)
 (.seq (.region [⟨(some 5), .move (.tmp 0), none, false⟩,
 ⟨(some 6), .move (.tmp 1), none, false⟩,
 ⟨(some 7), .nilCheck (.tmp 5), none, false⟩,
 ⟨(some 8), .indexAddr (some 256) 1 (.tmp 7) (.tmp 6), none, false⟩,
 ⟨(some 9), .load none (.tmp 8), none, false⟩,
 ⟨(some 4), .move (.tmp 9), none, false⟩] false)
 (.ret))⟩
/-- inkstand/lex.while -/
def ac134 : AF := ⟨21, [.tmp 6],
 .seq (.region [⟨(some 6), .move (.av (.int .i64 0)), none, false⟩] false)
 (.seq (.block 0
 (.loop
 (.seq (.seq (.region [⟨(some 7), .move (.tmp 1), none, false⟩,
 ⟨(some 8), .move (.tmp 0), none, false⟩,
 ⟨(some 9), .len .str (.tmp 8), none, false⟩,
 ⟨(some 10), .bin .lss .other true (.tmp 7) (.tmp 9), none, false⟩,
 ⟨(some 11), .move (.tmp 10), none, false⟩,
 ⟨(some 12), .move (.tmp 2), (some (11, true)), false⟩,
 ⟨(some 13), .move (.tmp 0), (some (11, true)), false⟩,
 ⟨(some 14), .move (.tmp 1), (some (11, true)), false⟩,
 ⟨(some 15), .indexStr (.tmp 13) (.tmp 14), (some (11, true)), false⟩,
 ⟨(some 16), .call (.tmp 12) [(.tmp 15)], (some (11, true)), false⟩,
 ⟨(some 17), .pick (.tmp 11) (.tmp 16) (.av (.bool false)), none, false⟩] false)
 (.cond (.tmp 17)
 (.skip)
 (.exit 0)))
 (.block 1
 (.region [⟨(some 18), .move (.tmp 1), none, false⟩,
 ⟨(some 19), .bin .add .other true (.tmp 18) (.av (.int .i64 1)), none, false⟩,
 ⟨(some 1), .move (.tmp 19), none, false⟩] false)))))
 (.seq (.region [⟨(some 20), .move (.tmp 1), none, false⟩,
 ⟨(some 6), .move (.tmp 20), none, false⟩] false)
 (.ret)))⟩
/-- inkstand/lex.Space$1 -/
def ac135 : AF := ⟨9, [.tmp 2],
 .seq (.region [⟨(some 2), .move (.av (.bool false)), none, false⟩] false)
 (.seq (.region [⟨(some 3), .move (.tmp 0), none, false⟩,
 ⟨(some 4), .bin .neq .other false (.tmp 3) (.av (.int .u8 10)), none, false⟩,
 ⟨(some 5), .move (.tmp 4), none, false⟩,
 ⟨(some 6), .move (.tmp 0), (some (5, true)), false⟩,
 ⟨(some 7), .bin .neq .other false (.tmp 6) (.av (.int .u8 13)), (some (5, true)), false⟩,
 ⟨(some 8), .pick (.tmp 5) (.tmp 7) (.av (.bool false)), none, false⟩,
 ⟨(some 2), .move (.tmp 8), none, false⟩] false)
 (.ret))⟩
/-- inkstand/lex.name -/
def ac136 : AF := ⟨28, [.cell 4 (some 6), .tmp 5],
 .seq (.region [⟨(some 3), .box 93 (.tmp 1), none, false⟩,
 ⟨(some 4), .alloc 93 [(.int .i64 0), (.int .i64 0), (.str []), (.bool false), (.int .i64 0), (.int .i64 0)], none, false⟩,
 ⟨(some 5), .move (.av (.int .i64 0)), none, false⟩] false)
 (.seq (.region [⟨(some 7), .move (.tmp 0), none, false⟩,
 ⟨(some 8), .fieldAddr 4 (.tmp 3), none, false⟩,
 ⟨(some 9), .load none (.tmp 8), none, false⟩,
 ⟨(some 10), .bin .add .other true (.tmp 9) (.av (.int .i64 1)), none, false⟩,
 ⟨(some 11), .call (.av (.fn (.func 134) [] [])) [(.tmp 7), (.tmp 10), (.av (.fn (.func 77) [] []))], none, false⟩,
 ⟨(some 12), .fieldAddr 0 (.tmp 3), none, false⟩,
 ⟨none, .store 1 (.tmp 12) (.av (.int .i64 2)), none, false⟩,
 ⟨(some 13), .fieldAddr 5 (.tmp 3), none, false⟩,
 ⟨none, .store 1 (.tmp 13) (.tmp 11), none, false⟩] false)
 (.seq (.region [⟨(some 6), .move (.av (.int .i64 0)), none, false⟩] false)
 (.seq (.region [⟨(some 15), .move (.tmp 0), none, false⟩,
 ⟨(some 16), .fieldAddr 4 (.tmp 3), none, false⟩,
 ⟨(some 17), .load none (.tmp 16), none, false⟩,
 ⟨(some 18), .bin .add .other true (.tmp 17) (.av (.int .i64 1)), none, false⟩,
 ⟨(some 19), .fieldAddr 5 (.tmp 3), none, false⟩,
 ⟨(some 20), .load none (.tmp 19), none, false⟩,
 ⟨(some 21), .slice .str (.tmp 15) (some (.tmp 18)) (some (.tmp 20)), none, false⟩,
 ⟨(some 22), .call (.av (.fn (.func 146) [] [])) [(.tmp 21)], none, false⟩,
 ⟨(some 14), .move (.tmp 22), none, false⟩,
 ⟨(some 23), .extract (.tmp 14) 0, none, false⟩,
 ⟨(some 24), .extract (.tmp 14) 1, none, false⟩,
 ⟨(some 25), .fieldAddr 2 (.tmp 3), none, false⟩,
 ⟨none, .store 1 (.tmp 25) (.tmp 23), none, false⟩,
 ⟨(some 6), .move (.tmp 24), none, false⟩] false)
 (.seq (.region [⟨(some 26), .load (some 6) (.tmp 3), none, false⟩,
 ⟨(some 27), .move (.tmp 6), none, false⟩,
 ⟨none, .store 6 (.tmp 4) (.tmp 26), none, false⟩,
 ⟨(some 5), .move (.tmp 27), none, false⟩] false)
 (.ret)))))⟩
/-- inkstand/lex.text -/
def ac137 : AF := ⟨68, [.cell 4 (some 6), .tmp 5],
 .seq (.region [⟨(some 3), .box 93 (.tmp 1), none, false⟩,
 ⟨(some 4), .alloc 93 [(.int .i64 0), (.int .i64 0), (.str []), (.bool false), (.int .i64 0), (.int .i64 0)], none, false⟩,
 ⟨(some 5), .move (.av (.int .i64 0)), none, false⟩] false)
 (.seq (.region [⟨(some 6), .bld 59 5, none, false⟩] false)
 (.seq (.region [⟨(some 7), .move (.av (.int .i64 0)), none, false⟩] false)
 (.seq (.seq (.region [⟨(some 10), .fieldAddr 4 (.tmp 3), none, false⟩,
 ⟨(some 11), .load none (.tmp 10), none, false⟩,
 ⟨(some 12), .bin .add .other true (.tmp 11) (.av (.int .i64 1)), none, false⟩,
 ⟨(some 8), .move (.tmp 12), none, false⟩] false)
 (.block 0
 (.loop
 (.seq (.seq (.region [⟨(some 13), .move (.tmp 8), none, false⟩,
 ⟨(some 14), .move (.tmp 0), none, false⟩,
 ⟨(some 15), .len .str (.tmp 14), none, false⟩,
 ⟨(some 16), .bin .lss .other true (.tmp 13) (.tmp 15), none, false⟩] false)
 (.cond (.tmp 16)
 (.skip)
 (.exit 0)))
 (.seq (.block 1
 (.seq (.seq (.region [⟨(some 19), .move (.tmp 0), none, false⟩,
 ⟨(some 20), .move (.tmp 8), none, false⟩,
 ⟨(some 21), .indexStr (.tmp 19) (.tmp 20), none, false⟩,
 ⟨(some 9), .move (.tmp 21), none, false⟩] false)
 (.seq (.region [⟨(some 22), .move (.tmp 9), none, false⟩] false)
 (.block 2
 (.seq (.region [⟨(some 24), .bin .eql .other false (.tmp 22) (.av (.int .u8 92)), none, false⟩,
 ⟨(some 23), .move (.tmp 24), none, false⟩] false)
 (.cond (.tmp 23)
 (.seq (.seq (.region [⟨(some 25), .move (.tmp 8), none, false⟩,
 ⟨(some 26), .bin .add .other true (.tmp 25) (.av (.int .i64 1)), none, false⟩,
 ⟨(some 27), .move (.tmp 0), none, false⟩,
 ⟨(some 28), .len .str (.tmp 27), none, false⟩,
 ⟨(some 29), .bin .eql .other true (.tmp 26) (.tmp 28), none, false⟩] false)
 (.cond (.tmp 29)
 (.seq (.region [⟨(some 30), .build [(.int .i64 0), (.int .i64 0), (.str []), (.bool false), (.int .i64 0), (.int .i64 0)] [], none, false⟩,
 ⟨none, .store 6 (.tmp 4) (.tmp 30), none, false⟩,
 ⟨(some 5), .move (.av (.int .i64 4)), none, false⟩] false)
 (.ret))
 (.skip)))
 (.seq (.region [⟨(some 31), .move (.tmp 8), none, false⟩,
 ⟨(some 32), .move (.tmp 0), none, false⟩,
 ⟨(some 33), .move (.tmp 8), none, false⟩,
 ⟨(some 34), .bin .add .other true (.tmp 33) (.av (.int .i64 1)), none, false⟩,
 ⟨(some 35), .slice .str (.tmp 32) (some (.tmp 34)) none, none, false⟩,
 ⟨(some 36), .call (.av (.fn (.func 147) [] [])) [(.tmp 6), (.tmp 35)], none, false⟩,
 ⟨(some 37), .bin .add .other true (.tmp 31) (.tmp 36), none, false⟩,
 ⟨(some 8), .move (.tmp 37), none, false⟩] false)
 (.exit 1)))
 (.seq (.region [⟨(some 39), .bin .eql .other false (.tmp 22) (.av (.int .u8 40)), none, false⟩,
 ⟨(some 38), .move (.tmp 39), none, false⟩] false)
 (.cond (.tmp 38)
 (.region [⟨(some 40), .move (.tmp 7), none, false⟩,
 ⟨(some 41), .bin .add .other true (.tmp 40) (.av (.int .i64 1)), none, false⟩,
 ⟨(some 7), .move (.tmp 41), none, false⟩] false)
 (.seq (.region [⟨(some 43), .bin .eql .other false (.tmp 22) (.av (.int .u8 41)), none, false⟩,
 ⟨(some 42), .move (.tmp 43), none, false⟩] false)
 (.cond (.tmp 42)
 (.seq (.seq (.region [⟨(some 44), .move (.tmp 7), none, false⟩,
 ⟨(some 45), .bin .eql .other true (.tmp 44) (.av (.int .i64 0)), none, false⟩] false)
 (.cond (.tmp 45)
 (.seq (.region [⟨(some 46), .call (.av (.fn (.func 34) [] [])) [(.tmp 6)], none, false⟩,
 ⟨(some 47), .move (.tmp 8), none, false⟩,
 ⟨(some 48), .bin .add .other true (.tmp 47) (.av (.int .i64 1)), none, false⟩,
 ⟨(some 49), .fieldAddr 0 (.tmp 3), none, false⟩,
 ⟨none, .store 1 (.tmp 49) (.av (.int .i64 3)), none, false⟩,
 ⟨(some 50), .fieldAddr 2 (.tmp 3), none, false⟩,
 ⟨none, .store 1 (.tmp 50) (.tmp 46), none, false⟩,
 ⟨(some 51), .fieldAddr 5 (.tmp 3), none, false⟩,
 ⟨none, .store 1 (.tmp 51) (.tmp 48), none, false⟩] false)
 (.seq (.region [⟨(some 52), .load (some 6) (.tmp 3), none, false⟩,
 ⟨none, .store 6 (.tmp 4) (.tmp 52), none, false⟩,
 ⟨(some 5), .move (.av (.int .i64 0)), none, false⟩] false)
 (.ret)))
 (.skip)))
 (.region [⟨(some 53), .move (.tmp 7), none, false⟩,
 ⟨(some 54), .bin .sub .other true (.tmp 53) (.av (.int .i64 1)), none, false⟩,
 ⟨(some 7), .move (.tmp 54), none, false⟩] false))
 (.seq (.region [⟨(some 56), .bin .eql .other false (.tmp 22) (.av (.int .u8 13)), none, false⟩,
 ⟨(some 55), .move (.tmp 56), none, false⟩] false)
 (.cond (.tmp 55)
 (.seq (.seq (.region [⟨(some 57), .move (.tmp 0), none, false⟩,
 ⟨(some 58), .move (.tmp 8), none, false⟩,
 ⟨(some 59), .slice .str (.tmp 57) (some (.tmp 58)) none, none, false⟩,
 ⟨(some 60), .call (.av (.fn (.func 103) [] [])) [(.tmp 59), (.av (.str [13, 10]))], none, false⟩,
 ⟨(some 61), .un .not false (.tmp 60), none, false⟩] false)
 (.cond (.tmp 61)
 (.region [⟨(some 62), .call (.av (.fn (.func 56) [] [])) [(.tmp 6), (.av (.int .u8 10))], none, false⟩] false)
 (.skip)))
 (.exit 1))
 (.skip))))))))))))
 (.region [⟨(some 63), .move (.tmp 0), none, false⟩,
 ⟨(some 64), .move (.tmp 8), none, false⟩,
 ⟨(some 65), .indexStr (.tmp 63) (.tmp 64), none, false⟩,
 ⟨(some 66), .call (.av (.fn (.func 56) [] [])) [(.tmp 6), (.tmp 65)], none, false⟩] false)))
 (.region [⟨(some 17), .move (.tmp 8), none, false⟩,
 ⟨(some 18), .bin .add .other true (.tmp 17) (.av (.int .i64 1)), none, false⟩,
 ⟨(some 8), .move (.tmp 18), none, false⟩] false))))))
 (.seq (.region [⟨(some 67), .build [(.int .i64 0), (.int .i64 0), (.str []), (.bool false), (.int .i64 0), (.int .i64 0)] [], none, false⟩,
 ⟨none, .store 6 (.tmp 4) (.tmp 67), none, false⟩,
 ⟨(some 5), .move (.av (.int .i64 4)), none, false⟩] false)
 (.ret)))))⟩
/-- inkstand/lex.digits -/
def ac138 : AF := ⟨77, [.cell 4 (some 6), .tmp 5],
 .seq (.region [⟨(some 3), .box 93 (.tmp 1), none, false⟩,
 ⟨(some 4), .alloc 93 [(.int .i64 0), (.int .i64 0), (.str []), (.bool false), (.int .i64 0), (.int .i64 0)], none, false⟩,
 ⟨(some 5), .move (.av (.int .i64 0)), none, false⟩] false)
 (.seq (.region [⟨(some 6), .move (.av (.lit (.slice none 0 0))), none, false⟩] false)
 (.seq (.seq (.region [⟨(some 11), .fieldAddr 4 (.tmp 3), none, false⟩,
 ⟨(some 12), .load none (.tmp 11), none, false⟩,
 ⟨(some 13), .bin .add .other true (.tmp 12) (.av (.int .i64 1)), none, false⟩,
 ⟨(some 7), .move (.tmp 13), none, false⟩] false)
 (.block 0
 (.loop
 (.seq (.seq (.region [⟨(some 14), .move (.tmp 7), none, false⟩,
 ⟨(some 15), .move (.tmp 0), none, false⟩,
 ⟨(some 16), .len .str (.tmp 15), none, false⟩,
 ⟨(some 17), .bin .lss .other true (.tmp 14) (.tmp 16), none, false⟩] false)
 (.cond (.tmp 17)
 (.skip)
 (.exit 0)))
 (.seq (.block 1
 (.seq (.region [⟨(some 21), .move (.tmp 0), none, false⟩,
 ⟨(some 22), .move (.tmp 7), none, false⟩,
 ⟨(some 23), .indexStr (.tmp 21) (.tmp 22), none, false⟩,
 ⟨(some 24), .call (.av (.fn (.func 148) [] [])) [(.tmp 23)], none, false⟩,
 ⟨(some 20), .move (.tmp 24), none, false⟩,
 ⟨(some 25), .extract (.tmp 20) 0, none, false⟩,
 ⟨(some 26), .extract (.tmp 20) 1, none, false⟩,
 ⟨(some 8), .move (.tmp 25), none, false⟩,
 ⟨(some 9), .move (.tmp 26), none, false⟩] false)
 (.block 2
 (.seq (.region [⟨(some 28), .move (.tmp 9), none, false⟩,
 ⟨(some 27), .move (.tmp 28), none, false⟩] false)
 (.cond (.tmp 27)
 (.region [⟨(some 29), .move (.tmp 6), none, false⟩,
 ⟨(some 30), .move (.tmp 8), none, false⟩,
 ⟨(some 31), .buildSlice false 5 1 1 [(.int .u8 0)] [(0, (.tmp 30))], none, false⟩,
 ⟨(some 32), .append 5 1 1 [(.int .u8 0)] (.tmp 29) (.tmp 31), none, false⟩,
 ⟨(some 6), .move (.tmp 32), none, false⟩] false)
 (.seq (.region [⟨(some 34), .move (.tmp 0), none, false⟩,
 ⟨(some 35), .move (.tmp 7), none, false⟩,
 ⟨(some 36), .indexStr (.tmp 34) (.tmp 35), none, false⟩,
 ⟨(some 37), .bin .eql .other false (.tmp 36) (.av (.int .u8 62)), none, false⟩,
 ⟨(some 33), .move (.tmp 37), none, false⟩] false)
 (.cond (.tmp 33)
 (.seq (.region [⟨(some 38), .move (.tmp 6), none, false⟩,
 ⟨(some 39), .buildSlice false 5 1 1 [(.int .u8 0)] [(0, (.av (.int .u8 0)))], none, false⟩,
 ⟨(some 40), .append 5 1 1 [(.int .u8 0)] (.tmp 38) (.tmp 39), none, false⟩,
 ⟨(some 6), .move (.tmp 40), none, false⟩] false)
 (.seq (.region [⟨(some 41), .move (.tmp 7), none, false⟩,
 ⟨(some 42), .bin .add .other true (.tmp 41) (.av (.int .i64 1)), none, false⟩,
 ⟨(some 43), .fieldAddr 0 (.tmp 3), none, false⟩,
 ⟨none, .store 1 (.tmp 43) (.av (.int .i64 3)), none, false⟩,
 ⟨(some 44), .fieldAddr 5 (.tmp 3), none, false⟩,
 ⟨none, .store 1 (.tmp 44) (.tmp 42), none, false⟩] false)
 (.seq (.seq (.region [⟨(some 10), .move (.av (.int .i64 1)), none, false⟩] false)
 (.block 3
 (.loop
 (.seq (.seq (.region [⟨(some 45), .move (.tmp 10), none, false⟩,
 ⟨(some 46), .move (.tmp 6), none, false⟩,
 ⟨(some 47), .len (.slice 1) (.tmp 46), none, false⟩,
 ⟨(some 48), .bin .lss .other true (.tmp 45) (.tmp 47), none, false⟩] false)
 (.cond (.tmp 48)
 (.skip)
 (.exit 3)))
 (.seq (.block 4
 (.region [⟨(some 51), .fieldAddr 2 (.tmp 3), none, false⟩,
 ⟨(some 52), .load none (.tmp 51), none, false⟩,
 ⟨(some 53), .move (.tmp 6), none, false⟩,
 ⟨(some 54), .move (.tmp 10), none, false⟩,
 ⟨(some 55), .bin .sub .other true (.tmp 54) (.av (.int .i64 1)), none, false⟩,
 ⟨(some 56), .indexAddr none 1 (.tmp 53) (.tmp 55), none, false⟩,
 ⟨(some 57), .load none (.tmp 56), none, false⟩,
 ⟨(some 58), .bin .shl .other false (.tmp 57) (.av (.int .u64 4)), none, false⟩,
 ⟨(some 59), .move (.tmp 6), none, false⟩,
 ⟨(some 60), .move (.tmp 10), none, false⟩,
 ⟨(some 61), .indexAddr none 1 (.tmp 59) (.tmp 60), none, false⟩,
 ⟨(some 62), .load none (.tmp 61), none, false⟩,
 ⟨(some 63), .bin .or .other false (.tmp 58) (.tmp 62), none, false⟩,
 ⟨(some 64), .buildSlice false 5 1 1 [(.int .u8 0)] [(0, (.tmp 63))], none, false⟩,
 ⟨(some 65), .conv .ofBytes (.tmp 64), none, false⟩,
 ⟨(some 66), .bin .add .other false (.tmp 52) (.tmp 65), none, false⟩,
 ⟨(some 67), .fieldAddr 2 (.tmp 3), none, false⟩,
 ⟨none, .store 1 (.tmp 67) (.tmp 66), none, false⟩] true))
 (.region [⟨(some 49), .move (.tmp 10), none, false⟩,
 ⟨(some 50), .bin .add .other true (.tmp 49) (.av (.int .i64 2)), none, false⟩,
 ⟨(some 10), .move (.tmp 50), none, false⟩] false))))))
 (.seq (.region [⟨(some 68), .load (some 6) (.tmp 3), none, false⟩,
 ⟨none, .store 6 (.tmp 4) (.tmp 68), none, false⟩,
 ⟨(some 5), .move (.av (.int .i64 0)), none, false⟩] false)
 (.ret)))))
 (.seq (.region [⟨(some 70), .move (.tmp 0), none, false⟩,
 ⟨(some 71), .move (.tmp 7), none, false⟩,
 ⟨(some 72), .indexStr (.tmp 70) (.tmp 71), none, false⟩,
 ⟨(some 73), .call (.av (.fn (.func 98) [] [])) [(.tmp 72)], none, false⟩,
 ⟨(some 74), .un .not false (.tmp 73), none, false⟩,
 ⟨(some 69), .move (.tmp 74), none, false⟩] false)
 (.cond (.tmp 69)
 (.seq (.region [⟨(some 75), .build [(.int .i64 0), (.int .i64 0), (.str []), (.bool false), (.int .i64 0), (.int .i64 0)] [], none, false⟩,
 ⟨none, .store 6 (.tmp 4) (.tmp 75), none, false⟩,
 ⟨(some 5), .move (.av (.int .i64 3)), none, false⟩] false)
 (.ret))
 (.skip))))))))))
 (.region [⟨(some 18), .move (.tmp 7), none, false⟩,
 ⟨(some 19), .bin .add .other true (.tmp 18) (.av (.int .i64 1)), none, false⟩,
 ⟨(some 7), .move (.tmp 19), none, false⟩] false))))))
 (.seq (.region [⟨(some 76), .build [(.int .i64 0), (.int .i64 0), (.str []), (.bool false), (.int .i64 0), (.int .i64 0)] [], none, false⟩,
 ⟨none, .store 6 (.tmp 4) (.tmp 76), none, false⟩,
 ⟨(some 5), .move (.av (.int .i64 4)), none, false⟩] false)
 (.ret))))⟩
/-- inkstand/lex.word -/
def ac139 : AF := ⟨42, [.cell 4 (some 6), .tmp 5],
 .seq (.region [⟨(some 3), .box 93 (.tmp 1), none, false⟩,
 ⟨(some 4), .alloc 93 [(.int .i64 0), (.int .i64 0), (.str []), (.bool false), (.int .i64 0), (.int .i64 0)], none, false⟩,
 ⟨(some 5), .move (.av (.int .i64 0)), none, false⟩] false)
 (.seq (.region [⟨(some 7), .move (.tmp 0), none, false⟩,
 ⟨(some 8), .fieldAddr 4 (.tmp 3), none, false⟩,
 ⟨(some 9), .load none (.tmp 8), none, false⟩,
 ⟨(some 10), .call (.av (.fn (.func 134) [] [])) [(.tmp 7), (.tmp 9), (.av (.fn (.func 77) [] []))], none, false⟩,
 ⟨(some 11), .fieldAddr 0 (.tmp 3), none, false⟩,
 ⟨none, .store 1 (.tmp 11) (.av (.int .i64 8)), none, false⟩,
 ⟨(some 12), .fieldAddr 5 (.tmp 3), none, false⟩,
 ⟨none, .store 1 (.tmp 12) (.tmp 10), none, false⟩] false)
 (.seq (.region [⟨(some 13), .move (.tmp 0), none, false⟩,
 ⟨(some 14), .fieldAddr 4 (.tmp 3), none, false⟩,
 ⟨(some 15), .load none (.tmp 14), none, false⟩,
 ⟨(some 16), .fieldAddr 5 (.tmp 3), none, false⟩,
 ⟨(some 17), .load none (.tmp 16), none, false⟩,
 ⟨(some 18), .slice .str (.tmp 13) (some (.tmp 15)) (some (.tmp 17)), none, false⟩,
 ⟨(some 19), .fieldAddr 2 (.tmp 3), none, false⟩,
 ⟨none, .store 1 (.tmp 19) (.tmp 18), none, false⟩] false)
 (.seq (.seq (.region [⟨(some 20), .fieldAddr 2 (.tmp 3), none, false⟩,
 ⟨(some 21), .load none (.tmp 20), none, false⟩,
 ⟨(some 22), .indexStr (.tmp 21) (.av (.int .i64 0)), none, false⟩,
 ⟨(some 23), .call (.av (.fn (.func 78) [] [])) [(.av (.str [43, 45, 46, 48, 49, 50, 51, 52, 53, 54, 55, 56, 57])), (.tmp 22)], none, false⟩,
 ⟨(some 24), .bin .lss .other true (.tmp 23) (.av (.int .i64 0)), none, false⟩] false)
 (.cond (.tmp 24)
 (.seq (.region [⟨(some 25), .load (some 6) (.tmp 3), none, false⟩,
 ⟨none, .store 6 (.tmp 4) (.tmp 25), none, false⟩,
 ⟨(some 5), .move (.av (.int .i64 0)), none, false⟩] false)
 (.ret))
 (.skip)))
 (.seq (.region [⟨(some 6), .move (.av (.int .i64 0)), none, false⟩] false)
 (.seq (.region [⟨(some 27), .fieldAddr 2 (.tmp 3), none, false⟩,
 ⟨(some 28), .load none (.tmp 27), none, false⟩,
 ⟨(some 29), .call (.av (.fn (.func 149) [] [])) [(.tmp 28)], none, false⟩,
 ⟨(some 26), .move (.tmp 29), none, false⟩,
 ⟨(some 30), .extract (.tmp 26) 0, none, false⟩,
 ⟨(some 31), .extract (.tmp 26) 1, none, false⟩,
 ⟨(some 32), .fieldAddr 1 (.tmp 3), none, false⟩,
 ⟨none, .store 1 (.tmp 32) (.tmp 30), none, false⟩,
 ⟨(some 6), .move (.tmp 31), none, false⟩] false)
 (.seq (.region [⟨(some 33), .fieldAddr 2 (.tmp 3), none, false⟩,
 ⟨(some 34), .load none (.tmp 33), none, false⟩,
 ⟨(some 35), .call (.av (.fn (.func 150) [] [])) [(.tmp 34), (.av (.str [46]))], none, false⟩,
 ⟨(some 36), .un .not false (.tmp 35), none, false⟩,
 ⟨(some 37), .fieldAddr 0 (.tmp 3), none, false⟩,
 ⟨none, .store 1 (.tmp 37) (.av (.int .i64 1)), none, false⟩,
 ⟨(some 38), .fieldAddr 3 (.tmp 3), none, false⟩,
 ⟨none, .store 1 (.tmp 38) (.tmp 36), none, false⟩,
 ⟨(some 39), .fieldAddr 2 (.tmp 3), none, false⟩,
 ⟨none, .store 1 (.tmp 39) (.av (.str [])), none, false⟩] false)
 (.seq (.region [⟨(some 40), .load (some 6) (.tmp 3), none, false⟩,
 ⟨(some 41), .move (.tmp 6), none, false⟩,
 ⟨none, .store 6 (.tmp 4) (.tmp 40), none, false⟩,
 ⟨(some 5), .move (.tmp 41), none, false⟩] false)
 (.ret))))))))⟩
/-- inkstand/lex.named -/
def ac146 : AF := ⟨32, [.tmp 2, .tmp 3],
 .seq (.region [⟨(some 2), .move (.av (.str [])), none, false⟩,
 ⟨(some 3), .move (.av (.int .i64 0)), none, false⟩] false)
 (.seq (.region [⟨(some 4), .bld 59 5, none, false⟩] false)
 (.block 0
 (.loop
 (.block 1
 (.seq (.region [⟨(some 11), .move (.tmp 0), none, false⟩,
 ⟨(some 12), .call (.av (.fn (.func 155) [] [])) [(.tmp 11), (.av (.str [35]))], none, false⟩,
 ⟨(some 10), .move (.tmp 12), none, false⟩,
 ⟨(some 13), .extract (.tmp 10) 0, none, false⟩,
 ⟨(some 14), .extract (.tmp 10) 1, none, false⟩,
 ⟨(some 15), .extract (.tmp 10) 2, none, false⟩,
 ⟨(some 5), .move (.tmp 13), none, false⟩,
 ⟨(some 6), .move (.tmp 14), none, false⟩,
 ⟨(some 7), .move (.tmp 15), none, false⟩] false)
 (.seq (.region [⟨(some 16), .move (.tmp 5), none, false⟩,
 ⟨(some 17), .call (.av (.fn (.func 37) [] [])) [(.tmp 4), (.tmp 16)], none, false⟩] false)
 (.seq (.seq (.region [⟨(some 18), .move (.tmp 7), none, false⟩,
 ⟨(some 19), .un .not false (.tmp 18), none, false⟩] false)
 (.cond (.tmp 19)
 (.seq (.region [⟨(some 20), .call (.av (.fn (.func 34) [] [])) [(.tmp 4)], none, false⟩,
 ⟨(some 2), .move (.tmp 20), none, false⟩,
 ⟨(some 3), .move (.av (.int .i64 0)), none, false⟩] false)
 (.ret))
 (.skip)))
 (.seq (.region [⟨(some 22), .move (.tmp 6), none, false⟩,
 ⟨(some 23), .call (.av (.fn (.func 156) [] [])) [(.tmp 22)], none, false⟩,
 ⟨(some 21), .move (.tmp 23), none, false⟩,
 ⟨(some 24), .extract (.tmp 21) 0, none, false⟩,
 ⟨(some 25), .extract (.tmp 21) 1, none, false⟩,
 ⟨(some 8), .move (.tmp 24), none, false⟩,
 ⟨(some 9), .move (.tmp 25), none, false⟩] false)
 (.seq (.seq (.region [⟨(some 26), .move (.tmp 9), none, false⟩,
 ⟨(some 27), .un .not false (.tmp 26), none, false⟩] false)
 (.cond (.tmp 27)
 (.seq (.region [⟨(some 2), .move (.av (.str [])), none, false⟩,
 ⟨(some 3), .move (.av (.int .i64 3)), none, false⟩] false)
 (.ret))
 (.skip)))
 (.seq (.region [⟨(some 28), .move (.tmp 8), none, false⟩,
 ⟨(some 29), .call (.av (.fn (.func 56) [] [])) [(.tmp 4), (.tmp 28)], none, false⟩] false)
 (.region [⟨(some 30), .move (.tmp 6), none, false⟩,
 ⟨(some 31), .slice .str (.tmp 30) (some (.av (.int .i64 2))) none, none, false⟩,
 ⟨(some 0), .move (.tmp 31), none, false⟩] false)))))))))))⟩
/-- inkstand/lex.escaped -/
def ac147 : AF := ⟨38, [.tmp 4],
 .seq (.region [⟨(some 4), .move (.av (.int .i64 0)), none, false⟩] false)
 (.seq (.seq (.region [⟨(some 9), .move (.tmp 1), none, false⟩,
 ⟨(some 10), .call (.av (.fn (.func 157) [] [])) [(.tmp 9)], none, false⟩,
 ⟨(some 8), .move (.tmp 10), none, false⟩,
 ⟨(some 11), .extract (.tmp 8) 0, none, false⟩,
 ⟨(some 12), .extract (.tmp 8) 1, none, false⟩,
 ⟨(some 5), .move (.tmp 11), none, false⟩,
 ⟨(some 6), .move (.tmp 12), none, false⟩] false)
 (.seq (.region [⟨(some 13), .move (.tmp 6), none, false⟩,
 ⟨(some 14), .bin .gtr .other true (.tmp 13) (.av (.int .i64 0)), none, false⟩] false)
 (.cond (.tmp 14)
 (.seq (.region [⟨(some 15), .move (.tmp 0), none, false⟩,
 ⟨(some 16), .move (.tmp 5), none, false⟩,
 ⟨(some 17), .call (.av (.fn (.func 56) [] [])) [(.tmp 15), (.tmp 16)], none, false⟩] false)
 (.seq (.region [⟨(some 18), .move (.tmp 6), none, false⟩,
 ⟨(some 4), .move (.tmp 18), none, false⟩] false)
 (.ret)))
 (.skip))))
 (.seq (.seq (.region [⟨(some 19), .move (.tmp 1), none, false⟩,
 ⟨(some 20), .call (.av (.fn (.func 103) [] [])) [(.tmp 19), (.av (.str [13, 10]))], none, false⟩] false)
 (.cond (.tmp 20)
 (.seq (.region [⟨(some 4), .move (.av (.int .i64 2)), none, false⟩] false)
 (.ret))
 (.skip)))
 (.seq (.seq (.region [⟨(some 21), .move (.tmp 1), none, false⟩,
 ⟨(some 22), .indexStr (.tmp 21) (.av (.int .i64 0)), none, false⟩,
 ⟨(some 23), .call (.av (.fn (.func 78) [] [])) [(.av (.str [110, 114, 116, 98, 102, 10, 13])), (.tmp 22)], none, false⟩,
 ⟨(some 7), .move (.tmp 23), none, false⟩] false)
 (.block 0
 (.seq (.region [⟨(some 25), .move (.tmp 7), none, false⟩,
 ⟨(some 26), .bin .lss .other true (.tmp 25) (.av (.int .i64 0)), none, false⟩,
 ⟨(some 24), .move (.tmp 26), none, false⟩] false)
 (.cond (.tmp 24)
 (.region [⟨(some 27), .move (.tmp 0), none, false⟩,
 ⟨(some 28), .move (.tmp 1), none, false⟩,
 ⟨(some 29), .indexStr (.tmp 28) (.av (.int .i64 0)), none, false⟩,
 ⟨(some 30), .call (.av (.fn (.func 56) [] [])) [(.tmp 27), (.tmp 29)], none, false⟩] false)
 (.seq (.region [⟨(some 32), .move (.tmp 7), none, false⟩,
 ⟨(some 33), .bin .lss .other true (.tmp 32) (.av (.int .i64 5)), none, false⟩,
 ⟨(some 31), .move (.tmp 33), none, false⟩] false)
 (.cond (.tmp 31)
 (.region [⟨(some 34), .move (.tmp 0), none, false⟩,
 ⟨(some 35), .move (.tmp 7), none, false⟩,
 ⟨(some 36), .indexStr (.av (.str [10, 13, 9, 8, 12])) (.tmp 35), none, false⟩,
 ⟨(some 37), .call (.av (.fn (.func 56) [] [])) [(.tmp 34), (.tmp 36)], none, false⟩] false)
 (.skip)))))))
 (.seq (.region [⟨(some 4), .move (.av (.int .i64 1)), none, false⟩] false)
 (.ret)))))⟩
/-- inkstand/lex.digit -/
def ac148 : AF := ⟨26, [.tmp 2, .tmp 3],
 .seq (.region [⟨(some 2), .move (.av (.int .u8 0)), none, false⟩,
 ⟨(some 3), .move (.av (.bool false)), none, false⟩] false)
 (.seq (.block 0
 (.seq (.region [⟨(some 5), .move (.tmp 0), none, false⟩,
 ⟨(some 6), .bin .geq .other false (.tmp 5) (.av (.int .u8 48)), none, false⟩,
 ⟨(some 7), .move (.tmp 6), none, false⟩,
 ⟨(some 8), .move (.tmp 0), (some (7, true)), false⟩,
 ⟨(some 9), .bin .leq .other false (.tmp 8) (.av (.int .u8 57)), (some (7, true)), false⟩,
 ⟨(some 10), .pick (.tmp 7) (.tmp 9) (.av (.bool false)), none, false⟩,
 ⟨(some 4), .move (.tmp 10), none, false⟩] false)
 (.cond (.tmp 4)
 (.seq (.region [⟨(some 11), .move (.tmp 0), none, false⟩,
 ⟨(some 12), .bin .sub .other false (.tmp 11) (.av (.int .u8 48)), none, false⟩,
 ⟨(some 2), .move (.tmp 12), none, false⟩,
 ⟨(some 3), .move (.av (.bool true)), none, false⟩] false)
 (.ret))
 (.seq (.region [⟨(some 14), .move (.tmp 0), none, false⟩,
 ⟨(some 15), .bin .or .other false (.tmp 14) (.av (.int .u8 32)), none, false⟩,
 ⟨(some 16), .bin .geq .other false (.tmp 15) (.av (.int .u8 97)), none, false⟩,
 ⟨(some 17), .move (.tmp 16), none, false⟩,
 ⟨(some 18), .move (.tmp 0), (some (17, true)), false⟩,
 ⟨(some 19), .bin .or .other false (.tmp 18) (.av (.int .u8 32)), (some (17, true)), false⟩,
 ⟨(some 20), .bin .leq .other false (.tmp 19) (.av (.int .u8 102)), (some (17, true)), false⟩,
 ⟨(some 21), .pick (.tmp 17) (.tmp 20) (.av (.bool false)), none, false⟩,
 ⟨(some 13), .move (.tmp 21), none, false⟩] false)
 (.cond (.tmp 13)
 (.seq (.region [⟨(some 22), .move (.tmp 0), none, false⟩,
 ⟨(some 23), .bin .or .other false (.tmp 22) (.av (.int .u8 32)), none, false⟩,
 ⟨(some 24), .bin .sub .other false (.tmp 23) (.av (.int .u8 97)), none, false⟩,
 ⟨(some 25), .bin .add .other false (.tmp 24) (.av (.int .u8 10)), none, false⟩,
 ⟨(some 2), .move (.tmp 25), none, false⟩,
 ⟨(some 3), .move (.av (.bool true)), none, false⟩] false)
 (.ret))
 (.skip))))))
 (.seq (.region [⟨(some 2), .move (.av (.int .u8 0)), none, false⟩,
 ⟨(some 3), .move (.av (.bool false)), none, false⟩] false)
 (.ret)))⟩
/-- inkstand/fix.Parse -/
def ac149 : AF := ⟨60, [.tmp 2, .tmp 3],
 .seq (.region [⟨(some 2), .move (.av (.int .i64 0)), none, false⟩,
 ⟨(some 3), .move (.av (.int .i64 0)), none, false⟩] false)
 (.seq (.seq (.region [⟨(some 9), .move (.tmp 0), none, false⟩,
 ⟨(some 10), .len .str (.tmp 9), none, false⟩,
 ⟨(some 11), .bin .gtr .other true (.tmp 10) (.av (.int .i64 400)), none, false⟩] false)
 (.cond (.tmp 11)
 (.seq (.region [⟨(some 2), .move (.av (.int .i64 0)), none, false⟩,
 ⟨(some 3), .move (.av (.int .i64 2)), none, false⟩] false)
 (.ret))
 (.skip)))
 (.seq (.region [⟨(some 13), .move (.tmp 0), none, false⟩,
 ⟨(some 14), .call (.av (.fn (.func 158) [] [])) [(.tmp 13)], none, false⟩,
 ⟨(some 12), .move (.tmp 14), none, false⟩,
 ⟨(some 15), .extract (.tmp 12) 0, none, false⟩,
 ⟨(some 16), .extract (.tmp 12) 1, none, false⟩,
 ⟨(some 0), .move (.tmp 15), none, false⟩,
 ⟨(some 4), .move (.tmp 16), none, false⟩] false)
 (.seq (.region [⟨(some 18), .move (.tmp 0), none, false⟩,
 ⟨(some 19), .call (.av (.fn (.func 155) [] [])) [(.tmp 18), (.av (.str [46]))], none, false⟩,
 ⟨(some 17), .move (.tmp 19), none, false⟩,
 ⟨(some 20), .extract (.tmp 17) 0, none, false⟩,
 ⟨(some 21), .extract (.tmp 17) 1, none, false⟩,
 ⟨(some 22), .extract (.tmp 17) 2, none, false⟩,
 ⟨(some 5), .move (.tmp 20), none, false⟩,
 ⟨(some 6), .move (.tmp 21), none, false⟩,
 ⟨(some 7), .move (.tmp 22), none, false⟩] false)
 (.seq (.seq (.region [⟨(some 23), .move (.tmp 5), none, false⟩,
 ⟨(some 24), .call (.av (.fn (.func 159) [] [])) [(.tmp 23)], none, false⟩,
 ⟨(some 25), .un .not false (.tmp 24), none, false⟩,
 ⟨(some 26), .move (.tmp 25), none, false⟩,
 ⟨(some 27), .move (.tmp 6), (some (26, false)), false⟩,
 ⟨(some 28), .call (.av (.fn (.func 159) [] [])) [(.tmp 27)], (some (26, false)), false⟩,
 ⟨(some 29), .un .not false (.tmp 28), (some (26, false)), false⟩,
 ⟨(some 30), .pick (.tmp 26) (.av (.bool true)) (.tmp 29), none, false⟩,
 ⟨(some 31), .move (.tmp 30), none, false⟩,
 ⟨(some 32), .move (.tmp 5), (some (31, false)), false⟩,
 ⟨(some 33), .move (.tmp 6), (some (31, false)), false⟩,
 ⟨(some 34), .bin .add .other false (.tmp 32) (.tmp 33), (some (31, false)), false⟩,
 ⟨(some 35), .bin .eql .other false (.tmp 34) (.av (.str [])), (some (31, false)), false⟩,
 ⟨(some 36), .pick (.tmp 31) (.av (.bool true)) (.tmp 35), none, false⟩] false)
 (.cond (.tmp 36)
 (.seq (.region [⟨(some 2), .move (.av (.int .i64 0)), none, false⟩,
 ⟨(some 3), .move (.av (.int .i64 3)), none, false⟩] false)
 (.ret))
 (.skip)))
 (.seq (.region [⟨(some 37), .move (.tmp 5), none, false⟩,
 ⟨(some 38), .move (.tmp 6), none, false⟩,
 ⟨(some 39), .bin .add .other false (.tmp 38) (.av (.str [48, 48, 48])), none, false⟩,
 ⟨(some 40), .slice .str (.tmp 39) none (some (.av (.int .i64 3))), none, false⟩,
 ⟨(some 41), .bin .add .other false (.tmp 37) (.tmp 40), none, false⟩,
 ⟨(some 42), .call (.av (.fn (.func 160) [] [])) [(.tmp 41)], none, false⟩,
 ⟨(some 8), .move (.tmp 42), none, false⟩] false)
 (.seq (.seq (.region [⟨(some 43), .move (.tmp 6), none, false⟩,
 ⟨(some 44), .len .str (.tmp 43), none, false⟩,
 ⟨(some 45), .bin .gtr .other true (.tmp 44) (.av (.int .i64 3)), none, false⟩,
 ⟨(some 46), .move (.tmp 45), none, false⟩,
 ⟨(some 47), .move (.tmp 6), (some (46, true)), false⟩,
 ⟨(some 48), .indexStr (.tmp 47) (.av (.int .i64 3)), (some (46, true)), false⟩,
 ⟨(some 49), .bin .geq .other false (.tmp 48) (.av (.int .u8 53)), (some (46, true)), false⟩,
 ⟨(some 50), .pick (.tmp 46) (.tmp 49) (.av (.bool false)), none, false⟩] false)
 (.cond (.tmp 50)
 (.region [⟨(some 51), .move (.tmp 8), none, false⟩,
 ⟨(some 52), .bin .add .other true (.tmp 51) (.av (.int .i64 1)), none, false⟩,
 ⟨(some 8), .move (.tmp 52), none, false⟩] false)
 (.skip)))
 (.seq (.seq (.region [⟨(some 53), .move (.tmp 4), none, false⟩] false)
 (.cond (.tmp 53)
 (.region [⟨(some 54), .move (.tmp 8), none, false⟩,
 ⟨(some 55), .un .neg true (.tmp 54), none, false⟩,
 ⟨(some 8), .move (.tmp 55), none, false⟩] false)
 (.skip)))
 (.seq (.region [⟨(some 56), .move (.tmp 8), none, false⟩,
 ⟨(some 57), .call (.av (.fn (.func 74) [] [])) [(.tmp 56)], none, false⟩,
 ⟨(some 58), .extract (.tmp 57) 0, none, false⟩,
 ⟨(some 59), .extract (.tmp 57) 1, none, false⟩,
 ⟨(some 2), .move (.tmp 58), none, false⟩,
 ⟨(some 3), .move (.tmp 59), none, false⟩] false)
 (.ret)))))))))⟩
/-- strings.Contains -/
def ac150 : AF := ⟨9, [.tmp 4],
 .seq (.region [⟨(some 4), .move (.av (.bool false)), none, false⟩] false)
 (.seq (.region [⟨(some 5), .move (.tmp 0), none, false⟩,
 ⟨(some 6), .move (.tmp 1), none, false⟩,
 ⟨(some 7), .call (.av (.fn (.func 161) [] [])) [(.tmp 5), (.tmp 6)], none, false⟩,
 ⟨(some 8), .bin .geq .other true (.tmp 7) (.av (.int .i64 0)), none, false⟩,
 ⟨(some 4), .move (.tmp 8), none, false⟩] false)
 (.ret))⟩
/-- strings.Cut -/
def ac155 : AF := ⟨13, [.tmp 4, .tmp 5, .tmp 6],
 .seq (.region [⟨(some 4), .move (.av (.str [])), none, false⟩,
 ⟨(some 5), .move (.av (.str [])), none, false⟩,
 ⟨(some 6), .move (.av (.bool false)), none, false⟩] false)
 (.seq (.region [⟨(some 7), .move (.tmp 0), none, false⟩,
 ⟨(some 8), .move (.tmp 1), none, false⟩,
 ⟨(some 9), .call (.av (.fn (.func 162) [] [])) [(.tmp 7), (.tmp 8)], none, false⟩,
 ⟨(some 10), .extract (.tmp 9) 0, none, false⟩,
 ⟨(some 11), .extract (.tmp 9) 1, none, false⟩,
 ⟨(some 12), .extract (.tmp 9) 2, none, false⟩,
 ⟨(some 4), .move (.tmp 10), none, false⟩,
 ⟨(some 5), .move (.tmp 11), none, false⟩,
 ⟨(some 6), .move (.tmp 12), none, false⟩] false)
 (.ret))⟩
/-- inkstand/lex.octet -/
def ac156 : AF := ⟨31, [.tmp 2, .tmp 3],
 .seq (.region [⟨(some 2), .move (.av (.int .u8 0)), none, false⟩,
 ⟨(some 3), .move (.av (.bool false)), none, false⟩] false)
 (.seq (.seq (.region [⟨(some 8), .move (.tmp 0), none, false⟩,
 ⟨(some 9), .len .str (.tmp 8), none, false⟩,
 ⟨(some 10), .bin .lss .other true (.tmp 9) (.av (.int .i64 2)), none, false⟩] false)
 (.cond (.tmp 10)
 (.seq (.region [⟨(some 2), .move (.av (.int .u8 0)), none, false⟩,
 ⟨(some 3), .move (.av (.bool false)), none, false⟩] false)
 (.ret))
 (.skip)))
 (.seq (.region [⟨(some 12), .move (.tmp 0), none, false⟩,
 ⟨(some 13), .indexStr (.tmp 12) (.av (.int .i64 0)), none, false⟩,
 ⟨(some 14), .call (.av (.fn (.func 148) [] [])) [(.tmp 13)], none, false⟩,
 ⟨(some 11), .move (.tmp 14), none, false⟩,
 ⟨(some 15), .extract (.tmp 11) 0, none, false⟩,
 ⟨(some 16), .extract (.tmp 11) 1, none, false⟩,
 ⟨(some 4), .move (.tmp 15), none, false⟩,
 ⟨(some 5), .move (.tmp 16), none, false⟩] false)
 (.seq (.region [⟨(some 18), .move (.tmp 0), none, false⟩,
 ⟨(some 19), .indexStr (.tmp 18) (.av (.int .i64 1)), none, false⟩,
 ⟨(some 20), .call (.av (.fn (.func 148) [] [])) [(.tmp 19)], none, false⟩,
 ⟨(some 17), .move (.tmp 20), none, false⟩,
 ⟨(some 21), .extract (.tmp 17) 0, none, false⟩,
 ⟨(some 22), .extract (.tmp 17) 1, none, false⟩,
 ⟨(some 6), .move (.tmp 21), none, false⟩,
 ⟨(some 7), .move (.tmp 22), none, false⟩] false)
 (.seq (.region [⟨(some 23), .move (.tmp 4), none, false⟩,
 ⟨(some 24), .bin .shl .other false (.tmp 23) (.av (.int .u64 4)), none, false⟩,
 ⟨(some 25), .move (.tmp 6), none, false⟩,
 ⟨(some 26), .bin .or .other false (.tmp 24) (.tmp 25), none, false⟩,
 ⟨(some 27), .move (.tmp 5), none, false⟩,
 ⟨(some 28), .move (.tmp 27), none, false⟩,
 ⟨(some 29), .move (.tmp 7), (some (28, true)), false⟩,
 ⟨(some 30), .pick (.tmp 28) (.tmp 29) (.av (.bool false)), none, false⟩,
 ⟨(some 2), .move (.tmp 26), none, false⟩,
 ⟨(some 3), .move (.tmp 30), none, false⟩] false)
 (.ret)))))⟩
/-- inkstand/lex.octal -/
def ac157 : AF := ⟨36, [.tmp 2, .tmp 3],
 .seq (.region [⟨(some 2), .move (.av (.int .u8 0)), none, false⟩,
 ⟨(some 3), .move (.av (.int .i64 0)), none, false⟩] false)
 (.seq (.region [⟨(some 4), .move (.av (.int .i64 0)), none, false⟩,
 ⟨(some 5), .move (.av (.int .i64 0)), none, false⟩] false)
 (.seq (.block 0
 (.loop
 (.seq (.seq (.region [⟨(some 6), .move (.tmp 4), none, false⟩,
 ⟨(some 7), .move (.tmp 0), none, false⟩,
 ⟨(some 8), .len .str (.tmp 7), none, false⟩,
 ⟨(some 9), .minmax false [(.tmp 8), (.av (.int .i64 3))], none, false⟩,
 ⟨(some 10), .bin .lss .other true (.tmp 6) (.tmp 9), none, false⟩,
 ⟨(some 11), .move (.tmp 10), none, false⟩,
 ⟨(some 12), .move (.tmp 0), (some (11, true)), false⟩,
 ⟨(some 13), .move (.tmp 4), (some (11, true)), false⟩,
 ⟨(some 14), .indexStr (.tmp 12) (.tmp 13), (some (11, true)), false⟩,
 ⟨(some 15), .bin .geq .other false (.tmp 14) (.av (.int .u8 48)), (some (11, true)), false⟩,
 ⟨(some 16), .pick (.tmp 11) (.tmp 15) (.av (.bool false)), none, false⟩,
 ⟨(some 17), .move (.tmp 16), none, false⟩,
 ⟨(some 18), .move (.tmp 0), (some (17, true)), false⟩,
 ⟨(some 19), .move (.tmp 4), (some (17, true)), false⟩,
 ⟨(some 20), .indexStr (.tmp 18) (.tmp 19), (some (17, true)), false⟩,
 ⟨(some 21), .bin .leq .other false (.tmp 20) (.av (.int .u8 55)), (some (17, true)), false⟩,
 ⟨(some 22), .pick (.tmp 17) (.tmp 21) (.av (.bool false)), none, false⟩] false)
 (.cond (.tmp 22)
 (.skip)
 (.exit 0)))
 (.block 1
 (.seq (.region [⟨(some 23), .move (.tmp 5), none, false⟩,
 ⟨(some 24), .bin .shl .other true (.tmp 23) (.av (.int .u64 3)), none, false⟩,
 ⟨(some 25), .move (.tmp 0), none, false⟩,
 ⟨(some 26), .move (.tmp 4), none, false⟩,
 ⟨(some 27), .indexStr (.tmp 25) (.tmp 26), none, false⟩,
 ⟨(some 28), .bin .sub .other false (.tmp 27) (.av (.int .u8 48)), none, false⟩,
 ⟨(some 29), .conv (.int .i64) (.tmp 28), none, false⟩,
 ⟨(some 30), .bin .or .other true (.tmp 24) (.tmp 29), none, false⟩,
 ⟨(some 5), .move (.tmp 30), none, false⟩] false)
 (.region [⟨(some 31), .move (.tmp 4), none, false⟩,
 ⟨(some 32), .bin .add .other true (.tmp 31) (.av (.int .i64 1)), none, false⟩,
 ⟨(some 4), .move (.tmp 32), none, false⟩] false))))))
 (.seq (.region [⟨(some 33), .move (.tmp 5), none, false⟩,
 ⟨(some 34), .conv (.int .u8) (.tmp 33), none, false⟩,
 ⟨(some 35), .move (.tmp 4), none, false⟩,
 ⟨(some 2), .move (.tmp 34), none, false⟩,
 ⟨(some 3), .move (.tmp 35), none, false⟩] false)
 (.ret))))⟩
/-- inkstand/fix.unsigned -/
def ac158 : AF := ⟨15, [.tmp 2, .tmp 3],
 .seq (.region [⟨(some 2), .move (.av (.str [])), none, false⟩,
 ⟨(some 3), .move (.av (.bool false)), none, false⟩] false)
 (.seq (.seq (.region [⟨(some 7), .move (.tmp 0), none, false⟩,
 ⟨(some 8), .call (.av (.fn (.func 79) [] [])) [(.tmp 7), (.av (.str [45]))], none, false⟩,
 ⟨(some 6), .move (.tmp 8), none, false⟩,
 ⟨(some 9), .extract (.tmp 6) 0, none, false⟩,
 ⟨(some 10), .extract (.tmp 6) 1, none, false⟩,
 ⟨(some 4), .move (.tmp 9), none, false⟩,
 ⟨(some 5), .move (.tmp 10), none, false⟩] false)
 (.seq (.region [⟨(some 11), .move (.tmp 5), none, false⟩] false)
 (.cond (.tmp 11)
 (.seq (.region [⟨(some 12), .move (.tmp 4), none, false⟩,
 ⟨(some 2), .move (.tmp 12), none, false⟩,
 ⟨(some 3), .move (.av (.bool true)), none, false⟩] false)
 (.ret))
 (.skip))))
 (.seq (.region [⟨(some 13), .move (.tmp 0), none, false⟩,
 ⟨(some 14), .call (.av (.fn (.func 163) [] [])) [(.tmp 13), (.av (.str [43]))], none, false⟩,
 ⟨(some 2), .move (.tmp 14), none, false⟩,
 ⟨(some 3), .move (.av (.bool false)), none, false⟩] false)
 (.ret)))⟩
/-- inkstand/fix.digits -/
def ac159 : AF := ⟨6, [.tmp 2],
 .seq (.region [⟨(some 2), .move (.av (.bool false)), none, false⟩] false)
 (.seq (.region [⟨(some 3), .move (.tmp 0), none, false⟩,
 ⟨(some 4), .call (.av (.fn (.func 164) [] [])) [(.tmp 3), (.av (.str [48, 49, 50, 51, 52, 53, 54, 55, 56, 57]))], none, false⟩,
 ⟨(some 5), .bin .eql .other false (.tmp 4) (.av (.str [])), none, false⟩,
 ⟨(some 2), .move (.tmp 5), none, false⟩] false)
 (.ret))⟩
/-- inkstand/fix.read -/
def ac160 : AF := ⟨21, [.tmp 2],
 .seq (.region [⟨(some 2), .move (.av (.int .i64 0)), none, false⟩] false)
 (.seq (.region [⟨(some 3), .move (.av (.int .i64 0)), none, false⟩] false)
 (.seq (.seq (.region [⟨(some 5), .move (.tmp 0), none, false⟩,
 ⟨(some 6), .len .str (.tmp 5), none, false⟩,
 ⟨(some 7), .move (.av (.int .i64 0)), none, false⟩] false)
 (.block 0
 (.loop
 (.seq (.region [⟨(some 8), .bin .lss .other true (.tmp 7) (.tmp 6), none, false⟩] false)
 (.seq (.cond (.tmp 8)
 (.skip)
 (.exit 0))
 (.seq (.block 1
 (.seq (.region [⟨(some 9), .move (.tmp 7), none, false⟩,
 ⟨(some 4), .move (.tmp 9), none, false⟩] false)
 (.region [⟨(some 10), .move (.tmp 3), none, false⟩,
 ⟨(some 11), .bin .mul .other true (.tmp 10) (.av (.int .i64 10)), none, false⟩,
 ⟨(some 12), .move (.tmp 0), none, false⟩,
 ⟨(some 13), .move (.tmp 4), none, false⟩,
 ⟨(some 14), .indexStr (.tmp 12) (.tmp 13), none, false⟩,
 ⟨(some 15), .bin .sub .other false (.tmp 14) (.av (.int .u8 48)), none, false⟩,
 ⟨(some 16), .conv (.int .i64) (.tmp 15), none, false⟩,
 ⟨(some 17), .bin .add .other true (.tmp 11) (.tmp 16), none, false⟩,
 ⟨(some 18), .minmax false [(.tmp 17), (.av (.int .i64 1099511627776))], none, false⟩,
 ⟨(some 3), .move (.tmp 18), none, false⟩] false)))
 (.region [⟨(some 19), .bin .add .other true (.tmp 7) (.av (.int .i64 1)), none, false⟩,
 ⟨(some 7), .move (.tmp 19), none, false⟩] false)))))))
 (.seq (.region [⟨(some 20), .move (.tmp 3), none, false⟩,
 ⟨(some 2), .move (.tmp 20), none, false⟩] false)
 (.ret))))⟩
/-- strings.Index -/
def ac161 : AF := ⟨8, [.tmp 4],
 .seq (.region [⟨(some 4), .move (.av (.int .i64 0)), none, false⟩] false)
 (.seq (.region [⟨(some 5), .move (.tmp 0), none, false⟩,
 ⟨(some 6), .move (.tmp 1), none, false⟩,
 ⟨(some 7), .call (.av (.fn (.func 165) [] [])) [(.tmp 5), (.tmp 6)], none, false⟩,
 ⟨(some 4), .move (.tmp 7), none, false⟩] false)
 (.ret))⟩
/-- internal/stringslite.Cut -/
def ac162 : AF := ⟨23, [.tmp 4, .tmp 5, .tmp 6],
 .seq (.region [⟨(some 4), .move (.av (.str [])), none, false⟩,
 ⟨(some 5), .move (.av (.str [])), none, false⟩,
 ⟨(some 6), .move (.av (.bool false)), none, false⟩] false)
 (.seq (.seq (.region [⟨(some 8), .move (.tmp 0), none, false⟩,
 ⟨(some 9), .move (.tmp 1), none, false⟩,
 ⟨(some 10), .call (.av (.fn (.func 165) [] [])) [(.tmp 8), (.tmp 9)], none, false⟩,
 ⟨(some 7), .move (.tmp 10), none, false⟩] false)
 (.seq (.region [⟨(some 11), .move (.tmp 7), none, false⟩,
 ⟨(some 12), .bin .geq .other true (.tmp 11) (.av (.int .i64 0)), none, false⟩] false)
 (.cond (.tmp 12)
 (.seq (.region [⟨(some 13), .move (.tmp 0), none, false⟩,
 ⟨(some 14), .move (.tmp 7), none, false⟩,
 ⟨(some 15), .slice .str (.tmp 13) none (some (.tmp 14)), none, false⟩,
 ⟨(some 16), .move (.tmp 0), none, false⟩,
 ⟨(some 17), .move (.tmp 7), none, false⟩,
 ⟨(some 18), .move (.tmp 1), none, false⟩,
 ⟨(some 19), .len .str (.tmp 18), none, false⟩,
 ⟨(some 20), .bin .add .other true (.tmp 17) (.tmp 19), none, false⟩,
 ⟨(some 21), .slice .str (.tmp 16) (some (.tmp 20)) none, none, false⟩,
 ⟨(some 4), .move (.tmp 15), none, false⟩,
 ⟨(some 5), .move (.tmp 21), none, false⟩,
 ⟨(some 6), .move (.av (.bool true)), none, false⟩] true)
 (.ret))
 (.skip))))
 (.seq (.region [⟨(some 22), .move (.tmp 0), none, false⟩,
 ⟨(some 4), .move (.tmp 22), none, false⟩,
 ⟨(some 5), .move (.av (.str [])), none, false⟩,
 ⟨(some 6), .move (.av (.bool false)), none, false⟩] false)
 (.ret)))⟩
/-- strings.TrimPrefix -/
def ac163 : AF := ⟨8, [.tmp 4],
 .seq (.region [⟨(some 4), .move (.av (.str [])), none, false⟩] false)
 (.seq (.region [⟨(some 5), .move (.tmp 0), none, false⟩,
 ⟨(some 6), .move (.tmp 1), none, false⟩,
 ⟨(some 7), .call (.av (.fn (.func 166) [] [])) [(.tmp 5), (.tmp 6)], none, false⟩,
 ⟨(some 4), .move (.tmp 7), none, false⟩] false)
 (.ret))⟩
/-- strings.Trim -/
def ac164 : AF := ⟨43, [.tmp 4],
 .seq (.region [⟨(some 4), .move (.av (.str [])), none, false⟩] false)
 (.seq (.seq (.region [⟨(some 7), .move (.tmp 0), none, false⟩,
 ⟨(some 8), .bin .eql .other false (.tmp 7) (.av (.str [])), none, false⟩,
 ⟨(some 9), .move (.tmp 8), none, false⟩,
 ⟨(some 10), .move (.tmp 1), (some (9, false)), false⟩,
 ⟨(some 11), .bin .eql .other false (.tmp 10) (.av (.str [])), (some (9, false)), false⟩,
 ⟨(some 12), .pick (.tmp 9) (.av (.bool true)) (.tmp 11), none, false⟩] false)
 (.cond (.tmp 12)
 (.seq (.region [⟨(some 13), .move (.tmp 0), none, false⟩,
 ⟨(some 4), .move (.tmp 13), none, false⟩] false)
 (.ret))
 (.skip)))
 (.seq (.seq (.region [⟨(some 14), .move (.tmp 1), none, false⟩,
 ⟨(some 15), .len .str (.tmp 14), none, false⟩,
 ⟨(some 16), .bin .eql .other true (.tmp 15) (.av (.int .i64 1)), none, false⟩,
 ⟨(some 17), .move (.tmp 16), none, false⟩,
 ⟨(some 18), .move (.tmp 1), (some (17, true)), false⟩,
 ⟨(some 19), .indexStr (.tmp 18) (.av (.int .i64 0)), (some (17, true)), false⟩,
 ⟨(some 20), .bin .lss .other false (.tmp 19) (.av (.int .u8 128)), (some (17, true)), false⟩,
 ⟨(some 21), .pick (.tmp 17) (.tmp 20) (.av (.bool false)), none, false⟩] false)
 (.cond (.tmp 21)
 (.seq (.region [⟨(some 22), .move (.tmp 0), none, false⟩,
 ⟨(some 23), .move (.tmp 1), none, false⟩,
 ⟨(some 24), .indexStr (.tmp 23) (.av (.int .i64 0)), none, false⟩,
 ⟨(some 25), .call (.av (.fn (.func 107) [] [])) [(.tmp 22), (.tmp 24)], none, false⟩,
 ⟨(some 26), .move (.tmp 1), none, false⟩,
 ⟨(some 27), .indexStr (.tmp 26) (.av (.int .i64 0)), none, false⟩,
 ⟨(some 28), .call (.av (.fn (.func 167) [] [])) [(.tmp 25), (.tmp 27)], none, false⟩,
 ⟨(some 4), .move (.tmp 28), none, false⟩] true)
 (.ret))
 (.skip)))
 (.seq (.seq (.region [⟨(some 30), .move (.tmp 1), none, false⟩,
 ⟨(some 31), .call (.av (.fn (.func 108) [] [])) [(.tmp 30)], none, false⟩,
 ⟨(some 29), .move (.tmp 31), none, false⟩,
 ⟨(some 32), .extract (.tmp 29) 0, none, false⟩,
 ⟨(some 33), .extract (.tmp 29) 1, none, false⟩,
 ⟨(some 5), .alloc 124 (List.replicate 256 (.bool false)), none, false⟩,
 ⟨none, .store 256 (.tmp 5) (.tmp 32), none, false⟩,
 ⟨(some 6), .move (.tmp 33), none, false⟩] false)
 (.seq (.region [⟨(some 34), .move (.tmp 6), none, false⟩] false)
 (.cond (.tmp 34)
 (.seq (.region [⟨(some 35), .move (.tmp 0), none, false⟩,
 ⟨(some 36), .call (.av (.fn (.func 109) [] [])) [(.tmp 35), (.tmp 5)], none, false⟩,
 ⟨(some 37), .call (.av (.fn (.func 168) [] [])) [(.tmp 36), (.tmp 5)], none, false⟩,
 ⟨(some 4), .move (.tmp 37), none, false⟩] false)
 (.ret))
 (.skip))))
 (.seq (.region [⟨(some 38), .move (.tmp 0), none, false⟩,
 ⟨(some 39), .move (.tmp 1), none, false⟩,
 ⟨(some 40), .call (.av (.fn (.func 110) [] [])) [(.tmp 38), (.tmp 39)], none, false⟩,
 ⟨(some 41), .move (.tmp 1), none, false⟩,
 ⟨(some 42), .call (.av (.fn (.func 169) [] [])) [(.tmp 40), (.tmp 41)], none, false⟩,
 ⟨(some 4), .move (.tmp 42), none, false⟩] false)
 (.ret)))))⟩
/-- internal/stringslite.Index -/
def ac165 : AF := ⟨143, [.tmp 4],
 .seq (.region [⟨(some 4), .move (.av (.int .i64 0)), none, false⟩] false)
 (.seq (.region [⟨(some 14), .move (.tmp 1), none, false⟩,
 ⟨(some 15), .len .str (.tmp 14), none, false⟩,
 ⟨(some 5), .move (.tmp 15), none, false⟩] false)
 (.seq (.block 0
 (.seq (.region [⟨(some 17), .move (.tmp 5), none, false⟩,
 ⟨(some 18), .bin .eql .other true (.tmp 17) (.av (.int .i64 0)), none, false⟩,
 ⟨(some 19), .move (.tmp 18), none, false⟩,
 ⟨(some 20), .move (.tmp 1), (some (19, false)), false⟩,
 ⟨(some 21), .move (.tmp 0), (some (19, false)), false⟩,
 ⟨(some 22), .bin .eql .other false (.tmp 20) (.tmp 21), (some (19, false)), false⟩,
 ⟨(some 23), .pick (.tmp 19) (.av (.bool true)) (.tmp 22), none, false⟩,
 ⟨(some 16), .move (.tmp 23), none, false⟩] false)
 (.cond (.tmp 16)
 (.seq (.region [⟨(some 4), .move (.av (.int .i64 0)), none, false⟩] false)
 (.ret))
 (.seq (.region [⟨(some 25), .move (.tmp 5), none, false⟩,
 ⟨(some 26), .bin .eql .other true (.tmp 25) (.av (.int .i64 1)), none, false⟩,
 ⟨(some 24), .move (.tmp 26), none, false⟩] false)
 (.cond (.tmp 24)
 (.seq (.region [⟨(some 27), .move (.tmp 0), none, false⟩,
 ⟨(some 28), .move (.tmp 1), none, false⟩,
 ⟨(some 29), .indexStr (.tmp 28) (.av (.int .i64 0)), none, false⟩,
 ⟨(some 30), .call (.av (.fn (.func 100) [] [])) [(.tmp 27), (.tmp 29)], none, false⟩,
 ⟨(some 4), .move (.tmp 30), none, false⟩] false)
 (.ret))
 (.seq (.region [⟨(some 32), .move (.tmp 5), none, false⟩,
 ⟨(some 33), .move (.tmp 0), none, false⟩,
 ⟨(some 34), .len .str (.tmp 33), none, false⟩,
 ⟨(some 35), .bin .geq .other true (.tmp 32) (.tmp 34), none, false⟩,
 ⟨(some 31), .move (.tmp 35), none, false⟩] false)
 (.cond (.tmp 31)
 (.seq (.region [⟨(some 4), .move (.av (.int .i64 (-1))), none, false⟩] false)
 (.ret))
 (.seq (.region [⟨(some 37), .move (.tmp 5), none, false⟩,
 ⟨(some 38), .load none (.av (.lit (.pointer (some ⟨1, 0, none⟩)))), none, false⟩,
 ⟨(some 39), .bin .leq .other true (.tmp 37) (.tmp 38), none, false⟩,
 ⟨(some 40), .move (.tmp 39), none, false⟩,
 ⟨(some 41), .move (.tmp 0), (some (40, true)), false⟩,
 ⟨(some 42), .len .str (.tmp 41), (some (40, true)), false⟩,
 ⟨(some 43), .bin .leq .other true (.tmp 42) (.av (.int .i64 64)), (some (40, true)), false⟩,
 ⟨(some 44), .pick (.tmp 40) (.tmp 43) (.av (.bool false)), none, false⟩,
 ⟨(some 36), .move (.tmp 44), none, false⟩] false)
 (.cond (.tmp 36)
 (.seq (.region [⟨(some 45), .move (.tmp 0), none, false⟩,
 ⟨(some 46), .move (.tmp 1), none, false⟩,
 ⟨(some 47), .call (.av (.fn (.func 154) [] [])) [(.tmp 45), (.tmp 46)], none, false⟩,
 ⟨(some 4), .move (.tmp 47), none, false⟩] false)
 (.ret))
 (.skip))))))))))
 (.seq (.region [⟨(some 48), .move (.tmp 1), none, false⟩,
 ⟨(some 49), .indexStr (.tmp 48) (.av (.int .i64 0)), none, false⟩,
 ⟨(some 6), .move (.tmp 49), none, false⟩] false)
 (.seq (.region [⟨(some 50), .move (.tmp 1), none, false⟩,
 ⟨(some 51), .indexStr (.tmp 50) (.av (.int .i64 1)), none, false⟩,
 ⟨(some 7), .move (.tmp 51), none, false⟩] false)
 (.seq (.region [⟨(some 8), .move (.av (.int .i64 0)), none, false⟩] false)
 (.seq (.region [⟨(some 52), .move (.tmp 0), none, false⟩,
 ⟨(some 53), .len .str (.tmp 52), none, false⟩,
 ⟨(some 54), .move (.tmp 5), none, false⟩,
 ⟨(some 55), .bin .sub .other true (.tmp 53) (.tmp 54), none, false⟩,
 ⟨(some 56), .bin .add .other true (.tmp 55) (.av (.int .i64 1)), none, false⟩,
 ⟨(some 9), .move (.tmp 56), none, false⟩] false)
 (.seq (.region [⟨(some 10), .move (.av (.int .i64 0)), none, false⟩] false)
 (.seq (.block 1
 (.loop
 (.seq (.seq (.region [⟨(some 57), .move (.tmp 8), none, false⟩,
 ⟨(some 58), .move (.tmp 9), none, false⟩,
 ⟨(some 59), .bin .lss .other true (.tmp 57) (.tmp 58), none, false⟩] false)
 (.cond (.tmp 59)
 (.skip)
 (.exit 1)))
 (.block 2
 (.seq (.seq (.region [⟨(some 60), .move (.tmp 0), none, false⟩,
 ⟨(some 61), .move (.tmp 8), none, false⟩,
 ⟨(some 62), .indexStr (.tmp 60) (.tmp 61), none, false⟩,
 ⟨(some 63), .move (.tmp 6), none, false⟩,
 ⟨(some 64), .bin .neq .other false (.tmp 62) (.tmp 63), none, false⟩] false)
 (.cond (.tmp 64)
 (.seq (.region [⟨(some 65), .move (.tmp 0), none, false⟩,
 ⟨(some 66), .move (.tmp 8), none, false⟩,
 ⟨(some 67), .bin .add .other true (.tmp 66) (.av (.int .i64 1)), none, false⟩,
 ⟨(some 68), .move (.tmp 9), none, false⟩,
 ⟨(some 69), .slice .str (.tmp 65) (some (.tmp 67)) (some (.tmp 68)), none, false⟩,
 ⟨(some 70), .move (.tmp 6), none, false⟩,
 ⟨(some 71), .call (.av (.fn (.func 100) [] [])) [(.tmp 69), (.tmp 70)], none, false⟩,
 ⟨(some 11), .move (.tmp 71), none, false⟩] false)
 (.seq (.seq (.region [⟨(some 72), .move (.tmp 11), none, false⟩,
 ⟨(some 73), .bin .lss .other true (.tmp 72) (.av (.int .i64 0)), none, false⟩] false)
 (.cond (.tmp 73)
 (.seq (.region [⟨(some 4), .move (.av (.int .i64 (-1))), none, false⟩] false)
 (.ret))
 (.skip)))
 (.region [⟨(some 74), .move (.tmp 8), none, false⟩,
 ⟨(some 75), .move (.tmp 11), none, false⟩,
 ⟨(some 76), .bin .add .other true (.tmp 75) (.av (.int .i64 1)), none, false⟩,
 ⟨(some 77), .bin .add .other true (.tmp 74) (.tmp 76), none, false⟩,
 ⟨(some 8), .move (.tmp 77), none, false⟩] false)))
 (.skip)))
 (.seq (.seq (.region [⟨(some 78), .move (.tmp 0), none, false⟩,
 ⟨(some 79), .move (.tmp 8), none, false⟩,
 ⟨(some 80), .bin .add .other true (.tmp 79) (.av (.int .i64 1)), none, false⟩,
 ⟨(some 81), .indexStr (.tmp 78) (.tmp 80), none, false⟩,
 ⟨(some 82), .move (.tmp 7), none, false⟩,
 ⟨(some 83), .bin .eql .other false (.tmp 81) (.tmp 82), none, false⟩,
 ⟨(some 84), .move (.tmp 83), none, false⟩,
 ⟨(some 85), .move (.tmp 0), (some (84, true)), false⟩,
 ⟨(some 86), .move (.tmp 8), (some (84, true)), false⟩,
 ⟨(some 87), .move (.tmp 8), (some (84, true)), false⟩,
 ⟨(some 88), .move (.tmp 5), (some (84, true)), false⟩,
 ⟨(some 89), .bin .add .other true (.tmp 87) (.tmp 88), (some (84, true)), false⟩,
 ⟨(some 90), .slice .str (.tmp 85) (some (.tmp 86)) (some (.tmp 89)), (some (84, true)), false⟩,
 ⟨(some 91), .move (.tmp 1), (some (84, true)), false⟩,
 ⟨(some 92), .bin .eql .other false (.tmp 90) (.tmp 91), (some (84, true)), false⟩,
 ⟨(some 93), .pick (.tmp 84) (.tmp 92) (.av (.bool false)), none, false⟩] false)
 (.cond (.tmp 93)
 (.seq (.region [⟨(some 94), .move (.tmp 8), none, false⟩,
 ⟨(some 4), .move (.tmp 94), none, false⟩] false)
 (.ret))
 (.skip)))
 (.seq (.region [⟨(some 95), .move (.tmp 8), none, false⟩,
 ⟨(some 96), .bin .add .other true (.tmp 95) (.av (.int .i64 1)), none, false⟩,
 ⟨(some 8), .move (.tmp 96), none, false⟩] false)
 (.seq (.region [⟨(some 97), .move (.tmp 10), none, false⟩,
 ⟨(some 98), .bin .add .other true (.tmp 97) (.av (.int .i64 1)), none, false⟩,
 ⟨(some 10), .move (.tmp 98), none, false⟩] false)
 (.seq (.region [⟨(some 99), .move (.tmp 5), none, false⟩,
 ⟨(some 100), .load none (.av (.lit (.pointer (some ⟨1, 0, none⟩)))), none, false⟩,
 ⟨(some 101), .bin .leq .other true (.tmp 99) (.tmp 100), none, false⟩,
 ⟨(some 102), .move (.tmp 101), none, false⟩,
 ⟨(some 103), .move (.tmp 10), (some (102, true)), false⟩,
 ⟨(some 104), .move (.tmp 8), (some (102, true)), false⟩,
 ⟨(some 105), .call (.av (.fn (.func 153) [] [])) [(.tmp 104)], (some (102, true)), false⟩,
 ⟨(some 106), .bin .gtr .other true (.tmp 103) (.tmp 105), (some (102, true)), false⟩,
 ⟨(some 107), .pick (.tmp 102) (.tmp 106) (.av (.bool false)), none, false⟩] false)
 (.cond (.tmp 107)
 (.seq (.region [⟨(some 108), .move (.tmp 0), none, false⟩,
 ⟨(some 109), .move (.tmp 8), none, false⟩,
 ⟨(some 110), .slice .str (.tmp 108) (some (.tmp 109)) none, none, false⟩,
 ⟨(some 111), .move (.tmp 1), none, false⟩,
 ⟨(some 112), .call (.av (.fn (.func 154) [] [])) [(.tmp 110), (.tmp 111)], none, false⟩,
 ⟨(some 12), .move (.tmp 112), none, false⟩] false)
 (.seq (.seq (.region [⟨(some 113), .move (.tmp 12), none, false⟩,
 ⟨(some 114), .bin .geq .other true (.tmp 113) (.av (.int .i64 0)), none, false⟩] false)
 (.cond (.tmp 114)
 (.seq (.region [⟨(some 115), .move (.tmp 12), none, false⟩,
 ⟨(some 116), .move (.tmp 8), none, false⟩,
 ⟨(some 117), .bin .add .other true (.tmp 115) (.tmp 116), none, false⟩,
 ⟨(some 4), .move (.tmp 117), none, false⟩] false)
 (.ret))
 (.skip)))
 (.seq (.region [⟨(some 4), .move (.av (.int .i64 (-1))), none, false⟩] false)
 (.ret))))
 (.seq (.region [⟨(some 118), .move (.tmp 5), none, false⟩,
 ⟨(some 119), .load none (.av (.lit (.pointer (some ⟨1, 0, none⟩)))), none, false⟩,
 ⟨(some 120), .bin .gtr .other true (.tmp 118) (.tmp 119), none, false⟩,
 ⟨(some 121), .move (.tmp 120), none, false⟩,
 ⟨(some 122), .move (.tmp 10), (some (121, true)), false⟩,
 ⟨(some 123), .move (.tmp 8), (some (121, true)), false⟩,
 ⟨(some 124), .bin .shr .other true (.tmp 123) (.av (.int .u64 4)), (some (121, true)), false⟩,
 ⟨(some 125), .bin .add .other true (.av (.int .i64 4)) (.tmp 124), (some (121, true)), false⟩,
 ⟨(some 126), .bin .geq .other true (.tmp 122) (.tmp 125), (some (121, true)), false⟩,
 ⟨(some 127), .pick (.tmp 121) (.tmp 126) (.av (.bool false)), none, false⟩,
 ⟨(some 128), .move (.tmp 127), none, false⟩,
 ⟨(some 129), .move (.tmp 8), (some (128, true)), false⟩,
 ⟨(some 130), .move (.tmp 9), (some (128, true)), false⟩,
 ⟨(some 131), .bin .lss .other true (.tmp 129) (.tmp 130), (some (128, true)), false⟩,
 ⟨(some 132), .pick (.tmp 128) (.tmp 131) (.av (.bool false)), none, false⟩] false)
 (.cond (.tmp 132)
 (.seq (.region [⟨(some 133), .move (.tmp 0), none, false⟩,
 ⟨(some 134), .move (.tmp 8), none, false⟩,
 ⟨(some 135), .slice .str (.tmp 133) (some (.tmp 134)) none, none, false⟩,
 ⟨(some 136), .move (.tmp 1), none, false⟩,
 ⟨(some 137), .call (.av (.fn (.func 170) [] [])) [(.tmp 135), (.tmp 136)], none, false⟩,
 ⟨(some 13), .move (.tmp 137), none, false⟩] false)
 (.seq (.seq (.region [⟨(some 138), .move (.tmp 13), none, false⟩,
 ⟨(some 139), .bin .lss .other true (.tmp 138) (.av (.int .i64 0)), none, false⟩] false)
 (.cond (.tmp 139)
 (.seq (.region [⟨(some 4), .move (.av (.int .i64 (-1))), none, false⟩] false)
 (.ret))
 (.skip)))
 (.seq (.region [⟨(some 140), .move (.tmp 8), none, false⟩,
 ⟨(some 141), .move (.tmp 13), none, false⟩,
 ⟨(some 142), .bin .add .other true (.tmp 140) (.tmp 141), none, false⟩,
 ⟨(some 4), .move (.tmp 142), none, false⟩] false)
 (.ret))))
 (.skip)))))))))))))
 (.seq (.region [⟨(some 4), .move (.av (.int .i64 (-1))), none, false⟩] false)
 (.ret))))))))))⟩
/-- internal/stringslite.TrimPrefix -/
def ac166 : AF := ⟨13, [.tmp 4],
 .seq (.region [⟨(some 4), .move (.av (.str [])), none, false⟩] false)
 (.seq (.seq (.region [⟨(some 5), .move (.tmp 0), none, false⟩,
 ⟨(some 6), .move (.tmp 1), none, false⟩,
 ⟨(some 7), .call (.av (.fn (.func 121) [] [])) [(.tmp 5), (.tmp 6)], none, false⟩] false)
 (.cond (.tmp 7)
 (.seq (.region [⟨(some 8), .move (.tmp 0), none, false⟩,
 ⟨(some 9), .move (.tmp 1), none, false⟩,
 ⟨(some 10), .len .str (.tmp 9), none, false⟩,
 ⟨(some 11), .slice .str (.tmp 8) (some (.tmp 10)) none, none, false⟩,
 ⟨(some 4), .move (.tmp 11), none, false⟩] false)
 (.ret))
 (.skip)))
 (.seq (.region [⟨(some 12), .move (.tmp 0), none, false⟩,
 ⟨(some 4), .move (.tmp 12), none, false⟩] false)
 (.ret)))⟩
/-- strings.trimLeftASCII -/
def ac168 : AF := ⟨16, [.tmp 4],
 .seq (.region [⟨(some 4), .move (.av (.str [])), none, false⟩] false)
 (.seq (.block 0
 (.loop
 (.seq (.seq (.region [⟨(some 5), .move (.tmp 0), none, false⟩,
 ⟨(some 6), .len .str (.tmp 5), none, false⟩,
 ⟨(some 7), .bin .gtr .other true (.tmp 6) (.av (.int .i64 0)), none, false⟩] false)
 (.cond (.tmp 7)
 (.skip)
 (.exit 0)))
 (.block 1
 (.seq (.seq (.region [⟨(some 8), .move (.tmp 1), none, false⟩,
 ⟨(some 9), .move (.tmp 0), none, false⟩,
 ⟨(some 10), .indexStr (.tmp 9) (.av (.int .i64 0)), none, false⟩,
 ⟨(some 11), .call (.av (.fn (.func 126) [] [])) [(.tmp 8), (.tmp 10)], none, false⟩,
 ⟨(some 12), .un .not false (.tmp 11), none, false⟩] false)
 (.cond (.tmp 12)
 (.exit 0)
 (.skip)))
 (.region [⟨(some 13), .move (.tmp 0), none, false⟩,
 ⟨(some 14), .slice .str (.tmp 13) (some (.av (.int .i64 1))) none, none, false⟩,
 ⟨(some 0), .move (.tmp 14), none, false⟩] false))))))
 (.seq (.region [⟨(some 15), .move (.tmp 0), none, false⟩,
 ⟨(some 4), .move (.tmp 15), none, false⟩] false)
 (.ret)))⟩
end Ink.D
