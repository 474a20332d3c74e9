import Derived.Test.YtipdgghfkdlfmaaDoorInkBB
import Derived.Test.YtipdgghfkdlfmaaDoorPLexA
import Derived.Test.YtipdgghfkdlfmaaDoorPObj
import Derived.Test.YtipdgghfkdlfmaaDoorInkE
import Derived.Test.YtipdgghfkdlfmaaDoorInkF
set_option linter.all false
namespace Ink.D
open Go
/-- slices.Clone[[]inkstand/api.Entry,inkstand/api.Entry] -/
def ac55 : AF := ⟨8, [.tmp 2],
 .seq (.region [⟨(some 2), .move (.av (.lit (.slice none 0 0))), none, false⟩] false)
 (.seq (.seq (.region [⟨(some 3), .move (.tmp 0), none, false⟩,
 ⟨(some 4), .bin .eql .slice false (.tmp 3) (.av (.lit (.slice none 0 0))), none, false⟩] false)
 (.cond (.tmp 4)
 (.seq (.region [⟨(some 2), .move (.av (.lit (.slice none 0 0))), none, false⟩] false)
 (.ret))
 (.skip)))
 (.seq (.region [⟨(some 5), .buildSlice true 55 7 0 [(.str []), (.int .i64 0), (.int .i64 0), (.int .i64 0), (.str []), (.lit (.slice none 0 0)), (.lit (.slice none 0 0))] [], none, false⟩,
 ⟨(some 6), .move (.tmp 0), none, false⟩,
 ⟨(some 7), .append 55 7 104 [(.str []), (.int .i64 0), (.int .i64 0), (.int .i64 0), (.str []), (.lit (.slice none 0 0)), (.lit (.slice none 0 0))] (.tmp 5) (.tmp 6), none, false⟩,
 ⟨(some 2), .move (.tmp 7), none, false⟩] false)
 (.ret)))⟩
/-- inkstand/cos.Set -/
def ac33 : AF := ⟨45, [.cell 6 (some 6)],
 .seq (.region [⟨(some 3), .box 47 (.tmp 0), none, false⟩,
 ⟨(some 4), .box 9 (.tmp 1), none, false⟩,
 ⟨(some 5), .box 47 (.tmp 2), none, false⟩,
 ⟨(some 6), .alloc 47 [(.int .i64 0), (.int .i64 0), (.int .i64 0), (.str []), (.lit (.slice none 0 0)), (.lit (.slice none 0 0))], none, false⟩] false)
 (.seq (.seq (.region [⟨(some 9), .load (some 6) (.tmp 3), none, false⟩,
 ⟨(some 10), .call (.av (.fn (.func 52) [] [])) [(.tmp 9)], none, false⟩,
 ⟨(some 11), .un .not false (.tmp 10), none, false⟩] false)
 (.cond (.tmp 11)
 (.seq (.region [⟨(some 12), .load (some 6) (.tmp 3), none, false⟩,
 ⟨none, .store 6 (.tmp 6) (.tmp 12), none, false⟩] false)
 (.ret))
 (.skip)))
 (.seq (.region [⟨(some 13), .fieldAddr 5 (.tmp 3), none, false⟩,
 ⟨(some 14), .load none (.tmp 13), none, false⟩,
 ⟨(some 15), .load none (.tmp 4), none, false⟩,
 ⟨(some 16), .call (.av (.fn (.func 53) [] [])) [(.tmp 14), (.tmp 15)], none, false⟩,
 ⟨(some 7), .move (.tmp 16), none, false⟩] false)
 (.seq (.region [⟨(some 17), .fieldAddr 5 (.tmp 3), none, false⟩,
 ⟨(some 18), .load none (.tmp 17), none, false⟩,
 ⟨(some 19), .call (.av (.fn (.func 55) [] [])) [(.tmp 18)], none, false⟩,
 ⟨(some 20), .mkFunc (.func 56) [] [(.tmp 4)], none, false⟩,
 ⟨(some 21), .call (.av (.fn (.func 54) [] [])) [(.tmp 19), (.tmp 20)], none, false⟩,
 ⟨(some 8), .move (.tmp 21), none, false⟩] false)
 (.seq (.block 0
 (.seq (.region [⟨(some 30), .fieldAddr 0 (.tmp 5), none, false⟩,
 ⟨(some 31), .load none (.tmp 30), none, false⟩,
 ⟨(some 32), .bin .eql .other true (.tmp 31) (.av (.int .i64 0)), none, false⟩,
 ⟨(some 29), .move (.tmp 32), none, false⟩] false)
 (.cond (.tmp 29)
 (.skip)
 (.seq (.region [⟨(some 34), .move (.tmp 7), none, false⟩,
 ⟨(some 35), .bin .lss .other true (.tmp 34) (.av (.int .i64 0)), none, false⟩,
 ⟨(some 33), .move (.tmp 35), none, false⟩] false)
 (.cond (.tmp 33)
 (.region [⟨(some 36), .move (.tmp 8), none, false⟩,
 ⟨(some 37), .load none (.tmp 4), none, false⟩,
 ⟨(some 38), .load (some 6) (.tmp 5), none, false⟩,
 ⟨(some 39), .build [(.str []), (.int .i64 0), (.int .i64 0), (.int .i64 0), (.str []), (.lit (.slice none 0 0)), (.lit (.slice none 0 0))] [(0, 1, (.tmp 37)), (1, 6, (.tmp 38))], none, false⟩,
 ⟨(some 40), .buildSlice false 55 7 1 [(.str []), (.int .i64 0), (.int .i64 0), (.int .i64 0), (.str []), (.lit (.slice none 0 0)), (.lit (.slice none 0 0))] [(0, (.tmp 39))], none, false⟩,
 ⟨(some 41), .append 55 7 104 [(.str []), (.int .i64 0), (.int .i64 0), (.int .i64 0), (.str []), (.lit (.slice none 0 0)), (.lit (.slice none 0 0))] (.tmp 36) (.tmp 40), none, false⟩,
 ⟨(some 8), .move (.tmp 41), none, false⟩] false)
 (.region [⟨(some 22), .move (.tmp 8), none, false⟩,
 ⟨(some 23), .move (.tmp 7), none, false⟩,
 ⟨(some 24), .load none (.tmp 4), none, false⟩,
 ⟨(some 25), .load (some 6) (.tmp 5), none, false⟩,
 ⟨(some 26), .build [(.str []), (.int .i64 0), (.int .i64 0), (.int .i64 0), (.str []), (.lit (.slice none 0 0)), (.lit (.slice none 0 0))] [(0, 1, (.tmp 24)), (1, 6, (.tmp 25))], none, false⟩,
 ⟨(some 27), .buildSlice false 55 7 1 [(.str []), (.int .i64 0), (.int .i64 0), (.int .i64 0), (.str []), (.lit (.slice none 0 0)), (.lit (.slice none 0 0))] [(0, (.tmp 26))], none, false⟩,
 ⟨(some 28), .call (.av (.fn (.func 57) [] [])) [(.tmp 22), (.tmp 23), (.tmp 27)], none, false⟩,
 ⟨(some 8), .move (.tmp 28), none, false⟩] false))))))
 (.seq (.region [⟨(some 42), .move (.tmp 8), none, false⟩,
 ⟨(some 43), .fieldAddr 5 (.tmp 3), none, false⟩,
 ⟨none, .store 1 (.tmp 43) (.tmp 42), none, false⟩] false)
 (.seq (.region [⟨(some 44), .load (some 6) (.tmp 3), none, false⟩,
 ⟨none, .store 6 (.tmp 6) (.tmp 44), none, false⟩] false)
 (.ret)))))))⟩
/-- inkstand/cos.place -/
def ac53 : AF := ⟨8, [.tmp 4],
 .seq (.region [⟨(some 3), .box 9 (.tmp 1), none, false⟩,
 ⟨(some 4), .move (.av (.int .i64 0)), none, false⟩] false)
 (.seq (.region [⟨(some 5), .move (.tmp 0), none, false⟩,
 ⟨(some 6), .mkFunc (.func 81) [] [(.tmp 3)], none, false⟩,
 ⟨(some 7), .call (.av (.fn (.func 80) [] [])) [(.tmp 5), (.tmp 6)], none, false⟩,
 ⟨(some 4), .move (.tmp 7), none, false⟩] false)
 (.ret))⟩
/-- slices.IndexFunc[[]inkstand/api.Entry,inkstand/api.Entry] -/
def ac80 : AF := ⟨19, [.tmp 4],
 .seq (.region [⟨(some 4), .move (.av (.int .i64 0)), none, false⟩] false)
 (.seq (.seq (.region [⟨(some 6), .move (.tmp 0), none, false⟩,
 ⟨(some 7), .len (.slice 7) (.tmp 6), none, false⟩,
 ⟨(some 8), .move (.av (.int .i64 0)), none, false⟩] false)
 (.block 0
 (.loop
 (.seq (.region [⟨(some 9), .bin .lss .other true (.tmp 8) (.tmp 7), none, false⟩] false)
 (.seq (.cond (.tmp 9)
 (.skip)
 (.exit 0))
 (.seq (.block 1
 (.seq (.region [⟨(some 10), .move (.tmp 8), none, false⟩,
 ⟨(some 5), .move (.tmp 10), none, false⟩] false)
 (.seq (.region [⟨(some 11), .move (.tmp 1), none, false⟩,
 ⟨(some 12), .move (.tmp 0), none, false⟩,
 ⟨(some 13), .move (.tmp 5), none, false⟩,
 ⟨(some 14), .indexAddr none 7 (.tmp 12) (.tmp 13), none, false⟩,
 ⟨(some 15), .load (some 7) (.tmp 14), none, false⟩,
 ⟨(some 16), .call (.tmp 11) [(.tmp 15)], none, false⟩] false)
 (.cond (.tmp 16)
 (.seq (.region [⟨(some 17), .move (.tmp 5), none, false⟩,
 ⟨(some 4), .move (.tmp 17), none, false⟩] false)
 (.ret))
 (.skip)))))
 (.region [⟨(some 18), .bin .add .other true (.tmp 8) (.av (.int .i64 1)), none, false⟩,
 ⟨(some 8), .move (.tmp 18), none, false⟩] false)))))))
 (.seq (.region [⟨(some 4), .move (.av (.int .i64 (-1))), none, false⟩] false)
 (.ret)))⟩
/-- inkstand/cos.place$1 -/
def ac81 : AF := ⟨8, [.tmp 3],
 .seq (.region [⟨(some 2), .box 55 (.tmp 0), none, false⟩,
 ⟨(some 3), .move (.av (.bool false)), none, false⟩] false)
 (.seq (.region [⟨(some 4), .fieldAddr 0 (.tmp 2), none, false⟩,
 ⟨(some 5), .load none (.tmp 4), none, false⟩,
 ⟨(some 6), .load none (.tmp 1), none, false⟩,
 ⟨(some 7), .bin .eql .other false (.tmp 5) (.tmp 6), none, false⟩,
 ⟨(some 3), .move (.tmp 7), none, false⟩] false)
 (.ret))⟩
/-- inkstand/cos.Set$1 -/
def ac56 : AF := ⟨8, [.tmp 3],
 .seq (.region [⟨(some 2), .box 55 (.tmp 0), none, false⟩,
 ⟨(some 3), .move (.av (.bool false)), none, false⟩] false)
 (.seq (.region [⟨(some 4), .fieldAddr 0 (.tmp 2), none, false⟩,
 ⟨(some 5), .load none (.tmp 4), none, false⟩,
 ⟨(some 6), .load none (.tmp 1), none, false⟩,
 ⟨(some 7), .bin .eql .other false (.tmp 5) (.tmp 6), none, false⟩,
 ⟨(some 3), .move (.tmp 7), none, false⟩] false)
 (.ret))⟩
/-- inkstand/cos.Same -/
def ac50 : AF := ⟨62, [.tmp 4],
 .seq (.region [⟨(some 2), .box 47 (.tmp 0), none, false⟩,
 ⟨(some 3), .box 47 (.tmp 1), none, false⟩,
 ⟨(some 4), .move (.av (.bool false)), none, false⟩] false)
 (.seq (.seq (.region [⟨(some 7), .fieldAddr 0 (.tmp 2), none, false⟩,
 ⟨(some 8), .load none (.tmp 7), none, false⟩,
 ⟨(some 9), .bin .eql .other true (.tmp 8) (.av (.int .i64 2)), none, false⟩] false)
 (.cond (.tmp 9)
 (.region [⟨(some 10), .fieldAddr 1 (.tmp 3), none, false⟩,
 ⟨(some 11), .load none (.tmp 10), none, false⟩,
 ⟨(some 12), .fieldAddr 1 (.tmp 2), none, false⟩,
 ⟨none, .store 1 (.tmp 12) (.tmp 11), none, false⟩] false)
 (.skip)))
 (.seq (.region [⟨(some 13), .fieldAddr 0 (.tmp 2), none, false⟩,
 ⟨(some 14), .load none (.tmp 13), none, false⟩,
 ⟨(some 15), .fieldAddr 0 (.tmp 3), none, false⟩,
 ⟨(some 16), .load none (.tmp 15), none, false⟩,
 ⟨(some 17), .bin .eql .other true (.tmp 14) (.tmp 16), none, false⟩,
 ⟨(some 18), .move (.tmp 17), none, false⟩,
 ⟨(some 19), .fieldAddr 1 (.tmp 2), (some (18, true)), false⟩,
 ⟨(some 20), .load none (.tmp 19), (some (18, true)), false⟩,
 ⟨(some 21), .fieldAddr 1 (.tmp 3), (some (18, true)), false⟩,
 ⟨(some 22), .load none (.tmp 21), (some (18, true)), false⟩,
 ⟨(some 23), .bin .eql .other true (.tmp 20) (.tmp 22), (some (18, true)), false⟩,
 ⟨(some 24), .pick (.tmp 18) (.tmp 23) (.av (.bool false)), none, false⟩,
 ⟨(some 25), .move (.tmp 24), none, false⟩,
 ⟨(some 26), .fieldAddr 2 (.tmp 2), (some (25, true)), false⟩,
 ⟨(some 27), .load none (.tmp 26), (some (25, true)), false⟩,
 ⟨(some 28), .fieldAddr 2 (.tmp 3), (some (25, true)), false⟩,
 ⟨(some 29), .load none (.tmp 28), (some (25, true)), false⟩,
 ⟨(some 30), .bin .eql .other true (.tmp 27) (.tmp 29), (some (25, true)), false⟩,
 ⟨(some 31), .pick (.tmp 25) (.tmp 30) (.av (.bool false)), none, false⟩,
 ⟨(some 32), .move (.tmp 31), none, false⟩,
 ⟨(some 33), .fieldAddr 3 (.tmp 2), (some (32, true)), false⟩,
 ⟨(some 34), .load none (.tmp 33), (some (32, true)), false⟩,
 ⟨(some 35), .fieldAddr 3 (.tmp 3), (some (32, true)), false⟩,
 ⟨(some 36), .load none (.tmp 35), (some (32, true)), false⟩,
 ⟨(some 37), .bin .eql .other false (.tmp 34) (.tmp 36), (some (32, true)), false⟩,
 ⟨(some 38), .pick (.tmp 32) (.tmp 37) (.av (.bool false)), none, false⟩,
 ⟨(some 5), .move (.tmp 38), none, false⟩] false)
 (.seq (.region [⟨(some 39), .mkFunc (.func 74) [] [(.tmp 2)], none, false⟩,
 ⟨(some 6), .move (.tmp 39), none, false⟩] false)
 (.seq (.region [⟨(some 40), .move (.tmp 5), none, false⟩,
 ⟨(some 41), .move (.tmp 40), none, false⟩,
 ⟨(some 42), .fieldAddr 4 (.tmp 2), (some (41, true)), false⟩,
 ⟨(some 43), .load none (.tmp 42), (some (41, true)), false⟩,
 ⟨(some 44), .fieldAddr 4 (.tmp 3), (some (41, true)), false⟩,
 ⟨(some 45), .load none (.tmp 44), (some (41, true)), false⟩,
 ⟨(some 46), .call (.av (.fn (.func 75) [] [])) [(.tmp 43), (.tmp 45), (.av (.fn (.func 50) [] []))], (some (41, true)), false⟩,
 ⟨(some 47), .pick (.tmp 41) (.tmp 46) (.av (.bool false)), none, false⟩,
 ⟨(some 48), .move (.tmp 47), none, false⟩,
 ⟨(some 49), .fieldAddr 5 (.tmp 2), (some (48, true)), false⟩,
 ⟨(some 50), .load none (.tmp 49), (some (48, true)), false⟩,
 ⟨(some 51), .fieldAddr 5 (.tmp 3), (some (48, true)), false⟩,
 ⟨(some 52), .load none (.tmp 51), (some (48, true)), false⟩,
 ⟨(some 53), .call (.av (.fn (.func 76) [] [])) [(.tmp 50), (.tmp 52)], (some (48, true)), false⟩,
 ⟨(some 54), .pick (.tmp 48) (.tmp 53) (.av (.bool false)), none, false⟩,
 ⟨(some 55), .move (.tmp 54), none, false⟩,
 ⟨(some 56), .fieldAddr 5 (.tmp 3), (some (55, true)), false⟩,
 ⟨(some 57), .load none (.tmp 56), (some (55, true)), false⟩,
 ⟨(some 58), .move (.tmp 6), (some (55, true)), false⟩,
 ⟨(some 59), .call (.av (.fn (.func 77) [] [])) [(.tmp 57), (.tmp 58)], (some (55, true)), false⟩,
 ⟨(some 60), .un .not false (.tmp 59), (some (55, true)), false⟩,
 ⟨(some 61), .pick (.tmp 55) (.tmp 60) (.av (.bool false)), none, false⟩,
 ⟨(some 4), .move (.tmp 61), none, false⟩] false)
 (.ret)))))⟩
/-- inkstand/cos.Same$1 -/
def ac74 : AF := ⟨10, [.tmp 3],
 .seq (.region [⟨(some 2), .box 55 (.tmp 0), none, false⟩,
 ⟨(some 3), .move (.av (.bool false)), none, false⟩] false)
 (.seq (.region [⟨(some 4), .fieldAddr 5 (.tmp 1), none, false⟩,
 ⟨(some 5), .load none (.tmp 4), none, false⟩,
 ⟨(some 6), .fieldAddr 0 (.tmp 2), none, false⟩,
 ⟨(some 7), .load none (.tmp 6), none, false⟩,
 ⟨(some 8), .call (.av (.fn (.func 53) [] [])) [(.tmp 5), (.tmp 7)], none, false⟩,
 ⟨(some 9), .bin .lss .other true (.tmp 8) (.av (.int .i64 0)), none, false⟩,
 ⟨(some 3), .move (.tmp 9), none, false⟩] false)
 (.ret))⟩
/-- slices.EqualFunc[[]inkstand/api.Obj,[]inkstand/api.Obj,inkstand/api.Obj,inkstand/api.Obj] -/
def ac75 : AF := ⟨32, [.tmp 6],
 .seq (.region [⟨(some 6), .move (.av (.bool false)), none, false⟩] false)
 (.seq (.seq (.region [⟨(some 10), .move (.tmp 0), none, false⟩,
 ⟨(some 11), .len (.slice 6) (.tmp 10), none, false⟩,
 ⟨(some 12), .move (.tmp 1), none, false⟩,
 ⟨(some 13), .len (.slice 6) (.tmp 12), none, false⟩,
 ⟨(some 14), .bin .neq .other true (.tmp 11) (.tmp 13), none, false⟩] false)
 (.cond (.tmp 14)
 (.seq (.region [⟨(some 6), .move (.av (.bool false)), none, false⟩] false)
 (.ret))
 (.skip)))
 (.seq (.seq (.region [⟨(some 15), .move (.tmp 0), none, false⟩,
 ⟨(some 16), .len (.slice 6) (.tmp 15), none, false⟩,
 ⟨(some 17), .move (.av (.int .i64 0)), none, false⟩] false)
 (.block 0
 (.loop
 (.seq (.region [⟨(some 18), .bin .lss .other true (.tmp 17) (.tmp 16), none, false⟩] false)
 (.seq (.cond (.tmp 18)
 (.skip)
 (.exit 0))
 (.seq (.block 1
 (.seq (.region [⟨(some 19), .move (.tmp 17), none, false⟩,
 ⟨(some 20), .indexAddr none 6 (.tmp 15) (.tmp 17), none, false⟩,
 ⟨(some 21), .load (some 6) (.tmp 20), none, false⟩,
 ⟨(some 8), .alloc 47 [(.int .i64 0), (.int .i64 0), (.int .i64 0), (.str []), (.lit (.slice none 0 0)), (.lit (.slice none 0 0))], none, false⟩,
 ⟨(some 7), .move (.tmp 19), none, false⟩,
 ⟨none, .store 6 (.tmp 8) (.tmp 21), none, false⟩] false)
 (.seq (.region [⟨(some 22), .move (.tmp 1), none, false⟩,
 ⟨(some 23), .move (.tmp 7), none, false⟩,
 ⟨(some 24), .indexAddr none 6 (.tmp 22) (.tmp 23), none, false⟩,
 ⟨(some 25), .load (some 6) (.tmp 24), none, false⟩,
 ⟨(some 9), .alloc 47 [(.int .i64 0), (.int .i64 0), (.int .i64 0), (.str []), (.lit (.slice none 0 0)), (.lit (.slice none 0 0))], none, false⟩,
 ⟨none, .store 6 (.tmp 9) (.tmp 25), none, false⟩] false)
 (.seq (.region [⟨(some 26), .move (.tmp 2), none, false⟩,
 ⟨(some 27), .load (some 6) (.tmp 8), none, false⟩,
 ⟨(some 28), .load (some 6) (.tmp 9), none, false⟩,
 ⟨(some 29), .call (.tmp 26) [(.tmp 27), (.tmp 28)], none, false⟩,
 ⟨(some 30), .un .not false (.tmp 29), none, false⟩] false)
 (.cond (.tmp 30)
 (.seq (.region [⟨(some 6), .move (.av (.bool false)), none, false⟩] false)
 (.ret))
 (.skip))))))
 (.region [⟨(some 31), .bin .add .other true (.tmp 17) (.av (.int .i64 1)), none, false⟩,
 ⟨(some 17), .move (.tmp 31), none, false⟩] false)))))))
 (.seq (.region [⟨(some 6), .move (.av (.bool true)), none, false⟩] false)
 (.ret))))⟩
/-- inkstand/cos.holds -/
def ac76 : AF := ⟨39, [.tmp 4],
 .seq (.region [⟨(some 4), .move (.av (.bool false)), none, false⟩] false)
 (.seq (.seq (.region [⟨(some 8), .move (.tmp 0), none, false⟩,
 ⟨(some 9), .len (.slice 7) (.tmp 8), none, false⟩,
 ⟨(some 10), .move (.av (.int .i64 0)), none, false⟩] false)
 (.block 0
 (.loop
 (.seq (.region [⟨(some 11), .bin .lss .other true (.tmp 10) (.tmp 9), none, false⟩] false)
 (.seq (.cond (.tmp 11)
 (.skip)
 (.exit 0))
 (.seq (.block 1
 (.seq (.region [⟨(some 12), .move (.tmp 10), none, false⟩,
 ⟨(some 13), .indexAddr none 7 (.tmp 8) (.tmp 10), none, false⟩,
 ⟨(some 14), .load (some 7) (.tmp 13), none, false⟩,
 ⟨(some 6), .alloc 55 [(.str []), (.int .i64 0), (.int .i64 0), (.int .i64 0), (.str []), (.lit (.slice none 0 0)), (.lit (.slice none 0 0))], none, false⟩,
 ⟨(some 5), .move (.tmp 12), none, false⟩,
 ⟨none, .store 7 (.tmp 6) (.tmp 14), none, false⟩] false)
 (.seq (.seq (.region [⟨(some 15), .move (.tmp 0), none, false⟩,
 ⟨(some 16), .fieldAddr 0 (.tmp 6), none, false⟩,
 ⟨(some 17), .load none (.tmp 16), none, false⟩,
 ⟨(some 18), .call (.av (.fn (.func 53) [] [])) [(.tmp 15), (.tmp 17)], none, false⟩,
 ⟨(some 19), .move (.tmp 5), none, false⟩,
 ⟨(some 20), .bin .neq .other true (.tmp 18) (.tmp 19), none, false⟩] false)
 (.cond (.tmp 20)
 (.exit 1)
 (.skip)))
 (.seq (.region [⟨(some 21), .move (.tmp 1), none, false⟩,
 ⟨(some 22), .fieldAddr 0 (.tmp 6), none, false⟩,
 ⟨(some 23), .load none (.tmp 22), none, false⟩,
 ⟨(some 24), .call (.av (.fn (.func 53) [] [])) [(.tmp 21), (.tmp 23)], none, false⟩,
 ⟨(some 7), .move (.tmp 24), none, false⟩] false)
 (.seq (.region [⟨(some 25), .move (.tmp 7), none, false⟩,
 ⟨(some 26), .bin .lss .other true (.tmp 25) (.av (.int .i64 0)), none, false⟩,
 ⟨(some 27), .move (.tmp 26), none, false⟩,
 ⟨(some 28), .fieldAddr 1 (.tmp 6), (some (27, false)), false⟩,
 ⟨(some 29), .load (some 6) (.tmp 28), (some (27, false)), false⟩,
 ⟨(some 30), .move (.tmp 1), (some (27, false)), false⟩,
 ⟨(some 31), .move (.tmp 7), (some (27, false)), false⟩,
 ⟨(some 32), .indexAddr none 7 (.tmp 30) (.tmp 31), (some (27, false)), false⟩,
 ⟨(some 33), .fieldAddr 1 (.tmp 32), (some (27, false)), false⟩,
 ⟨(some 34), .load (some 6) (.tmp 33), (some (27, false)), false⟩,
 ⟨(some 35), .call (.av (.fn (.func 50) [] [])) [(.tmp 29), (.tmp 34)], (some (27, false)), false⟩,
 ⟨(some 36), .un .not false (.tmp 35), (some (27, false)), false⟩,
 ⟨(some 37), .pick (.tmp 27) (.av (.bool true)) (.tmp 36), none, false⟩] true)
 (.cond (.tmp 37)
 (.seq (.region [⟨(some 4), .move (.av (.bool false)), none, false⟩] false)
 (.ret))
 (.skip)))))))
 (.region [⟨(some 38), .bin .add .other true (.tmp 10) (.av (.int .i64 1)), none, false⟩,
 ⟨(some 10), .move (.tmp 38), none, false⟩] false)))))))
 (.seq (.region [⟨(some 4), .move (.av (.bool true)), none, false⟩] false)
 (.ret)))⟩
/-- slices.ContainsFunc[[]inkstand/api.Entry,inkstand/api.Entry] -/
def ac77 : AF := ⟨9, [.tmp 4],
 .seq (.region [⟨(some 4), .move (.av (.bool false)), none, false⟩] false)
 (.seq (.region [⟨(some 5), .move (.tmp 0), none, false⟩,
 ⟨(some 6), .move (.tmp 1), none, false⟩,
 ⟨(some 7), .call (.av (.fn (.func 80) [] [])) [(.tmp 5), (.tmp 6)], none, false⟩,
 ⟨(some 8), .bin .geq .other true (.tmp 7) (.av (.int .i64 0)), none, false⟩,
 ⟨(some 4), .move (.tmp 8), none, false⟩] false)
 (.ret))⟩
/-- inkstand/cos.Count -/
def ac32 : AF := ⟨34, [.tmp 2],
 .seq (.region [⟨(some 1), .box 47 (.tmp 0), none, false⟩,
 ⟨(some 2), .move (.av (.int .i64 0)), none, false⟩] false)
 (.seq (.region [⟨(some 3), .move (.av (.int .i64 1)), none, false⟩] false)
 (.seq (.seq (.region [⟨(some 8), .fieldAddr 4 (.tmp 1), none, false⟩,
 ⟨(some 9), .load none (.tmp 8), none, false⟩,
 ⟨(some 10), .len (.slice 6) (.tmp 9), none, false⟩,
 ⟨(some 11), .move (.av (.int .i64 0)), none, false⟩] false)
 (.block 0
 (.loop
 (.seq (.region [⟨(some 12), .bin .lss .other true (.tmp 11) (.tmp 10), none, false⟩] false)
 (.seq (.cond (.tmp 12)
 (.skip)
 (.exit 0))
 (.seq (.block 1
 (.seq (.region [⟨(some 13), .indexAddr none 6 (.tmp 9) (.tmp 11), none, false⟩,
 ⟨(some 14), .load (some 6) (.tmp 13), none, false⟩,
 ⟨(some 5), .alloc 47 [(.int .i64 0), (.int .i64 0), (.int .i64 0), (.str []), (.lit (.slice none 0 0)), (.lit (.slice none 0 0))], none, false⟩,
 ⟨none, .store 6 (.tmp 5) (.tmp 14), none, false⟩] false)
 (.region [⟨(some 15), .move (.tmp 3), none, false⟩,
 ⟨(some 16), .load (some 6) (.tmp 5), none, false⟩,
 ⟨(some 17), .call (.av (.fn (.func 32) [] [])) [(.tmp 16)], none, false⟩,
 ⟨(some 18), .bin .add .other true (.tmp 15) (.tmp 17), none, false⟩,
 ⟨(some 3), .move (.tmp 18), none, false⟩] false)))
 (.region [⟨(some 19), .bin .add .other true (.tmp 11) (.av (.int .i64 1)), none, false⟩,
 ⟨(some 11), .move (.tmp 19), none, false⟩] false)))))))
 (.seq (.seq (.region [⟨(some 20), .fieldAddr 5 (.tmp 1), none, false⟩,
 ⟨(some 21), .load none (.tmp 20), none, false⟩,
 ⟨(some 22), .len (.slice 7) (.tmp 21), none, false⟩,
 ⟨(some 23), .move (.av (.int .i64 0)), none, false⟩] false)
 (.block 2
 (.loop
 (.seq (.region [⟨(some 24), .bin .lss .other true (.tmp 23) (.tmp 22), none, false⟩] false)
 (.seq (.cond (.tmp 24)
 (.skip)
 (.exit 2))
 (.seq (.block 3
 (.seq (.region [⟨(some 25), .indexAddr none 7 (.tmp 21) (.tmp 23), none, false⟩,
 ⟨(some 26), .load (some 7) (.tmp 25), none, false⟩,
 ⟨(some 7), .alloc 55 [(.str []), (.int .i64 0), (.int .i64 0), (.int .i64 0), (.str []), (.lit (.slice none 0 0)), (.lit (.slice none 0 0))], none, false⟩,
 ⟨none, .store 7 (.tmp 7) (.tmp 26), none, false⟩] false)
 (.region [⟨(some 27), .move (.tmp 3), none, false⟩,
 ⟨(some 28), .fieldAddr 1 (.tmp 7), none, false⟩,
 ⟨(some 29), .load (some 6) (.tmp 28), none, false⟩,
 ⟨(some 30), .call (.av (.fn (.func 32) [] [])) [(.tmp 29)], none, false⟩,
 ⟨(some 31), .bin .add .other true (.tmp 27) (.tmp 30), none, false⟩,
 ⟨(some 3), .move (.tmp 31), none, false⟩] false)))
 (.region [⟨(some 32), .bin .add .other true (.tmp 23) (.av (.int .i64 1)), none, false⟩,
 ⟨(some 23), .move (.tmp 32), none, false⟩] false)))))))
 (.seq (.region [⟨(some 33), .move (.tmp 3), none, false⟩,
 ⟨(some 2), .move (.tmp 33), none, false⟩] false)
 (.ret)))))⟩
/-- inkstand/cos.Int -/
def ac34 : AF := ⟨15, [.cell 2 (some 6)],
 .seq (.region [⟨(some 2), .alloc 47 [(.int .i64 0), (.int .i64 0), (.int .i64 0), (.str []), (.lit (.slice none 0 0)), (.lit (.slice none 0 0))], none, false⟩] false)
 (.seq (.region [⟨(some 6), .move (.tmp 0), none, false⟩,
 ⟨(some 7), .call (.av (.fn (.func 58) [] [])) [(.tmp 6)], none, false⟩,
 ⟨(some 5), .move (.tmp 7), none, false⟩,
 ⟨(some 8), .extract (.tmp 5) 0, none, false⟩,
 ⟨(some 9), .extract (.tmp 5) 1, none, false⟩,
 ⟨(some 3), .move (.tmp 8), none, false⟩,
 ⟨(some 4), .move (.tmp 9), none, false⟩] false)
 (.seq (.seq (.region [⟨(some 10), .move (.tmp 4), none, false⟩,
 ⟨(some 11), .bin .neq .other true (.tmp 10) (.av (.int .i64 0)), none, false⟩] false)
 (.cond (.tmp 11)
 (.seq (.region [⟨(some 12), .build [(.int .i64 0), (.int .i64 0), (.int .i64 0), (.str []), (.lit (.slice none 0 0)), (.lit (.slice none 0 0))] [], none, false⟩,
 ⟨none, .store 6 (.tmp 2) (.tmp 12), none, false⟩] false)
 (.ret))
 (.skip)))
 (.seq (.region [⟨(some 13), .move (.tmp 3), none, false⟩,
 ⟨(some 14), .build [(.int .i64 0), (.int .i64 0), (.int .i64 0), (.str []), (.lit (.slice none 0 0)), (.lit (.slice none 0 0))] [(0, 1, (.av (.int .i64 2))), (1, 1, (.av (.int .i64 1))), (2, 1, (.tmp 13))], none, false⟩,
 ⟨none, .store 6 (.tmp 2) (.tmp 14), none, false⟩] false)
 (.ret))))⟩
/-- inkstand/cos.Get -/
def ac35 : AF := ⟨23, [.cell 4 (some 6)],
 .seq (.region [⟨(some 2), .box 47 (.tmp 0), none, false⟩,
 ⟨(some 4), .alloc 47 [(.int .i64 0), (.int .i64 0), (.int .i64 0), (.str []), (.lit (.slice none 0 0)), (.lit (.slice none 0 0))], none, false⟩] false)
 (.seq (.seq (.region [⟨(some 6), .load (some 6) (.tmp 2), none, false⟩,
 ⟨(some 7), .call (.av (.fn (.func 52) [] [])) [(.tmp 6)], none, false⟩,
 ⟨(some 8), .un .not false (.tmp 7), none, false⟩] false)
 (.cond (.tmp 8)
 (.seq (.region [⟨(some 9), .build [(.int .i64 0), (.int .i64 0), (.int .i64 0), (.str []), (.lit (.slice none 0 0)), (.lit (.slice none 0 0))] [], none, false⟩,
 ⟨none, .store 6 (.tmp 4) (.tmp 9), none, false⟩] false)
 (.ret))
 (.skip)))
 (.seq (.seq (.region [⟨(some 10), .fieldAddr 5 (.tmp 2), none, false⟩,
 ⟨(some 11), .load none (.tmp 10), none, false⟩,
 ⟨(some 12), .move (.tmp 1), none, false⟩,
 ⟨(some 13), .call (.av (.fn (.func 53) [] [])) [(.tmp 11), (.tmp 12)], none, false⟩,
 ⟨(some 5), .move (.tmp 13), none, false⟩] false)
 (.seq (.region [⟨(some 14), .move (.tmp 5), none, false⟩,
 ⟨(some 15), .bin .geq .other true (.tmp 14) (.av (.int .i64 0)), none, false⟩] false)
 (.cond (.tmp 15)
 (.seq (.region [⟨(some 16), .fieldAddr 5 (.tmp 2), none, false⟩,
 ⟨(some 17), .load none (.tmp 16), none, false⟩,
 ⟨(some 18), .move (.tmp 5), none, false⟩,
 ⟨(some 19), .indexAddr none 7 (.tmp 17) (.tmp 18), none, false⟩,
 ⟨(some 20), .fieldAddr 1 (.tmp 19), none, false⟩,
 ⟨(some 21), .load (some 6) (.tmp 20), none, false⟩,
 ⟨none, .store 6 (.tmp 4) (.tmp 21), none, false⟩] false)
 (.ret))
 (.skip))))
 (.seq (.region [⟨(some 22), .build [(.int .i64 0), (.int .i64 0), (.int .i64 0), (.str []), (.lit (.slice none 0 0)), (.lit (.slice none 0 0))] [], none, false⟩,
 ⟨none, .store 6 (.tmp 4) (.tmp 22), none, false⟩] false)
 (.ret))))⟩
/-- inkstand/inkstandlaw04.awake -/
def ac30 : AF := ⟨70, [.tmp 0],
 .seq (.region [⟨(some 0), .move (.av (.bool false)), none, false⟩] false)
 (.seq (.region [⟨(some 8), .call (.av (.fn (.func 31) [] [])) [(.av (.str [91, 49, 32, 48, 32, 82, 32, 47, 65, 93])), (.av (.int .i64 0))], none, false⟩,
 ⟨(some 7), .move (.tmp 8), none, false⟩,
 ⟨(some 9), .extract (.tmp 7) 0, none, false⟩,
 ⟨(some 10), .extract (.tmp 7) 1, none, false⟩,
 ⟨(some 11), .extract (.tmp 7) 2, none, false⟩,
 ⟨(some 1), .alloc 47 [(.int .i64 0), (.int .i64 0), (.int .i64 0), (.str []), (.lit (.slice none 0 0)), (.lit (.slice none 0 0))], none, false⟩,
 ⟨none, .store 6 (.tmp 1) (.tmp 9), none, false⟩,
 ⟨(some 2), .move (.tmp 10), none, false⟩,
 ⟨(some 3), .move (.tmp 11), none, false⟩] false)
 (.seq (.region [⟨(some 13), .call (.av (.fn (.func 31) [] [])) [(.av (.str [60, 60, 47, 65, 32, 110, 117, 108, 108, 62, 62])), (.av (.int .i64 0))], none, false⟩,
 ⟨(some 12), .move (.tmp 13), none, false⟩,
 ⟨(some 14), .extract (.tmp 12) 0, none, false⟩,
 ⟨(some 15), .extract (.tmp 12) 1, none, false⟩,
 ⟨(some 16), .extract (.tmp 12) 2, none, false⟩,
 ⟨(some 4), .alloc 47 [(.int .i64 0), (.int .i64 0), (.int .i64 0), (.str []), (.lit (.slice none 0 0)), (.lit (.slice none 0 0))], none, false⟩,
 ⟨none, .store 6 (.tmp 4) (.tmp 14), none, false⟩,
 ⟨(some 5), .move (.tmp 15), none, false⟩,
 ⟨(some 6), .move (.tmp 16), none, false⟩] false)
 (.seq (.region [⟨(some 17), .move (.tmp 3), none, false⟩,
 ⟨(some 18), .bin .eql .other true (.tmp 17) (.av (.int .i64 0)), none, false⟩,
 ⟨(some 19), .move (.tmp 18), none, false⟩,
 ⟨(some 20), .move (.tmp 2), (some (19, true)), false⟩,
 ⟨(some 21), .bin .eql .other true (.tmp 20) (.av (.int .i64 10)), (some (19, true)), false⟩,
 ⟨(some 22), .pick (.tmp 19) (.tmp 21) (.av (.bool false)), none, false⟩,
 ⟨(some 23), .move (.tmp 22), none, false⟩,
 ⟨(some 24), .fieldAddr 4 (.tmp 1), (some (23, true)), false⟩,
 ⟨(some 25), .load none (.tmp 24), (some (23, true)), false⟩,
 ⟨(some 26), .len (.slice 6) (.tmp 25), (some (23, true)), false⟩,
 ⟨(some 27), .bin .eql .other true (.tmp 26) (.av (.int .i64 2)), (some (23, true)), false⟩,
 ⟨(some 28), .pick (.tmp 23) (.tmp 27) (.av (.bool false)), none, false⟩,
 ⟨(some 29), .move (.tmp 28), none, false⟩,
 ⟨(some 30), .fieldAddr 4 (.tmp 1), (some (29, true)), false⟩,
 ⟨(some 31), .load none (.tmp 30), (some (29, true)), false⟩,
 ⟨(some 32), .indexAddr none 6 (.tmp 31) (.av (.int .i64 0)), (some (29, true)), false⟩,
 ⟨(some 33), .fieldAddr 0 (.tmp 32), (some (29, true)), false⟩,
 ⟨(some 34), .load none (.tmp 33), (some (29, true)), false⟩,
 ⟨(some 35), .bin .eql .other true (.tmp 34) (.av (.int .i64 7)), (some (29, true)), false⟩,
 ⟨(some 36), .pick (.tmp 29) (.tmp 35) (.av (.bool false)), none, false⟩,
 ⟨(some 37), .move (.tmp 36), none, false⟩,
 ⟨(some 38), .move (.tmp 6), (some (37, true)), false⟩,
 ⟨(some 39), .bin .eql .other true (.tmp 38) (.av (.int .i64 0)), (some (37, true)), false⟩,
 ⟨(some 40), .pick (.tmp 37) (.tmp 39) (.av (.bool false)), none, false⟩,
 ⟨(some 41), .move (.tmp 40), none, false⟩,
 ⟨(some 42), .fieldAddr 0 (.tmp 4), (some (41, true)), false⟩,
 ⟨(some 43), .load none (.tmp 42), (some (41, true)), false⟩,
 ⟨(some 44), .bin .eql .other true (.tmp 43) (.av (.int .i64 6)), (some (41, true)), false⟩,
 ⟨(some 45), .pick (.tmp 41) (.tmp 44) (.av (.bool false)), none, false⟩,
 ⟨(some 46), .move (.tmp 45), none, false⟩,
 ⟨(some 47), .fieldAddr 5 (.tmp 4), (some (46, true)), false⟩,
 ⟨(some 48), .load none (.tmp 47), (some (46, true)), false⟩,
 ⟨(some 49), .len (.slice 7) (.tmp 48), (some (46, true)), false⟩,
 ⟨(some 50), .bin .eql .other true (.tmp 49) (.av (.int .i64 0)), (some (46, true)), false⟩,
 ⟨(some 51), .pick (.tmp 46) (.tmp 50) (.av (.bool false)), none, false⟩,
 ⟨(some 52), .move (.tmp 51), none, false⟩,
 ⟨(some 53), .load (some 6) (.tmp 4), (some (52, true)), false⟩,
 ⟨(some 54), .call (.av (.fn (.func 34) [] [])) [(.av (.int .i64 3))], (some (52, true)), true⟩,
 ⟨(some 55), .call (.av (.fn (.func 33) [] [])) [(.tmp 53), (.av (.str [120])), (.tmp 54)], (some (52, true)), false⟩,
 ⟨(some 56), .call (.av (.fn (.func 35) [] [])) [(.tmp 55), (.av (.str [120]))], (some (52, true)), false⟩,
 ⟨(some 57), .field 2 none (.tmp 56), (some (52, true)), false⟩,
 ⟨(some 58), .bin .eql .other true (.tmp 57) (.av (.int .i64 3000)), (some (52, true)), false⟩,
 ⟨(some 59), .pick (.tmp 52) (.tmp 58) (.av (.bool false)), none, false⟩,
 ⟨(some 60), .move (.tmp 59), none, false⟩,
 ⟨(some 61), .load (some 6) (.tmp 1), (some (60, true)), false⟩,
 ⟨(some 62), .call (.av (.fn (.func 32) [] [])) [(.tmp 61)], (some (60, true)), false⟩,
 ⟨(some 63), .bin .eql .other true (.tmp 62) (.av (.int .i64 3)), (some (60, true)), false⟩,
 ⟨(some 64), .pick (.tmp 60) (.tmp 63) (.av (.bool false)), none, false⟩,
 ⟨(some 65), .move (.tmp 64), none, false⟩,
 ⟨(some 66), .load (some 6) (.tmp 1), (some (65, true)), false⟩,
 ⟨(some 67), .load (some 6) (.tmp 1), (some (65, true)), false⟩,
 ⟨(some 68), .call (.av (.fn (.func 50) [] [])) [(.tmp 66), (.tmp 67)], (some (65, true)), false⟩,
 ⟨(some 69), .pick (.tmp 65) (.tmp 68) (.av (.bool false)), none, false⟩,
 ⟨(some 0), .move (.tmp 69), none, false⟩] true)
 (.ret))))⟩
/-- (*inkstand/cos.parser).object -/
def ac51 : AF := ⟨20, [.cell 2 (some 6), .tmp 3],
 .seq (.region [⟨(some 2), .alloc 47 [(.int .i64 0), (.int .i64 0), (.int .i64 0), (.str []), (.lit (.slice none 0 0)), (.lit (.slice none 0 0))], none, false⟩,
 ⟨(some 3), .move (.av (.int .i64 0)), none, false⟩] false)
 (.seq (.region [⟨(some 7), .move (.tmp 0), none, false⟩,
 ⟨(some 8), .call (.av (.fn (.func 78) [] [])) [(.tmp 7)], none, false⟩,
 ⟨(some 6), .move (.tmp 8), none, false⟩,
 ⟨(some 9), .extract (.tmp 6) 0, none, false⟩,
 ⟨(some 10), .extract (.tmp 6) 1, none, false⟩,
 ⟨(some 4), .alloc 25 [(.int .i64 0), (.int .i64 0), (.str []), (.bool false), (.int .i64 0), (.int .i64 0)], none, false⟩,
 ⟨none, .store 6 (.tmp 4) (.tmp 9), none, false⟩,
 ⟨(some 5), .move (.tmp 10), none, false⟩] false)
 (.seq (.seq (.region [⟨(some 11), .move (.tmp 5), none, false⟩,
 ⟨(some 12), .bin .neq .other true (.tmp 11) (.av (.int .i64 0)), none, false⟩] false)
 (.cond (.tmp 12)
 (.seq (.region [⟨(some 13), .build [(.int .i64 0), (.int .i64 0), (.int .i64 0), (.str []), (.lit (.slice none 0 0)), (.lit (.slice none 0 0))] [], none, false⟩,
 ⟨(some 14), .move (.tmp 5), none, false⟩,
 ⟨none, .store 6 (.tmp 2) (.tmp 13), none, false⟩,
 ⟨(some 3), .move (.tmp 14), none, false⟩] false)
 (.ret))
 (.skip)))
 (.seq (.region [⟨(some 15), .move (.tmp 0), none, false⟩,
 ⟨(some 16), .load (some 6) (.tmp 4), none, false⟩,
 ⟨(some 17), .call (.av (.fn (.func 79) [] [])) [(.tmp 15), (.tmp 16)], none, false⟩,
 ⟨(some 18), .extract (.tmp 17) 0, none, false⟩,
 ⟨(some 19), .extract (.tmp 17) 1, none, false⟩,
 ⟨none, .store 6 (.tmp 2) (.tmp 18), none, false⟩,
 ⟨(some 3), .move (.tmp 19), none, false⟩] false)
 (.ret))))⟩
/-- (*inkstand/cos.parser).next -/
def ac78 : AF := ⟨27, [.cell 2 (some 6), .tmp 3],
 .seq (.region [⟨(some 2), .alloc 25 [(.int .i64 0), (.int .i64 0), (.str []), (.bool false), (.int .i64 0), (.int .i64 0)], none, false⟩,
 ⟨(some 3), .move (.av (.int .i64 0)), none, false⟩] false)
 (.seq (.region [⟨(some 7), .move (.tmp 0), none, false⟩,
 ⟨(some 8), .nilCheck (.tmp 7), none, false⟩,
 ⟨(some 9), .fieldAddr 0 (.tmp 8), none, false⟩,
 ⟨(some 10), .load none (.tmp 9), none, false⟩,
 ⟨(some 11), .move (.tmp 0), none, false⟩,
 ⟨(some 12), .nilCheck (.tmp 11), none, false⟩,
 ⟨(some 13), .fieldAddr 1 (.tmp 12), none, false⟩,
 ⟨(some 14), .load none (.tmp 13), none, false⟩,
 ⟨(some 15), .call (.av (.fn (.func 16) [] [])) [(.tmp 10), (.tmp 14)], none, true⟩,
 ⟨(some 6), .move (.tmp 15), none, false⟩,
 ⟨(some 16), .extract (.tmp 6) 0, none, false⟩,
 ⟨(some 17), .extract (.tmp 6) 1, none, false⟩,
 ⟨(some 4), .alloc 25 [(.int .i64 0), (.int .i64 0), (.str []), (.bool false), (.int .i64 0), (.int .i64 0)], none, false⟩,
 ⟨none, .store 6 (.tmp 4) (.tmp 16), none, false⟩,
 ⟨(some 5), .move (.tmp 17), none, false⟩] true)
 (.seq (.seq (.region [⟨(some 18), .move (.tmp 5), none, false⟩,
 ⟨(some 19), .bin .eql .other true (.tmp 18) (.av (.int .i64 0)), none, false⟩] false)
 (.cond (.tmp 19)
 (.region [⟨(some 20), .move (.tmp 0), none, false⟩,
 ⟨(some 21), .fieldAddr 5 (.tmp 4), none, false⟩,
 ⟨(some 22), .load none (.tmp 21), none, false⟩,
 ⟨(some 23), .nilCheck (.tmp 20), none, false⟩,
 ⟨(some 24), .fieldAddr 1 (.tmp 23), none, false⟩,
 ⟨none, .store 1 (.tmp 24) (.tmp 22), none, false⟩] false)
 (.skip)))
 (.seq (.region [⟨(some 25), .load (some 6) (.tmp 4), none, false⟩,
 ⟨(some 26), .move (.tmp 5), none, false⟩,
 ⟨none, .store 6 (.tmp 2) (.tmp 25), none, false⟩,
 ⟨(some 3), .move (.tmp 26), none, false⟩] false)
 (.ret))))⟩
/-- (*inkstand/cos.parser).of -/
def ac79 : AF := ⟨50, [.cell 4 (some 6), .tmp 5],
 .seq (.region [⟨(some 3), .box 25 (.tmp 1), none, false⟩,
 ⟨(some 4), .alloc 47 [(.int .i64 0), (.int .i64 0), (.int .i64 0), (.str []), (.lit (.slice none 0 0)), (.lit (.slice none 0 0))], none, false⟩,
 ⟨(some 5), .move (.av (.int .i64 0)), none, false⟩] false)
 (.seq (.seq (.region [⟨(some 6), .fieldAddr 0 (.tmp 3), none, false⟩,
 ⟨(some 7), .load none (.tmp 6), none, false⟩] false)
 (.block 0
 (.seq (.region [⟨(some 9), .bin .eql .other true (.tmp 7) (.av (.int .i64 0)), none, false⟩,
 ⟨(some 8), .move (.tmp 9), none, false⟩] false)
 (.cond (.tmp 8)
 (.seq (.region [⟨(some 10), .build [(.int .i64 0), (.int .i64 0), (.int .i64 0), (.str []), (.lit (.slice none 0 0)), (.lit (.slice none 0 0))] [], none, false⟩,
 ⟨none, .store 6 (.tmp 4) (.tmp 10), none, false⟩,
 ⟨(some 5), .move (.av (.int .i64 4)), none, false⟩] false)
 (.ret))
 (.seq (.region [⟨(some 12), .bin .eql .other true (.tmp 7) (.av (.int .i64 1)), none, false⟩,
 ⟨(some 11), .move (.tmp 12), none, false⟩] false)
 (.cond (.tmp 11)
 (.seq (.region [⟨(some 13), .move (.tmp 0), none, false⟩,
 ⟨(some 14), .load (some 6) (.tmp 3), none, false⟩,
 ⟨(some 15), .call (.av (.fn (.func 107) [] [])) [(.tmp 13), (.tmp 14)], none, false⟩,
 ⟨none, .store 6 (.tmp 4) (.tmp 15), none, false⟩,
 ⟨(some 5), .move (.av (.int .i64 0)), none, false⟩] false)
 (.ret))
 (.seq (.region [⟨(some 17), .bin .eql .other true (.tmp 7) (.av (.int .i64 2)), none, false⟩,
 ⟨(some 16), .move (.tmp 17), none, false⟩] false)
 (.cond (.tmp 16)
 (.seq (.region [⟨(some 18), .fieldAddr 2 (.tmp 3), none, false⟩,
 ⟨(some 19), .load none (.tmp 18), none, false⟩,
 ⟨(some 20), .call (.av (.fn (.func 108) [] [])) [(.tmp 19)], none, false⟩,
 ⟨none, .store 6 (.tmp 4) (.tmp 20), none, false⟩,
 ⟨(some 5), .move (.av (.int .i64 0)), none, false⟩] false)
 (.ret))
 (.seq (.region [⟨(some 22), .bin .eql .other true (.tmp 7) (.av (.int .i64 3)), none, false⟩,
 ⟨(some 21), .move (.tmp 22), none, false⟩] false)
 (.cond (.tmp 21)
 (.seq (.region [⟨(some 23), .fieldAddr 2 (.tmp 3), none, false⟩,
 ⟨(some 24), .load none (.tmp 23), none, false⟩,
 ⟨(some 25), .build [(.int .i64 0), (.int .i64 0), (.int .i64 0), (.str []), (.lit (.slice none 0 0)), (.lit (.slice none 0 0))] [(0, 1, (.av (.int .i64 4))), (3, 1, (.tmp 24))], none, false⟩,
 ⟨none, .store 6 (.tmp 4) (.tmp 25), none, false⟩,
 ⟨(some 5), .move (.av (.int .i64 0)), none, false⟩] false)
 (.ret))
 (.seq (.region [⟨(some 27), .bin .eql .other true (.tmp 7) (.av (.int .i64 4)), none, false⟩,
 ⟨(some 26), .move (.tmp 27), none, false⟩] false)
 (.cond (.tmp 26)
 (.seq (.region [⟨(some 28), .move (.tmp 0), none, false⟩,
 ⟨(some 29), .move (.tmp 0), none, false⟩,
 ⟨(some 30), .mkFunc (.func 110) [(.tmp 29)] [], none, false⟩,
 ⟨(some 31), .call (.av (.fn (.func 109) [] [])) [(.tmp 28), (.tmp 30)], none, false⟩,
 ⟨(some 32), .extract (.tmp 31) 0, none, false⟩,
 ⟨(some 33), .extract (.tmp 31) 1, none, false⟩,
 ⟨none, .store 6 (.tmp 4) (.tmp 32), none, false⟩,
 ⟨(some 5), .move (.tmp 33), none, false⟩] false)
 (.ret))
 (.seq (.region [⟨(some 35), .bin .eql .other true (.tmp 7) (.av (.int .i64 6)), none, false⟩,
 ⟨(some 34), .move (.tmp 35), none, false⟩] false)
 (.cond (.tmp 34)
 (.seq (.region [⟨(some 36), .move (.tmp 0), none, false⟩,
 ⟨(some 37), .move (.tmp 0), none, false⟩,
 ⟨(some 38), .mkFunc (.func 111) [(.tmp 37)] [], none, false⟩,
 ⟨(some 39), .call (.av (.fn (.func 109) [] [])) [(.tmp 36), (.tmp 38)], none, false⟩,
 ⟨(some 40), .extract (.tmp 39) 0, none, false⟩,
 ⟨(some 41), .extract (.tmp 39) 1, none, false⟩,
 ⟨none, .store 6 (.tmp 4) (.tmp 40), none, false⟩,
 ⟨(some 5), .move (.tmp 41), none, false⟩] false)
 (.ret))
 (.seq (.region [⟨(some 43), .bin .eql .other true (.tmp 7) (.av (.int .i64 8)), none, false⟩,
 ⟨(some 42), .move (.tmp 43), none, false⟩] false)
 (.cond (.tmp 42)
 (.seq (.region [⟨(some 44), .fieldAddr 2 (.tmp 3), none, false⟩,
 ⟨(some 45), .load none (.tmp 44), none, false⟩,
 ⟨(some 46), .call (.av (.fn (.func 112) [] [])) [(.tmp 45)], none, false⟩,
 ⟨(some 47), .extract (.tmp 46) 0, none, false⟩,
 ⟨(some 48), .extract (.tmp 46) 1, none, false⟩,
 ⟨none, .store 6 (.tmp 4) (.tmp 47), none, false⟩,
 ⟨(some 5), .move (.tmp 48), none, false⟩] false)
 (.ret))
 (.skip)))))))))))))))))
 (.seq (.region [⟨(some 49), .build [(.int .i64 0), (.int .i64 0), (.int .i64 0), (.str []), (.lit (.slice none 0 0)), (.lit (.slice none 0 0))] [], none, false⟩,
 ⟨none, .store 6 (.tmp 4) (.tmp 49), none, false⟩,
 ⟨(some 5), .move (.av (.int .i64 3)), none, false⟩] false)
 (.ret)))⟩
/-- (*inkstand/cos.parser).number -/
def ac107 : AF := ⟨65, [.cell 4 (some 6)],
 .seq (.region [⟨(some 3), .box 25 (.tmp 1), none, false⟩,
 ⟨(some 4), .alloc 47 [(.int .i64 0), (.int .i64 0), (.int .i64 0), (.str []), (.lit (.slice none 0 0)), (.lit (.slice none 0 0))], none, false⟩] false)
 (.seq (.region [⟨(some 11), .fieldAddr 1 (.tmp 3), none, false⟩,
 ⟨(some 12), .load none (.tmp 11), none, false⟩,
 ⟨(some 13), .build [(.int .i64 0), (.int .i64 0), (.int .i64 0), (.str []), (.lit (.slice none 0 0)), (.lit (.slice none 0 0))] [(0, 1, (.av (.int .i64 2))), (2, 1, (.tmp 12))], none, false⟩,
 ⟨(some 5), .alloc 47 [(.int .i64 0), (.int .i64 0), (.int .i64 0), (.str []), (.lit (.slice none 0 0)), (.lit (.slice none 0 0))], none, false⟩,
 ⟨none, .store 6 (.tmp 5) (.tmp 13), none, false⟩] false)
 (.seq (.seq (.region [⟨(some 14), .fieldAddr 3 (.tmp 3), none, false⟩,
 ⟨(some 15), .load none (.tmp 14), none, false⟩] false)
 (.cond (.tmp 15)
 (.region [⟨(some 16), .fieldAddr 1 (.tmp 5), none, false⟩,
 ⟨none, .store 1 (.tmp 16) (.av (.int .i64 1)), none, false⟩] false)
 (.skip)))
 (.seq (.region [⟨(some 17), .move (.tmp 0), none, false⟩,
 ⟨(some 18), .nilCheck (.tmp 17), none, false⟩,
 ⟨(some 19), .load (some 3) (.tmp 18), none, false⟩,
 ⟨(some 6), .alloc 70 [(.str []), (.int .i64 0), (.int .i64 0)], none, false⟩,
 ⟨none, .store 3 (.tmp 6) (.tmp 19), none, false⟩] false)
 (.seq (.region [⟨(some 21), .call (.av (.fn (.func 78) [] [])) [(.tmp 6)], none, false⟩,
 ⟨(some 20), .move (.tmp 21), none, false⟩,
 ⟨(some 22), .extract (.tmp 20) 0, none, false⟩,
 ⟨(some 23), .extract (.tmp 20) 1, none, false⟩,
 ⟨(some 7), .alloc 25 [(.int .i64 0), (.int .i64 0), (.str []), (.bool false), (.int .i64 0), (.int .i64 0)], none, false⟩,
 ⟨none, .store 6 (.tmp 7) (.tmp 22), none, false⟩,
 ⟨(some 8), .move (.tmp 23), none, false⟩] false)
 (.seq (.seq (.region [⟨(some 24), .load (some 6) (.tmp 3), none, false⟩,
 ⟨(some 25), .call (.av (.fn (.func 133) [] [])) [(.tmp 24)], none, false⟩,
 ⟨(some 26), .un .not false (.tmp 25), none, false⟩,
 ⟨(some 27), .move (.tmp 26), none, false⟩,
 ⟨(some 28), .move (.tmp 8), (some (27, false)), false⟩,
 ⟨(some 29), .bin .neq .other true (.tmp 28) (.av (.int .i64 0)), (some (27, false)), false⟩,
 ⟨(some 30), .pick (.tmp 27) (.av (.bool true)) (.tmp 29), none, false⟩,
 ⟨(some 31), .move (.tmp 30), none, false⟩,
 ⟨(some 32), .load (some 6) (.tmp 7), (some (31, false)), false⟩,
 ⟨(some 33), .call (.av (.fn (.func 133) [] [])) [(.tmp 32)], (some (31, false)), false⟩,
 ⟨(some 34), .un .not false (.tmp 33), (some (31, false)), false⟩,
 ⟨(some 35), .pick (.tmp 31) (.av (.bool true)) (.tmp 34), none, false⟩] false)
 (.cond (.tmp 35)
 (.seq (.region [⟨(some 36), .load (some 6) (.tmp 5), none, false⟩,
 ⟨none, .store 6 (.tmp 4) (.tmp 36), none, false⟩] false)
 (.ret))
 (.skip)))
 (.seq (.seq (.region [⟨(some 38), .call (.av (.fn (.func 78) [] [])) [(.tmp 6)], none, false⟩,
 ⟨(some 37), .move (.tmp 38), none, false⟩,
 ⟨(some 39), .extract (.tmp 37) 0, none, false⟩,
 ⟨(some 40), .extract (.tmp 37) 1, none, false⟩,
 ⟨(some 9), .alloc 25 [(.int .i64 0), (.int .i64 0), (.str []), (.bool false), (.int .i64 0), (.int .i64 0)], none, false⟩,
 ⟨none, .store 6 (.tmp 9) (.tmp 39), none, false⟩,
 ⟨(some 10), .move (.tmp 40), none, false⟩] false)
 (.seq (.region [⟨(some 41), .move (.tmp 10), none, false⟩,
 ⟨(some 42), .bin .neq .other true (.tmp 41) (.av (.int .i64 0)), none, false⟩,
 ⟨(some 43), .move (.tmp 42), none, false⟩,
 ⟨(some 44), .fieldAddr 0 (.tmp 9), (some (43, false)), false⟩,
 ⟨(some 45), .load none (.tmp 44), (some (43, false)), false⟩,
 ⟨(some 46), .bin .neq .other true (.tmp 45) (.av (.int .i64 8)), (some (43, false)), false⟩,
 ⟨(some 47), .pick (.tmp 43) (.av (.bool true)) (.tmp 46), none, false⟩,
 ⟨(some 48), .move (.tmp 47), none, false⟩,
 ⟨(some 49), .fieldAddr 2 (.tmp 9), (some (48, false)), false⟩,
 ⟨(some 50), .load none (.tmp 49), (some (48, false)), false⟩,
 ⟨(some 51), .bin .neq .other false (.tmp 50) (.av (.str [82])), (some (48, false)), false⟩,
 ⟨(some 52), .pick (.tmp 48) (.av (.bool true)) (.tmp 51), none, false⟩] false)
 (.cond (.tmp 52)
 (.seq (.region [⟨(some 53), .load (some 6) (.tmp 5), none, false⟩,
 ⟨none, .store 6 (.tmp 4) (.tmp 53), none, false⟩] false)
 (.ret))
 (.skip))))
 (.seq (.region [⟨(some 54), .move (.tmp 0), none, false⟩,
 ⟨(some 55), .fieldAddr 1 (.tmp 6), none, false⟩,
 ⟨(some 56), .load none (.tmp 55), none, false⟩,
 ⟨(some 57), .nilCheck (.tmp 54), none, false⟩,
 ⟨(some 58), .fieldAddr 1 (.tmp 57), none, false⟩,
 ⟨none, .store 1 (.tmp 58) (.tmp 56), none, false⟩] false)
 (.seq (.region [⟨(some 59), .fieldAddr 1 (.tmp 3), none, false⟩,
 ⟨(some 60), .load none (.tmp 59), none, false⟩,
 ⟨(some 61), .bin .quo .other true (.tmp 60) (.av (.int .i64 1000)), none, false⟩,
 ⟨(some 62), .fieldAddr 1 (.tmp 7), none, false⟩,
 ⟨(some 63), .load none (.tmp 62), none, false⟩,
 ⟨(some 64), .build [(.int .i64 0), (.int .i64 0), (.int .i64 0), (.str []), (.lit (.slice none 0 0)), (.lit (.slice none 0 0))] [(0, 1, (.av (.int .i64 7))), (1, 1, (.tmp 61)), (2, 1, (.tmp 63))], none, false⟩,
 ⟨none, .store 6 (.tmp 4) (.tmp 64), none, false⟩] false)
 (.ret)))))))))⟩
/-- inkstand/cos.Word -/
def ac108 : AF := ⟨5, [.cell 2 (some 6)],
 .seq (.region [⟨(some 2), .alloc 47 [(.int .i64 0), (.int .i64 0), (.int .i64 0), (.str []), (.lit (.slice none 0 0)), (.lit (.slice none 0 0))], none, false⟩] false)
 (.seq (.region [⟨(some 3), .move (.tmp 0), none, false⟩,
 ⟨(some 4), .build [(.int .i64 0), (.int .i64 0), (.int .i64 0), (.str []), (.lit (.slice none 0 0)), (.lit (.slice none 0 0))] [(0, 1, (.av (.int .i64 3))), (3, 1, (.tmp 3))], none, false⟩,
 ⟨none, .store 6 (.tmp 2) (.tmp 4), none, false⟩] false)
 (.ret))⟩
/-- (*inkstand/cos.parser).within -/
def ac109 : AF := ⟨38, [.cell 4 (some 6), .tmp 5],
 .seq (.region [⟨(some 4), .alloc 47 [(.int .i64 0), (.int .i64 0), (.int .i64 0), (.str []), (.lit (.slice none 0 0)), (.lit (.slice none 0 0))], none, false⟩,
 ⟨(some 5), .move (.av (.int .i64 0)), none, false⟩] false)
 (.seq (.seq (.region [⟨(some 8), .move (.tmp 0), none, false⟩,
 ⟨(some 9), .nilCheck (.tmp 8), none, false⟩,
 ⟨(some 10), .fieldAddr 2 (.tmp 9), none, false⟩,
 ⟨(some 11), .load none (.tmp 10), none, false⟩,
 ⟨(some 12), .bin .eql .other true (.tmp 11) (.av (.int .i64 64)), none, false⟩] false)
 (.cond (.tmp 12)
 (.seq (.region [⟨(some 13), .build [(.int .i64 0), (.int .i64 0), (.int .i64 0), (.str []), (.lit (.slice none 0 0)), (.lit (.slice none 0 0))] [], none, false⟩,
 ⟨none, .store 6 (.tmp 4) (.tmp 13), none, false⟩,
 ⟨(some 5), .move (.av (.int .i64 5)), none, false⟩] false)
 (.ret))
 (.skip)))
 (.seq (.region [⟨(some 14), .move (.tmp 0), none, false⟩,
 ⟨(some 15), .nilCheck (.tmp 14), none, false⟩,
 ⟨(some 16), .fieldAddr 2 (.tmp 15), none, false⟩,
 ⟨(some 17), .load none (.tmp 16), none, false⟩,
 ⟨(some 18), .bin .add .other true (.tmp 17) (.av (.int .i64 1)), none, false⟩,
 ⟨(some 19), .nilCheck (.tmp 14), none, false⟩,
 ⟨(some 20), .fieldAddr 2 (.tmp 19), none, false⟩,
 ⟨none, .store 1 (.tmp 20) (.tmp 18), none, false⟩] false)
 (.seq (.region [⟨(some 22), .move (.tmp 1), none, false⟩,
 ⟨(some 23), .call (.tmp 22) [], none, false⟩,
 ⟨(some 21), .move (.tmp 23), none, false⟩,
 ⟨(some 24), .extract (.tmp 21) 0, none, false⟩,
 ⟨(some 25), .extract (.tmp 21) 1, none, false⟩,
 ⟨(some 6), .alloc 47 [(.int .i64 0), (.int .i64 0), (.int .i64 0), (.str []), (.lit (.slice none 0 0)), (.lit (.slice none 0 0))], none, false⟩,
 ⟨none, .store 6 (.tmp 6) (.tmp 24), none, false⟩,
 ⟨(some 7), .move (.tmp 25), none, false⟩] false)
 (.seq (.region [⟨(some 26), .move (.tmp 0), none, false⟩,
 ⟨(some 27), .nilCheck (.tmp 26), none, false⟩,
 ⟨(some 28), .fieldAddr 2 (.tmp 27), none, false⟩,
 ⟨(some 29), .load none (.tmp 28), none, false⟩,
 ⟨(some 30), .bin .sub .other true (.tmp 29) (.av (.int .i64 1)), none, false⟩,
 ⟨(some 31), .nilCheck (.tmp 26), none, false⟩,
 ⟨(some 32), .fieldAddr 2 (.tmp 31), none, false⟩,
 ⟨none, .store 1 (.tmp 32) (.tmp 30), none, false⟩] false)
 (.seq (.seq (.region [⟨(some 33), .move (.tmp 7), none, false⟩,
 ⟨(some 34), .bin .neq .other true (.tmp 33) (.av (.int .i64 0)), none, false⟩] false)
 (.cond (.tmp 34)
 (.seq (.region [⟨(some 35), .build [(.int .i64 0), (.int .i64 0), (.int .i64 0), (.str []), (.lit (.slice none 0 0)), (.lit (.slice none 0 0))] [], none, false⟩,
 ⟨(some 36), .move (.tmp 7), none, false⟩,
 ⟨none, .store 6 (.tmp 4) (.tmp 35), none, false⟩,
 ⟨(some 5), .move (.tmp 36), none, false⟩] false)
 (.ret))
 (.skip)))
 (.seq (.region [⟨(some 37), .load (some 6) (.tmp 6), none, false⟩,
 ⟨none, .store 6 (.tmp 4) (.tmp 37), none, false⟩,
 ⟨(some 5), .move (.av (.int .i64 0)), none, false⟩] false)
 (.ret)))))))⟩
/-- (*inkstand/cos.parser).array -/
def ac110 : AF := ⟨51, [.cell 2 (some 6), .tmp 3],
 .seq (.region [⟨(some 2), .alloc 47 [(.int .i64 0), (.int .i64 0), (.int .i64 0), (.str []), (.lit (.slice none 0 0)), (.lit (.slice none 0 0))], none, false⟩,
 ⟨(some 3), .move (.av (.int .i64 0)), none, false⟩] false)
 (.seq (.region [⟨(some 8), .build [(.int .i64 0), (.int .i64 0), (.int .i64 0), (.str []), (.lit (.slice none 0 0)), (.lit (.slice none 0 0))] [(0, 1, (.av (.int .i64 5)))], none, false⟩,
 ⟨(some 4), .alloc 47 [(.int .i64 0), (.int .i64 0), (.int .i64 0), (.str []), (.lit (.slice none 0 0)), (.lit (.slice none 0 0))], none, false⟩,
 ⟨none, .store 6 (.tmp 4) (.tmp 8), none, false⟩] false)
 (.block 0
 (.loop
 (.block 1
 (.seq (.region [⟨(some 10), .move (.tmp 0), none, false⟩,
 ⟨(some 11), .call (.av (.fn (.func 78) [] [])) [(.tmp 10)], none, false⟩,
 ⟨(some 9), .move (.tmp 11), none, false⟩,
 ⟨(some 12), .extract (.tmp 9) 0, none, false⟩,
 ⟨(some 13), .extract (.tmp 9) 1, none, false⟩,
 ⟨(some 5), .alloc 25 [(.int .i64 0), (.int .i64 0), (.str []), (.bool false), (.int .i64 0), (.int .i64 0)], none, false⟩,
 ⟨none, .store 6 (.tmp 5) (.tmp 12), none, false⟩,
 ⟨(some 6), .move (.tmp 13), none, false⟩] false)
 (.seq (.block 2
 (.seq (.region [⟨(some 15), .move (.tmp 6), none, false⟩,
 ⟨(some 16), .bin .neq .other true (.tmp 15) (.av (.int .i64 0)), none, false⟩,
 ⟨(some 14), .move (.tmp 16), none, false⟩] false)
 (.cond (.tmp 14)
 (.seq (.region [⟨(some 17), .load (some 6) (.tmp 4), none, false⟩,
 ⟨(some 18), .move (.tmp 6), none, false⟩,
 ⟨none, .store 6 (.tmp 2) (.tmp 17), none, false⟩,
 ⟨(some 3), .move (.tmp 18), none, false⟩] false)
 (.ret))
 (.seq (.region [⟨(some 20), .fieldAddr 0 (.tmp 5), none, false⟩,
 ⟨(some 21), .load none (.tmp 20), none, false⟩,
 ⟨(some 22), .bin .eql .other true (.tmp 21) (.av (.int .i64 5)), none, false⟩,
 ⟨(some 19), .move (.tmp 22), none, false⟩] false)
 (.cond (.tmp 19)
 (.seq (.region [⟨(some 23), .load (some 6) (.tmp 4), none, false⟩,
 ⟨none, .store 6 (.tmp 2) (.tmp 23), none, false⟩,
 ⟨(some 3), .move (.av (.int .i64 0)), none, false⟩] false)
 (.ret))
 (.seq (.region [⟨(some 25), .fieldAddr 0 (.tmp 5), none, false⟩,
 ⟨(some 26), .load none (.tmp 25), none, false⟩,
 ⟨(some 27), .bin .neq .other true (.tmp 26) (.av (.int .i64 0)), none, false⟩,
 ⟨(some 28), .move (.tmp 27), none, false⟩,
 ⟨(some 29), .fieldAddr 4 (.tmp 4), (some (28, true)), false⟩,
 ⟨(some 30), .load none (.tmp 29), (some (28, true)), false⟩,
 ⟨(some 31), .len (.slice 6) (.tmp 30), (some (28, true)), false⟩,
 ⟨(some 32), .bin .eql .other true (.tmp 31) (.av (.int .i64 1024)), (some (28, true)), false⟩,
 ⟨(some 33), .pick (.tmp 28) (.tmp 32) (.av (.bool false)), none, false⟩,
 ⟨(some 24), .move (.tmp 33), none, false⟩] false)
 (.cond (.tmp 24)
 (.seq (.region [⟨(some 34), .load (some 6) (.tmp 4), none, false⟩,
 ⟨none, .store 6 (.tmp 2) (.tmp 34), none, false⟩,
 ⟨(some 3), .move (.av (.int .i64 6)), none, false⟩] false)
 (.ret))
 (.skip))))))))
 (.seq (.region [⟨(some 36), .move (.tmp 0), none, false⟩,
 ⟨(some 37), .load (some 6) (.tmp 5), none, false⟩,
 ⟨(some 38), .call (.av (.fn (.func 79) [] [])) [(.tmp 36), (.tmp 37)], none, false⟩,
 ⟨(some 35), .move (.tmp 38), none, false⟩,
 ⟨(some 39), .extract (.tmp 35) 0, none, false⟩,
 ⟨(some 40), .extract (.tmp 35) 1, none, false⟩,
 ⟨(some 7), .alloc 47 [(.int .i64 0), (.int .i64 0), (.int .i64 0), (.str []), (.lit (.slice none 0 0)), (.lit (.slice none 0 0))], none, false⟩,
 ⟨none, .store 6 (.tmp 7) (.tmp 39), none, false⟩,
 ⟨(some 6), .move (.tmp 40), none, false⟩] false)
 (.seq (.seq (.region [⟨(some 41), .move (.tmp 6), none, false⟩,
 ⟨(some 42), .bin .neq .other true (.tmp 41) (.av (.int .i64 0)), none, false⟩] false)
 (.cond (.tmp 42)
 (.seq (.region [⟨(some 43), .load (some 6) (.tmp 4), none, false⟩,
 ⟨(some 44), .move (.tmp 6), none, false⟩,
 ⟨none, .store 6 (.tmp 2) (.tmp 43), none, false⟩,
 ⟨(some 3), .move (.tmp 44), none, false⟩] false)
 (.ret))
 (.skip)))
 (.region [⟨(some 45), .fieldAddr 4 (.tmp 4), none, false⟩,
 ⟨(some 46), .load none (.tmp 45), none, false⟩,
 ⟨(some 47), .load (some 6) (.tmp 7), none, false⟩,
 ⟨(some 48), .buildSlice false 47 6 1 [(.int .i64 0), (.int .i64 0), (.int .i64 0), (.str []), (.lit (.slice none 0 0)), (.lit (.slice none 0 0))] [(0, (.tmp 47))], none, false⟩,
 ⟨(some 49), .append 47 6 88 [(.int .i64 0), (.int .i64 0), (.int .i64 0), (.str []), (.lit (.slice none 0 0)), (.lit (.slice none 0 0))] (.tmp 46) (.tmp 48), none, false⟩,
 ⟨(some 50), .fieldAddr 4 (.tmp 4), none, false⟩,
 ⟨none, .store 1 (.tmp 50) (.tmp 49), none, false⟩] false)))))))))⟩
/-- (*inkstand/cos.parser).dict -/
def ac111 : AF := ⟨55, [.cell 2 (some 6), .tmp 3],
 .seq (.region [⟨(some 2), .alloc 47 [(.int .i64 0), (.int .i64 0), (.int .i64 0), (.str []), (.lit (.slice none 0 0)), (.lit (.slice none 0 0))], none, false⟩,
 ⟨(some 3), .move (.av (.int .i64 0)), none, false⟩] false)
 (.seq (.region [⟨(some 9), .build [(.int .i64 0), (.int .i64 0), (.int .i64 0), (.str []), (.lit (.slice none 0 0)), (.lit (.slice none 0 0))] [(0, 1, (.av (.int .i64 6)))], none, false⟩,
 ⟨(some 4), .alloc 47 [(.int .i64 0), (.int .i64 0), (.int .i64 0), (.str []), (.lit (.slice none 0 0)), (.lit (.slice none 0 0))], none, false⟩,
 ⟨none, .store 6 (.tmp 4) (.tmp 9), none, false⟩] false)
 (.seq (.region [⟨(some 5), .move (.av (.int .i64 0)), none, false⟩] false)
 (.block 0
 (.loop
 (.seq (.block 1
 (.seq (.region [⟨(some 13), .move (.tmp 0), none, false⟩,
 ⟨(some 14), .call (.av (.fn (.func 78) [] [])) [(.tmp 13)], none, false⟩,
 ⟨(some 12), .move (.tmp 14), none, false⟩,
 ⟨(some 15), .extract (.tmp 12) 0, none, false⟩,
 ⟨(some 16), .extract (.tmp 12) 1, none, false⟩,
 ⟨(some 6), .alloc 25 [(.int .i64 0), (.int .i64 0), (.str []), (.bool false), (.int .i64 0), (.int .i64 0)], none, false⟩,
 ⟨none, .store 6 (.tmp 6) (.tmp 15), none, false⟩,
 ⟨(some 7), .move (.tmp 16), none, false⟩] false)
 (.seq (.block 2
 (.seq (.region [⟨(some 18), .move (.tmp 7), none, false⟩,
 ⟨(some 19), .bin .neq .other true (.tmp 18) (.av (.int .i64 0)), none, false⟩,
 ⟨(some 17), .move (.tmp 19), none, false⟩] false)
 (.cond (.tmp 17)
 (.seq (.region [⟨(some 20), .load (some 6) (.tmp 4), none, false⟩,
 ⟨(some 21), .move (.tmp 7), none, false⟩,
 ⟨none, .store 6 (.tmp 2) (.tmp 20), none, false⟩,
 ⟨(some 3), .move (.tmp 21), none, false⟩] false)
 (.ret))
 (.seq (.region [⟨(some 23), .fieldAddr 0 (.tmp 6), none, false⟩,
 ⟨(some 24), .load none (.tmp 23), none, false⟩,
 ⟨(some 25), .bin .eql .other true (.tmp 24) (.av (.int .i64 7)), none, false⟩,
 ⟨(some 22), .move (.tmp 25), none, false⟩] false)
 (.cond (.tmp 22)
 (.seq (.region [⟨(some 26), .load (some 6) (.tmp 4), none, false⟩,
 ⟨none, .store 6 (.tmp 2) (.tmp 26), none, false⟩,
 ⟨(some 3), .move (.av (.int .i64 0)), none, false⟩] false)
 (.ret))
 (.seq (.region [⟨(some 28), .fieldAddr 0 (.tmp 6), none, false⟩,
 ⟨(some 29), .load none (.tmp 28), none, false⟩,
 ⟨(some 30), .bin .eql .other true (.tmp 29) (.av (.int .i64 0)), none, false⟩,
 ⟨(some 27), .move (.tmp 30), none, false⟩] false)
 (.cond (.tmp 27)
 (.seq (.region [⟨(some 31), .load (some 6) (.tmp 4), none, false⟩,
 ⟨none, .store 6 (.tmp 2) (.tmp 31), none, false⟩,
 ⟨(some 3), .move (.av (.int .i64 4)), none, false⟩] false)
 (.ret))
 (.seq (.region [⟨(some 33), .move (.tmp 5), none, false⟩,
 ⟨(some 34), .bin .eql .other true (.tmp 33) (.av (.int .i64 1024)), none, false⟩,
 ⟨(some 32), .move (.tmp 34), none, false⟩] false)
 (.cond (.tmp 32)
 (.seq (.region [⟨(some 35), .load (some 6) (.tmp 4), none, false⟩,
 ⟨none, .store 6 (.tmp 2) (.tmp 35), none, false⟩,
 ⟨(some 3), .move (.av (.int .i64 6)), none, false⟩] false)
 (.ret))
 (.seq (.region [⟨(some 37), .fieldAddr 0 (.tmp 6), none, false⟩,
 ⟨(some 38), .load none (.tmp 37), none, false⟩,
 ⟨(some 39), .bin .neq .other true (.tmp 38) (.av (.int .i64 2)), none, false⟩,
 ⟨(some 36), .move (.tmp 39), none, false⟩] false)
 (.cond (.tmp 36)
 (.seq (.region [⟨(some 40), .load (some 6) (.tmp 4), none, false⟩,
 ⟨none, .store 6 (.tmp 2) (.tmp 40), none, false⟩,
 ⟨(some 3), .move (.av (.int .i64 3)), none, false⟩] false)
 (.ret))
 (.skip))))))))))))
 (.seq (.region [⟨(some 42), .move (.tmp 0), none, false⟩,
 ⟨(some 43), .call (.av (.fn (.func 51) [] [])) [(.tmp 42)], none, false⟩,
 ⟨(some 41), .move (.tmp 43), none, false⟩,
 ⟨(some 44), .extract (.tmp 41) 0, none, false⟩,
 ⟨(some 45), .extract (.tmp 41) 1, none, false⟩,
 ⟨(some 8), .alloc 47 [(.int .i64 0), (.int .i64 0), (.int .i64 0), (.str []), (.lit (.slice none 0 0)), (.lit (.slice none 0 0))], none, false⟩,
 ⟨none, .store 6 (.tmp 8) (.tmp 44), none, false⟩,
 ⟨(some 7), .move (.tmp 45), none, false⟩] false)
 (.seq (.seq (.region [⟨(some 46), .move (.tmp 7), none, false⟩,
 ⟨(some 47), .bin .neq .other true (.tmp 46) (.av (.int .i64 0)), none, false⟩] false)
 (.cond (.tmp 47)
 (.seq (.region [⟨(some 48), .load (some 6) (.tmp 4), none, false⟩,
 ⟨(some 49), .move (.tmp 7), none, false⟩,
 ⟨none, .store 6 (.tmp 2) (.tmp 48), none, false⟩,
 ⟨(some 3), .move (.tmp 49), none, false⟩] false)
 (.ret))
 (.skip)))
 (.region [⟨(some 50), .load (some 6) (.tmp 4), none, false⟩,
 ⟨(some 51), .fieldAddr 2 (.tmp 6), none, false⟩,
 ⟨(some 52), .load none (.tmp 51), none, false⟩,
 ⟨(some 53), .load (some 6) (.tmp 8), none, false⟩,
 ⟨(some 54), .call (.av (.fn (.func 33) [] [])) [(.tmp 50), (.tmp 52), (.tmp 53)], none, false⟩,
 ⟨none, .store 6 (.tmp 4) (.tmp 54), none, false⟩] false))))))
 (.region [⟨(some 10), .move (.tmp 5), none, false⟩,
 ⟨(some 11), .bin .add .other true (.tmp 10) (.av (.int .i64 1)), none, false⟩,
 ⟨(some 5), .move (.tmp 11), none, false⟩] false))))))⟩
/-- inkstand/cos.word -/
def ac112 : AF := ⟨15, [.cell 2 (some 6), .tmp 3],
 .seq (.region [⟨(some 2), .alloc 47 [(.int .i64 0), (.int .i64 0), (.int .i64 0), (.str []), (.lit (.slice none 0 0)), (.lit (.slice none 0 0))], none, false⟩,
 ⟨(some 3), .move (.av (.int .i64 0)), none, false⟩] false)
 (.seq (.seq (.region [⟨(some 4), .move (.tmp 0), none, false⟩] false)
 (.block 0
 (.seq (.region [⟨(some 6), .bin .eql .other false (.tmp 4) (.av (.str [116, 114, 117, 101])), none, false⟩,
 ⟨(some 5), .move (.tmp 6), none, false⟩] false)
 (.cond (.tmp 5)
 (.seq (.region [⟨(some 7), .build [(.int .i64 0), (.int .i64 0), (.int .i64 0), (.str []), (.lit (.slice none 0 0)), (.lit (.slice none 0 0))] [(0, 1, (.av (.int .i64 1))), (1, 1, (.av (.int .i64 1)))], none, false⟩,
 ⟨none, .store 6 (.tmp 2) (.tmp 7), none, false⟩,
 ⟨(some 3), .move (.av (.int .i64 0)), none, false⟩] false)
 (.ret))
 (.seq (.region [⟨(some 9), .bin .eql .other false (.tmp 4) (.av (.str [102, 97, 108, 115, 101])), none, false⟩,
 ⟨(some 8), .move (.tmp 9), none, false⟩] false)
 (.cond (.tmp 8)
 (.seq (.region [⟨(some 10), .build [(.int .i64 0), (.int .i64 0), (.int .i64 0), (.str []), (.lit (.slice none 0 0)), (.lit (.slice none 0 0))] [(0, 1, (.av (.int .i64 1)))], none, false⟩,
 ⟨none, .store 6 (.tmp 2) (.tmp 10), none, false⟩,
 ⟨(some 3), .move (.av (.int .i64 0)), none, false⟩] false)
 (.ret))
 (.seq (.region [⟨(some 12), .bin .eql .other false (.tmp 4) (.av (.str [110, 117, 108, 108])), none, false⟩,
 ⟨(some 11), .move (.tmp 12), none, false⟩] false)
 (.cond (.tmp 11)
 (.seq (.region [⟨(some 13), .build [(.int .i64 0), (.int .i64 0), (.int .i64 0), (.str []), (.lit (.slice none 0 0)), (.lit (.slice none 0 0))] [], none, false⟩,
 ⟨none, .store 6 (.tmp 2) (.tmp 13), none, false⟩,
 ⟨(some 3), .move (.av (.int .i64 0)), none, false⟩] false)
 (.ret))
 (.skip)))))))))
 (.seq (.region [⟨(some 14), .build [(.int .i64 0), (.int .i64 0), (.int .i64 0), (.str []), (.lit (.slice none 0 0)), (.lit (.slice none 0 0))] [], none, false⟩,
 ⟨none, .store 6 (.tmp 2) (.tmp 14), none, false⟩,
 ⟨(some 3), .move (.av (.int .i64 3)), none, false⟩] false)
 (.ret)))⟩
/-- inkstand/cos.dictionary -/
def ac52 : AF := ⟨11, [.tmp 2],
 .seq (.region [⟨(some 1), .box 47 (.tmp 0), none, false⟩,
 ⟨(some 2), .move (.av (.bool false)), none, false⟩] false)
 (.seq (.region [⟨(some 3), .fieldAddr 0 (.tmp 1), none, false⟩,
 ⟨(some 4), .load none (.tmp 3), none, false⟩,
 ⟨(some 5), .bin .eql .other true (.tmp 4) (.av (.int .i64 6)), none, false⟩,
 ⟨(some 6), .move (.tmp 5), none, false⟩,
 ⟨(some 7), .fieldAddr 0 (.tmp 1), (some (6, false)), false⟩,
 ⟨(some 8), .load none (.tmp 7), (some (6, false)), false⟩,
 ⟨(some 9), .bin .eql .other true (.tmp 8) (.av (.int .i64 8)), (some (6, false)), false⟩,
 ⟨(some 10), .pick (.tmp 6) (.av (.bool true)) (.tmp 9), none, false⟩,
 ⟨(some 2), .move (.tmp 10), none, false⟩] false)
 (.ret))⟩
/-- inkstand/fix.Int -/
def ac58 : AF := ⟨13, [.tmp 2, .tmp 3],
 .seq (.region [⟨(some 2), .move (.av (.int .i64 0)), none, false⟩,
 ⟨(some 3), .move (.av (.int .i64 0)), none, false⟩] false)
 (.seq (.seq (.region [⟨(some 4), .move (.tmp 0), none, false⟩,
 ⟨(some 5), .buildSlice false 23 1 1 [(.int .i64 0)] [(0, (.tmp 4))], none, false⟩,
 ⟨(some 6), .call (.av (.fn (.func 84) [] [])) [(.tmp 5)], none, false⟩,
 ⟨(some 7), .un .not false (.tmp 6), none, false⟩] false)
 (.cond (.tmp 7)
 (.seq (.region [⟨(some 2), .move (.av (.int .i64 0)), none, false⟩,
 ⟨(some 3), .move (.av (.int .i64 2)), none, false⟩] false)
 (.ret))
 (.skip)))
 (.seq (.region [⟨(some 8), .move (.tmp 0), none, false⟩,
 ⟨(some 9), .bin .mul .other true (.tmp 8) (.av (.int .i64 1000)), none, false⟩,
 ⟨(some 10), .call (.av (.fn (.func 85) [] [])) [(.tmp 9)], none, false⟩,
 ⟨(some 11), .extract (.tmp 10) 0, none, false⟩,
 ⟨(some 12), .extract (.tmp 10) 1, none, false⟩,
 ⟨(some 2), .move (.tmp 11), none, false⟩,
 ⟨(some 3), .move (.tmp 12), none, false⟩] false)
 (.ret)))⟩
/-- inkstand/inkstandlaw04.CosDeep -/
def ac10 : AF := ⟨91, [.tmp 6],
 .seq (.region [⟨(some 6), .move (.av (.bool false)), none, false⟩] false)
 (.seq (.region [⟨(some 18), .call (.av (.fn (.func 30) [] [])) [], none, false⟩,
 ⟨(some 7), .move (.tmp 18), none, false⟩] false)
 (.seq (.region [⟨(some 19), .move (.tmp 0), none, false⟩,
 ⟨(some 20), .bin .and .other true (.tmp 19) (.av (.int .i64 127)), none, false⟩,
 ⟨(some 8), .move (.tmp 20), none, false⟩] false)
 (.seq (.region [⟨(some 9), .move (.av (.str [55])), none, false⟩] false)
 (.seq (.seq (.region [⟨(some 10), .move (.av (.int .i64 0)), none, false⟩] false)
 (.block 0
 (.loop
 (.seq (.seq (.region [⟨(some 21), .move (.tmp 10), none, false⟩,
 ⟨(some 22), .move (.tmp 8), none, false⟩,
 ⟨(some 23), .bin .lss .other true (.tmp 21) (.tmp 22), none, false⟩] false)
 (.cond (.tmp 23)
 (.skip)
 (.exit 0)))
 (.seq (.block 1
 (.seq (.region [⟨(some 26), .move (.tmp 1), none, false⟩] false)
 (.cond (.tmp 26)
 (.region [⟨(some 27), .move (.tmp 9), none, false⟩,
 ⟨(some 28), .bin .add .other false (.av (.str [60, 60, 47, 65, 32])) (.tmp 27), none, false⟩,
 ⟨(some 29), .bin .add .other false (.tmp 28) (.av (.str [62, 62])), none, false⟩,
 ⟨(some 9), .move (.tmp 29), none, false⟩] false)
 (.region [⟨(some 30), .move (.tmp 9), none, false⟩,
 ⟨(some 31), .bin .add .other false (.av (.str [91])) (.tmp 30), none, false⟩,
 ⟨(some 32), .bin .add .other false (.tmp 31) (.av (.str [93])), none, false⟩,
 ⟨(some 9), .move (.tmp 32), none, false⟩] false))))
 (.region [⟨(some 24), .move (.tmp 10), none, false⟩,
 ⟨(some 25), .bin .add .other true (.tmp 24) (.av (.int .i64 1)), none, false⟩,
 ⟨(some 10), .move (.tmp 25), none, false⟩] false))))))
 (.seq (.region [⟨(some 34), .move (.tmp 9), none, false⟩,
 ⟨(some 35), .call (.av (.fn (.func 31) [] [])) [(.tmp 34), (.av (.int .i64 0))], none, false⟩,
 ⟨(some 33), .move (.tmp 35), none, false⟩,
 ⟨(some 36), .extract (.tmp 33) 0, none, false⟩,
 ⟨(some 37), .extract (.tmp 33) 1, none, false⟩,
 ⟨(some 38), .extract (.tmp 33) 2, none, false⟩,
 ⟨(some 11), .alloc 47 [(.int .i64 0), (.int .i64 0), (.int .i64 0), (.str []), (.lit (.slice none 0 0)), (.lit (.slice none 0 0))], none, false⟩,
 ⟨none, .store 6 (.tmp 11) (.tmp 36), none, false⟩,
 ⟨(some 12), .move (.tmp 37), none, false⟩,
 ⟨(some 13), .move (.tmp 38), none, false⟩] false)
 (.seq (.seq (.region [⟨(some 39), .move (.tmp 8), none, false⟩,
 ⟨(some 40), .bin .gtr .other true (.tmp 39) (.av (.int .i64 64)), none, false⟩] false)
 (.cond (.tmp 40)
 (.seq (.region [⟨(some 41), .move (.tmp 7), none, false⟩,
 ⟨(some 42), .move (.tmp 41), none, false⟩,
 ⟨(some 43), .move (.tmp 13), (some (42, true)), false⟩,
 ⟨(some 44), .bin .eql .other true (.tmp 43) (.av (.int .i64 5)), (some (42, true)), false⟩,
 ⟨(some 45), .pick (.tmp 42) (.tmp 44) (.av (.bool false)), none, false⟩,
 ⟨(some 46), .move (.tmp 45), none, false⟩,
 ⟨(some 47), .move (.tmp 12), (some (46, true)), false⟩,
 ⟨(some 48), .bin .eql .other true (.tmp 47) (.av (.int .i64 0)), (some (46, true)), false⟩,
 ⟨(some 49), .pick (.tmp 46) (.tmp 48) (.av (.bool false)), none, false⟩,
 ⟨(some 6), .move (.tmp 49), none, false⟩] false)
 (.ret))
 (.skip)))
 (.seq (.seq (.region [⟨(some 50), .move (.tmp 13), none, false⟩,
 ⟨(some 51), .bin .neq .other true (.tmp 50) (.av (.int .i64 0)), none, false⟩,
 ⟨(some 52), .move (.tmp 51), none, false⟩,
 ⟨(some 53), .move (.tmp 12), (some (52, false)), false⟩,
 ⟨(some 54), .move (.tmp 9), (some (52, false)), false⟩,
 ⟨(some 55), .len .str (.tmp 54), (some (52, false)), false⟩,
 ⟨(some 56), .bin .neq .other true (.tmp 53) (.tmp 55), (some (52, false)), false⟩,
 ⟨(some 57), .pick (.tmp 52) (.av (.bool true)) (.tmp 56), none, false⟩,
 ⟨(some 58), .move (.tmp 57), none, false⟩,
 ⟨(some 59), .load (some 6) (.tmp 11), (some (58, false)), false⟩,
 ⟨(some 60), .call (.av (.fn (.func 32) [] [])) [(.tmp 59)], (some (58, false)), false⟩,
 ⟨(some 61), .move (.tmp 8), (some (58, false)), false⟩,
 ⟨(some 62), .bin .add .other true (.tmp 61) (.av (.int .i64 1)), (some (58, false)), false⟩,
 ⟨(some 63), .bin .neq .other true (.tmp 60) (.tmp 62), (some (58, false)), false⟩,
 ⟨(some 64), .pick (.tmp 58) (.av (.bool true)) (.tmp 63), none, false⟩] false)
 (.cond (.tmp 64)
 (.seq (.region [⟨(some 6), .move (.av (.bool false)), none, false⟩] false)
 (.ret))
 (.skip)))
 (.seq (.seq (.region [⟨(some 65), .move (.tmp 8), none, false⟩,
 ⟨(some 66), .bin .eql .other true (.tmp 65) (.av (.int .i64 0)), none, false⟩] false)
 (.cond (.tmp 66)
 (.seq (.region [⟨(some 67), .move (.tmp 7), none, false⟩,
 ⟨(some 68), .move (.tmp 67), none, false⟩,
 ⟨(some 69), .fieldAddr 2 (.tmp 11), (some (68, true)), false⟩,
 ⟨(some 70), .load none (.tmp 69), (some (68, true)), false⟩,
 ⟨(some 71), .bin .eql .other true (.tmp 70) (.av (.int .i64 7000)), (some (68, true)), false⟩,
 ⟨(some 72), .pick (.tmp 68) (.tmp 71) (.av (.bool false)), none, false⟩,
 ⟨(some 6), .move (.tmp 72), none, false⟩] false)
 (.ret))
 (.skip)))
 (.seq (.region [⟨(some 73), .move (.tmp 2), none, false⟩,
 ⟨(some 74), .bin .and .other true (.tmp 73) (.av (.int .i64 65535)), none, false⟩,
 ⟨(some 75), .move (.tmp 9), none, false⟩,
 ⟨(some 76), .len .str (.tmp 75), none, false⟩,
 ⟨(some 77), .bin .rem .other true (.tmp 74) (.tmp 76), none, false⟩,
 ⟨(some 14), .move (.tmp 77), none, false⟩] false)
 (.seq (.region [⟨(some 79), .move (.tmp 9), none, false⟩,
 ⟨(some 80), .move (.tmp 14), none, false⟩,
 ⟨(some 81), .slice .str (.tmp 79) none (some (.tmp 80)), none, false⟩,
 ⟨(some 82), .call (.av (.fn (.func 31) [] [])) [(.tmp 81), (.av (.int .i64 0))], none, false⟩,
 ⟨(some 78), .move (.tmp 82), none, false⟩,
 ⟨(some 83), .extract (.tmp 78) 0, none, false⟩,
 ⟨(some 84), .extract (.tmp 78) 1, none, false⟩,
 ⟨(some 85), .extract (.tmp 78) 2, none, false⟩,
 ⟨(some 15), .alloc 47 [(.int .i64 0), (.int .i64 0), (.int .i64 0), (.str []), (.lit (.slice none 0 0)), (.lit (.slice none 0 0))], none, false⟩,
 ⟨none, .store 6 (.tmp 15) (.tmp 83), none, false⟩,
 ⟨(some 16), .move (.tmp 84), none, false⟩,
 ⟨(some 17), .move (.tmp 85), none, false⟩] false)
 (.seq (.region [⟨(some 86), .move (.tmp 7), none, false⟩,
 ⟨(some 87), .move (.tmp 86), none, false⟩,
 ⟨(some 88), .move (.tmp 17), (some (87, true)), false⟩,
 ⟨(some 89), .bin .neq .other true (.tmp 88) (.av (.int .i64 0)), (some (87, true)), false⟩,
 ⟨(some 90), .pick (.tmp 87) (.tmp 89) (.av (.bool false)), none, false⟩,
 ⟨(some 6), .move (.tmp 90), none, false⟩] false)
 (.ret))))))))))))⟩
/-- inkstand/inkstandlaw04.CosCounts -/
def ac11 : AF := ⟨96, [.tmp 4],
 .seq (.region [⟨(some 4), .move (.av (.bool false)), none, false⟩] false)
 (.seq (.region [⟨(some 12), .call (.av (.fn (.func 30) [] [])) [], none, false⟩,
 ⟨(some 5), .move (.tmp 12), none, false⟩] false)
 (.seq (.region [⟨(some 13), .move (.tmp 0), none, false⟩,
 ⟨(some 14), .bin .and .other true (.tmp 13) (.av (.int .i64 31)), none, false⟩,
 ⟨(some 6), .move (.tmp 14), none, false⟩] false)
 (.seq (.region [⟨(some 15), .build [(.int .i64 0), (.int .i64 0), (.int .i64 0), (.str []), (.lit (.slice none 0 0)), (.lit (.slice none 0 0))] [(0, 1, (.av (.int .i64 6)))], none, false⟩,
 ⟨(some 7), .alloc 47 [(.int .i64 0), (.int .i64 0), (.int .i64 0), (.str []), (.lit (.slice none 0 0)), (.lit (.slice none 0 0))], none, false⟩,
 ⟨none, .store 6 (.tmp 7) (.tmp 15), none, false⟩] false)
 (.seq (.seq (.region [⟨(some 16), .move (.tmp 1), none, false⟩,
 ⟨(some 17), .bin .and .other true (.tmp 16) (.av (.int .i64 1)), none, false⟩,
 ⟨(some 18), .bin .eql .other true (.tmp 17) (.av (.int .i64 1)), none, false⟩] false)
 (.cond (.tmp 18)
 (.region [⟨(some 19), .fieldAddr 0 (.tmp 7), none, false⟩,
 ⟨none, .store 1 (.tmp 19) (.av (.int .i64 8)), none, false⟩] false)
 (.skip)))
 (.seq (.region [⟨(some 8), .move (.av (.str [97, 98, 99, 100, 101, 102, 103, 104, 105, 106, 107, 108, 109, 110, 111, 112, 113, 114, 115, 116, 117, 118, 119, 120, 121, 122, 65, 66, 67, 68, 69, 70, 71])), none, false⟩] false)
 (.seq (.seq (.region [⟨(some 9), .move (.av (.int .i64 0)), none, false⟩] false)
 (.block 0
 (.loop
 (.seq (.seq (.region [⟨(some 20), .move (.tmp 9), none, false⟩,
 ⟨(some 21), .move (.tmp 6), none, false⟩,
 ⟨(some 22), .bin .lss .other true (.tmp 20) (.tmp 21), none, false⟩] false)
 (.cond (.tmp 22)
 (.skip)
 (.exit 0)))
 (.seq (.block 1
 (.region [⟨(some 25), .load (some 6) (.tmp 7), none, false⟩,
 ⟨(some 26), .move (.tmp 8), none, false⟩,
 ⟨(some 27), .move (.tmp 9), none, false⟩,
 ⟨(some 28), .move (.tmp 9), none, false⟩,
 ⟨(some 29), .bin .add .other true (.tmp 28) (.av (.int .i64 1)), none, false⟩,
 ⟨(some 30), .slice .str (.tmp 26) (some (.tmp 27)) (some (.tmp 29)), none, false⟩,
 ⟨(some 31), .move (.tmp 9), none, false⟩,
 ⟨(some 32), .call (.av (.fn (.func 34) [] [])) [(.tmp 31)], none, true⟩,
 ⟨(some 33), .call (.av (.fn (.func 33) [] [])) [(.tmp 25), (.tmp 30), (.tmp 32)], none, false⟩,
 ⟨none, .store 6 (.tmp 7) (.tmp 33), none, false⟩] true))
 (.region [⟨(some 23), .move (.tmp 9), none, false⟩,
 ⟨(some 24), .bin .add .other true (.tmp 23) (.av (.int .i64 1)), none, false⟩,
 ⟨(some 9), .move (.tmp 24), none, false⟩] false))))))
 (.seq (.seq (.region [⟨(some 34), .fieldAddr 5 (.tmp 7), none, false⟩,
 ⟨(some 35), .load none (.tmp 34), none, false⟩,
 ⟨(some 36), .len (.slice 7) (.tmp 35), none, false⟩,
 ⟨(some 37), .move (.tmp 6), none, false⟩,
 ⟨(some 38), .bin .neq .other true (.tmp 36) (.tmp 37), none, false⟩,
 ⟨(some 39), .move (.tmp 38), none, false⟩,
 ⟨(some 40), .load (some 6) (.tmp 7), (some (39, false)), false⟩,
 ⟨(some 41), .call (.av (.fn (.func 32) [] [])) [(.tmp 40)], (some (39, false)), false⟩,
 ⟨(some 42), .move (.tmp 6), (some (39, false)), false⟩,
 ⟨(some 43), .bin .add .other true (.tmp 42) (.av (.int .i64 1)), (some (39, false)), false⟩,
 ⟨(some 44), .bin .neq .other true (.tmp 41) (.tmp 43), (some (39, false)), false⟩,
 ⟨(some 45), .pick (.tmp 39) (.av (.bool true)) (.tmp 44), none, false⟩] false)
 (.cond (.tmp 45)
 (.seq (.region [⟨(some 4), .move (.av (.bool false)), none, false⟩] false)
 (.ret))
 (.skip)))
 (.seq (.seq (.region [⟨(some 10), .move (.av (.int .i64 0)), none, false⟩] false)
 (.block 2
 (.loop
 (.seq (.seq (.region [⟨(some 46), .move (.tmp 10), none, false⟩,
 ⟨(some 47), .move (.tmp 6), none, false⟩,
 ⟨(some 48), .bin .lss .other true (.tmp 46) (.tmp 47), none, false⟩] false)
 (.cond (.tmp 48)
 (.skip)
 (.exit 2)))
 (.seq (.block 3
 (.seq (.region [⟨(some 51), .fieldAddr 5 (.tmp 7), none, false⟩,
 ⟨(some 52), .load none (.tmp 51), none, false⟩,
 ⟨(some 53), .move (.tmp 10), none, false⟩,
 ⟨(some 54), .indexAddr none 7 (.tmp 52) (.tmp 53), none, false⟩,
 ⟨(some 55), .fieldAddr 0 (.tmp 54), none, false⟩,
 ⟨(some 56), .load none (.tmp 55), none, false⟩,
 ⟨(some 57), .move (.tmp 8), none, false⟩,
 ⟨(some 58), .move (.tmp 10), none, false⟩,
 ⟨(some 59), .move (.tmp 10), none, false⟩,
 ⟨(some 60), .bin .add .other true (.tmp 59) (.av (.int .i64 1)), none, false⟩,
 ⟨(some 61), .slice .str (.tmp 57) (some (.tmp 58)) (some (.tmp 60)), none, false⟩,
 ⟨(some 62), .bin .neq .other false (.tmp 56) (.tmp 61), none, false⟩,
 ⟨(some 63), .move (.tmp 62), none, false⟩,
 ⟨(some 64), .load (some 6) (.tmp 7), (some (63, false)), false⟩,
 ⟨(some 65), .move (.tmp 8), (some (63, false)), false⟩,
 ⟨(some 66), .move (.tmp 10), (some (63, false)), false⟩,
 ⟨(some 67), .move (.tmp 10), (some (63, false)), false⟩,
 ⟨(some 68), .bin .add .other true (.tmp 67) (.av (.int .i64 1)), (some (63, false)), false⟩,
 ⟨(some 69), .slice .str (.tmp 65) (some (.tmp 66)) (some (.tmp 68)), (some (63, false)), false⟩,
 ⟨(some 70), .call (.av (.fn (.func 35) [] [])) [(.tmp 64), (.tmp 69)], (some (63, false)), false⟩,
 ⟨(some 71), .field 2 none (.tmp 70), (some (63, false)), false⟩,
 ⟨(some 72), .move (.tmp 10), (some (63, false)), false⟩,
 ⟨(some 73), .bin .mul .other true (.av (.int .i64 1000)) (.tmp 72), (some (63, false)), false⟩,
 ⟨(some 74), .bin .neq .other true (.tmp 71) (.tmp 73), (some (63, false)), false⟩,
 ⟨(some 75), .pick (.tmp 63) (.av (.bool true)) (.tmp 74), none, false⟩] true)
 (.cond (.tmp 75)
 (.seq (.region [⟨(some 4), .move (.av (.bool false)), none, false⟩] false)
 (.ret))
 (.skip))))
 (.region [⟨(some 49), .move (.tmp 10), none, false⟩,
 ⟨(some 50), .bin .add .other true (.tmp 49) (.av (.int .i64 1)), none, false⟩,
 ⟨(some 10), .move (.tmp 50), none, false⟩] false))))))
 (.seq (.seq (.region [⟨(some 11), .move (.av (.int .i64 0)), none, false⟩] false)
 (.block 4
 (.loop
 (.seq (.seq (.region [⟨(some 76), .move (.tmp 11), none, false⟩,
 ⟨(some 77), .move (.tmp 6), none, false⟩,
 ⟨(some 78), .bin .lss .other true (.tmp 76) (.tmp 77), none, false⟩] false)
 (.cond (.tmp 78)
 (.skip)
 (.exit 4)))
 (.seq (.block 5
 (.region [⟨(some 81), .load (some 6) (.tmp 7), none, false⟩,
 ⟨(some 82), .move (.tmp 8), none, false⟩,
 ⟨(some 83), .move (.tmp 11), none, false⟩,
 ⟨(some 84), .move (.tmp 11), none, false⟩,
 ⟨(some 85), .bin .add .other true (.tmp 84) (.av (.int .i64 1)), none, false⟩,
 ⟨(some 86), .slice .str (.tmp 82) (some (.tmp 83)) (some (.tmp 85)), none, false⟩,
 ⟨(some 87), .build [(.int .i64 0), (.int .i64 0), (.int .i64 0), (.str []), (.lit (.slice none 0 0)), (.lit (.slice none 0 0))] [], none, false⟩,
 ⟨(some 88), .call (.av (.fn (.func 33) [] [])) [(.tmp 81), (.tmp 86), (.tmp 87)], none, false⟩,
 ⟨none, .store 6 (.tmp 7) (.tmp 88), none, false⟩] true))
 (.region [⟨(some 79), .move (.tmp 11), none, false⟩,
 ⟨(some 80), .bin .add .other true (.tmp 79) (.av (.int .i64 1)), none, false⟩,
 ⟨(some 11), .move (.tmp 80), none, false⟩] false))))))
 (.seq (.region [⟨(some 89), .move (.tmp 5), none, false⟩,
 ⟨(some 90), .move (.tmp 89), none, false⟩,
 ⟨(some 91), .fieldAddr 5 (.tmp 7), (some (90, true)), false⟩,
 ⟨(some 92), .load none (.tmp 91), (some (90, true)), false⟩,
 ⟨(some 93), .len (.slice 7) (.tmp 92), (some (90, true)), false⟩,
 ⟨(some 94), .bin .eql .other true (.tmp 93) (.av (.int .i64 0)), (some (90, true)), false⟩,
 ⟨(some 95), .pick (.tmp 90) (.tmp 94) (.av (.bool false)), none, false⟩,
 ⟨(some 4), .move (.tmp 95), none, false⟩] false)
 (.ret)))))))))))⟩
/-- inkstand/cos.whole -/
def ac133 : AF := ⟨15, [.tmp 2],
 .seq (.region [⟨(some 1), .box 25 (.tmp 0), none, false⟩,
 ⟨(some 2), .move (.av (.bool false)), none, false⟩] false)
 (.seq (.region [⟨(some 3), .fieldAddr 0 (.tmp 1), none, false⟩,
 ⟨(some 4), .load none (.tmp 3), none, false⟩,
 ⟨(some 5), .bin .eql .other true (.tmp 4) (.av (.int .i64 1)), none, false⟩,
 ⟨(some 6), .move (.tmp 5), none, false⟩,
 ⟨(some 7), .fieldAddr 3 (.tmp 1), (some (6, true)), false⟩,
 ⟨(some 8), .load none (.tmp 7), (some (6, true)), false⟩,
 ⟨(some 9), .pick (.tmp 6) (.tmp 8) (.av (.bool false)), none, false⟩,
 ⟨(some 10), .move (.tmp 9), none, false⟩,
 ⟨(some 11), .fieldAddr 1 (.tmp 1), (some (10, true)), false⟩,
 ⟨(some 12), .load none (.tmp 11), (some (10, true)), false⟩,
 ⟨(some 13), .bin .geq .other true (.tmp 12) (.av (.int .i64 0)), (some (10, true)), false⟩,
 ⟨(some 14), .pick (.tmp 10) (.tmp 13) (.av (.bool false)), none, false⟩,
 ⟨(some 2), .move (.tmp 14), none, false⟩] false)
 (.ret))⟩
end Ink.D

namespace Ink.D
open Go Go.Proofs
set_option maxRecDepth 100000
theorem c55 : cFn Tryd.prog (mtOf (Tryd.f55.body.getD .skip)) Tryd.f55 = some ac55 := by kernel_rfl
theorem a55 {E : Env} (hE : E.P = Tryd.prog) {args : List AV} {H : List Blk} {Q : AV → List Blk → Prop} (h : wpc E H ac55.body (retQ E H ac55.results Q) ⟨enterTm args ac55.ntmps, H⟩) : ACalls E 55 args H Q :=
  ACalls.enter (by rw [hE]; exact hm) (by rw [hE]; exact Tryd.func55) (by rw [hE]; exact c55) h
theorem c33 : cFn Tryd.prog (mtOf (Tryd.f33.body.getD .skip)) Tryd.f33 = some ac33 := by kernel_rfl
theorem a33 {E : Env} (hE : E.P = Tryd.prog) {args : List AV} {H : List Blk} {Q : AV → List Blk → Prop} (h : wpc E H ac33.body (retQ E H ac33.results Q) ⟨enterTm args ac33.ntmps, H⟩) : ACalls E 33 args H Q :=
  ACalls.enter (by rw [hE]; exact hm) (by rw [hE]; exact Tryd.func33) (by rw [hE]; exact c33) h
theorem p33 {E : Env} (hE : E.P = Tryd.prog) {args : List AV} {Q : AV → Prop} (h : ∀ l, wpc E (frm l) ac33.body (retQ E (frm l) ac33.results fun r H' => hb 0 r = true ∧ Q r ∧ H' = frm l) ⟨enterTm args ac33.ntmps, frm l⟩) (hp : hbL 0 args = true := by rfl) : PCalls E 33 args Q :=
  PCalls.mk hp fun l => a33 hE (h l)
theorem c53 : cFn Tryd.prog (mtOf (Tryd.f53.body.getD .skip)) Tryd.f53 = some ac53 := by kernel_rfl
theorem a53 {E : Env} (hE : E.P = Tryd.prog) {args : List AV} {H : List Blk} {Q : AV → List Blk → Prop} (h : wpc E H ac53.body (retQ E H ac53.results Q) ⟨enterTm args ac53.ntmps, H⟩) : ACalls E 53 args H Q :=
  ACalls.enter (by rw [hE]; exact hm) (by rw [hE]; exact Tryd.func53) (by rw [hE]; exact c53) h
theorem c80 : cFn Tryd.prog (mtOf (Tryd.f80.body.getD .skip)) Tryd.f80 = some ac80 := by kernel_rfl
theorem a80 {E : Env} (hE : E.P = Tryd.prog) {args : List AV} {H : List Blk} {Q : AV → List Blk → Prop} (h : wpc E H ac80.body (retQ E H ac80.results Q) ⟨enterTm args ac80.ntmps, H⟩) : ACalls E 80 args H Q :=
  ACalls.enter (by rw [hE]; exact hm) (by rw [hE]; exact Tryd.func80) (by rw [hE]; exact c80) h
theorem p80 {E : Env} (hE : E.P = Tryd.prog) {args : List AV} {Q : AV → Prop} (h : ∀ l, wpc E (frm l) ac80.body (retQ E (frm l) ac80.results fun r H' => hb 0 r = true ∧ Q r ∧ H' = frm l) ⟨enterTm args ac80.ntmps, frm l⟩) (hp : hbL 0 args = true := by rfl) : PCalls E 80 args Q :=
  PCalls.mk hp fun l => a80 hE (h l)
theorem b80 {E : Env} (hE : E.P = Tryd.prog) {args : List AV} {ks : List BK} {Q : AV → List BK → Prop} (h : ∀ l, wpc E (frmB l ks) ac80.body (retQ E (frmB l ks) ac80.results (RB l ks Q)) ⟨enterTm args ac80.ntmps, frmB l ks⟩) : BCalls E 80 args ks Q :=
  BCalls.mk fun l => a80 hE (h l)
theorem c81 : cFn Tryd.prog (mtOf (Tryd.f81.body.getD .skip)) Tryd.f81 = some ac81 := by kernel_rfl
theorem a81 {E : Env} (hE : E.P = Tryd.prog) {args : List AV} {H : List Blk} {Q : AV → List Blk → Prop} (h : wpc E H ac81.body (retQ E H ac81.results Q) ⟨enterTm args ac81.ntmps, H⟩) : ACalls E 81 args H Q :=
  ACalls.enter (by rw [hE]; exact hm) (by rw [hE]; exact Tryd.func81) (by rw [hE]; exact c81) h
theorem p81 {E : Env} (hE : E.P = Tryd.prog) {args : List AV} {Q : AV → Prop} (h : ∀ l, wpc E (frm l) ac81.body (retQ E (frm l) ac81.results fun r H' => hb 0 r = true ∧ Q r ∧ H' = frm l) ⟨enterTm args ac81.ntmps, frm l⟩) (hp : hbL 0 args = true := by rfl) : PCalls E 81 args Q :=
  PCalls.mk hp fun l => a81 hE (h l)
theorem c56 : cFn Tryd.prog (mtOf (Tryd.f56.body.getD .skip)) Tryd.f56 = some ac56 := by kernel_rfl
theorem a56 {E : Env} (hE : E.P = Tryd.prog) {args : List AV} {H : List Blk} {Q : AV → List Blk → Prop} (h : wpc E H ac56.body (retQ E H ac56.results Q) ⟨enterTm args ac56.ntmps, H⟩) : ACalls E 56 args H Q :=
  ACalls.enter (by rw [hE]; exact hm) (by rw [hE]; exact Tryd.func56) (by rw [hE]; exact c56) h
theorem p56 {E : Env} (hE : E.P = Tryd.prog) {args : List AV} {Q : AV → Prop} (h : ∀ l, wpc E (frm l) ac56.body (retQ E (frm l) ac56.results fun r H' => hb 0 r = true ∧ Q r ∧ H' = frm l) ⟨enterTm args ac56.ntmps, frm l⟩) (hp : hbL 0 args = true := by rfl) : PCalls E 56 args Q :=
  PCalls.mk hp fun l => a56 hE (h l)
theorem b56 {E : Env} (hE : E.P = Tryd.prog) {args : List AV} {ks : List BK} {Q : AV → List BK → Prop} (h : ∀ l, wpc E (frmB l ks) ac56.body (retQ E (frmB l ks) ac56.results (RB l ks Q)) ⟨enterTm args ac56.ntmps, frmB l ks⟩) : BCalls E 56 args ks Q :=
  BCalls.mk fun l => a56 hE (h l)
theorem c50 : cFn Tryd.prog (mtOf (Tryd.f50.body.getD .skip)) Tryd.f50 = some ac50 := by kernel_rfl
theorem a50 {E : Env} (hE : E.P = Tryd.prog) {args : List AV} {H : List Blk} {Q : AV → List Blk → Prop} (h : wpc E H ac50.body (retQ E H ac50.results Q) ⟨enterTm args ac50.ntmps, H⟩) : ACalls E 50 args H Q :=
  ACalls.enter (by rw [hE]; exact hm) (by rw [hE]; exact Tryd.func50) (by rw [hE]; exact c50) h
theorem p50 {E : Env} (hE : E.P = Tryd.prog) {args : List AV} {Q : AV → Prop} (h : ∀ l, wpc E (frm l) ac50.body (retQ E (frm l) ac50.results fun r H' => hb 0 r = true ∧ Q r ∧ H' = frm l) ⟨enterTm args ac50.ntmps, frm l⟩) (hp : hbL 0 args = true := by rfl) : PCalls E 50 args Q :=
  PCalls.mk hp fun l => a50 hE (h l)
theorem c74 : cFn Tryd.prog (mtOf (Tryd.f74.body.getD .skip)) Tryd.f74 = some ac74 := by kernel_rfl
theorem a74 {E : Env} (hE : E.P = Tryd.prog) {args : List AV} {H : List Blk} {Q : AV → List Blk → Prop} (h : wpc E H ac74.body (retQ E H ac74.results Q) ⟨enterTm args ac74.ntmps, H⟩) : ACalls E 74 args H Q :=
  ACalls.enter (by rw [hE]; exact hm) (by rw [hE]; exact Tryd.func74) (by rw [hE]; exact c74) h
theorem b74 {E : Env} (hE : E.P = Tryd.prog) {args : List AV} {ks : List BK} {Q : AV → List BK → Prop} (h : ∀ l, wpc E (frmB l ks) ac74.body (retQ E (frmB l ks) ac74.results (RB l ks Q)) ⟨enterTm args ac74.ntmps, frmB l ks⟩) : BCalls E 74 args ks Q :=
  BCalls.mk fun l => a74 hE (h l)
theorem c75 : cFn Tryd.prog (mtOf (Tryd.f75.body.getD .skip)) Tryd.f75 = some ac75 := by kernel_rfl
theorem a75 {E : Env} (hE : E.P = Tryd.prog) {args : List AV} {H : List Blk} {Q : AV → List Blk → Prop} (h : wpc E H ac75.body (retQ E H ac75.results Q) ⟨enterTm args ac75.ntmps, H⟩) : ACalls E 75 args H Q :=
  ACalls.enter (by rw [hE]; exact hm) (by rw [hE]; exact Tryd.func75) (by rw [hE]; exact c75) h
theorem p75 {E : Env} (hE : E.P = Tryd.prog) {args : List AV} {Q : AV → Prop} (h : ∀ l, wpc E (frm l) ac75.body (retQ E (frm l) ac75.results fun r H' => hb 0 r = true ∧ Q r ∧ H' = frm l) ⟨enterTm args ac75.ntmps, frm l⟩) (hp : hbL 0 args = true := by rfl) : PCalls E 75 args Q :=
  PCalls.mk hp fun l => a75 hE (h l)
theorem c76 : cFn Tryd.prog (mtOf (Tryd.f76.body.getD .skip)) Tryd.f76 = some ac76 := by kernel_rfl
theorem a76 {E : Env} (hE : E.P = Tryd.prog) {args : List AV} {H : List Blk} {Q : AV → List Blk → Prop} (h : wpc E H ac76.body (retQ E H ac76.results Q) ⟨enterTm args ac76.ntmps, H⟩) : ACalls E 76 args H Q :=
  ACalls.enter (by rw [hE]; exact hm) (by rw [hE]; exact Tryd.func76) (by rw [hE]; exact c76) h
theorem p76 {E : Env} (hE : E.P = Tryd.prog) {args : List AV} {Q : AV → Prop} (h : ∀ l, wpc E (frm l) ac76.body (retQ E (frm l) ac76.results fun r H' => hb 0 r = true ∧ Q r ∧ H' = frm l) ⟨enterTm args ac76.ntmps, frm l⟩) (hp : hbL 0 args = true := by rfl) : PCalls E 76 args Q :=
  PCalls.mk hp fun l => a76 hE (h l)
theorem c77 : cFn Tryd.prog (mtOf (Tryd.f77.body.getD .skip)) Tryd.f77 = some ac77 := by kernel_rfl
theorem a77 {E : Env} (hE : E.P = Tryd.prog) {args : List AV} {H : List Blk} {Q : AV → List Blk → Prop} (h : wpc E H ac77.body (retQ E H ac77.results Q) ⟨enterTm args ac77.ntmps, H⟩) : ACalls E 77 args H Q :=
  ACalls.enter (by rw [hE]; exact hm) (by rw [hE]; exact Tryd.func77) (by rw [hE]; exact c77) h
theorem b77 {E : Env} (hE : E.P = Tryd.prog) {args : List AV} {ks : List BK} {Q : AV → List BK → Prop} (h : ∀ l, wpc E (frmB l ks) ac77.body (retQ E (frmB l ks) ac77.results (RB l ks Q)) ⟨enterTm args ac77.ntmps, frmB l ks⟩) : BCalls E 77 args ks Q :=
  BCalls.mk fun l => a77 hE (h l)
theorem c32 : cFn Tryd.prog (mtOf (Tryd.f32.body.getD .skip)) Tryd.f32 = some ac32 := by kernel_rfl
theorem a32 {E : Env} (hE : E.P = Tryd.prog) {args : List AV} {H : List Blk} {Q : AV → List Blk → Prop} (h : wpc E H ac32.body (retQ E H ac32.results Q) ⟨enterTm args ac32.ntmps, H⟩) : ACalls E 32 args H Q :=
  ACalls.enter (by rw [hE]; exact hm) (by rw [hE]; exact Tryd.func32) (by rw [hE]; exact c32) h
theorem p32 {E : Env} (hE : E.P = Tryd.prog) {args : List AV} {Q : AV → Prop} (h : ∀ l, wpc E (frm l) ac32.body (retQ E (frm l) ac32.results fun r H' => hb 0 r = true ∧ Q r ∧ H' = frm l) ⟨enterTm args ac32.ntmps, frm l⟩) (hp : hbL 0 args = true := by rfl) : PCalls E 32 args Q :=
  PCalls.mk hp fun l => a32 hE (h l)
theorem c34 : cFn Tryd.prog (mtOf (Tryd.f34.body.getD .skip)) Tryd.f34 = some ac34 := by kernel_rfl
theorem a34 {E : Env} (hE : E.P = Tryd.prog) {args : List AV} {H : List Blk} {Q : AV → List Blk → Prop} (h : wpc E H ac34.body (retQ E H ac34.results Q) ⟨enterTm args ac34.ntmps, H⟩) : ACalls E 34 args H Q :=
  ACalls.enter (by rw [hE]; exact hm) (by rw [hE]; exact Tryd.func34) (by rw [hE]; exact c34) h
theorem p34 {E : Env} (hE : E.P = Tryd.prog) {args : List AV} {Q : AV → Prop} (h : ∀ l, wpc E (frm l) ac34.body (retQ E (frm l) ac34.results fun r H' => hb 0 r = true ∧ Q r ∧ H' = frm l) ⟨enterTm args ac34.ntmps, frm l⟩) (hp : hbL 0 args = true := by rfl) : PCalls E 34 args Q :=
  PCalls.mk hp fun l => a34 hE (h l)
theorem c35 : cFn Tryd.prog (mtOf (Tryd.f35.body.getD .skip)) Tryd.f35 = some ac35 := by kernel_rfl
theorem a35 {E : Env} (hE : E.P = Tryd.prog) {args : List AV} {H : List Blk} {Q : AV → List Blk → Prop} (h : wpc E H ac35.body (retQ E H ac35.results Q) ⟨enterTm args ac35.ntmps, H⟩) : ACalls E 35 args H Q :=
  ACalls.enter (by rw [hE]; exact hm) (by rw [hE]; exact Tryd.func35) (by rw [hE]; exact c35) h
theorem p35 {E : Env} (hE : E.P = Tryd.prog) {args : List AV} {Q : AV → Prop} (h : ∀ l, wpc E (frm l) ac35.body (retQ E (frm l) ac35.results fun r H' => hb 0 r = true ∧ Q r ∧ H' = frm l) ⟨enterTm args ac35.ntmps, frm l⟩) (hp : hbL 0 args = true := by rfl) : PCalls E 35 args Q :=
  PCalls.mk hp fun l => a35 hE (h l)
theorem c30 : cFn Tryd.prog (mtOf (Tryd.f30.body.getD .skip)) Tryd.f30 = some ac30 := by kernel_rfl
theorem a30 {E : Env} (hE : E.P = Tryd.prog) {args : List AV} {H : List Blk} {Q : AV → List Blk → Prop} (h : wpc E H ac30.body (retQ E H ac30.results Q) ⟨enterTm args ac30.ntmps, H⟩) : ACalls E 30 args H Q :=
  ACalls.enter (by rw [hE]; exact hm) (by rw [hE]; exact Tryd.func30) (by rw [hE]; exact c30) h
theorem p30 {E : Env} (hE : E.P = Tryd.prog) {args : List AV} {Q : AV → Prop} (h : ∀ l, wpc E (frm l) ac30.body (retQ E (frm l) ac30.results fun r H' => hb 0 r = true ∧ Q r ∧ H' = frm l) ⟨enterTm args ac30.ntmps, frm l⟩) (hp : hbL 0 args = true := by rfl) : PCalls E 30 args Q :=
  PCalls.mk hp fun l => a30 hE (h l)
theorem c51 : cFn Tryd.prog (mtOf (Tryd.f51.body.getD .skip)) Tryd.f51 = some ac51 := by kernel_rfl
theorem a51 {E : Env} (hE : E.P = Tryd.prog) {args : List AV} {H : List Blk} {Q : AV → List Blk → Prop} (h : wpc E H ac51.body (retQ E H ac51.results Q) ⟨enterTm args ac51.ntmps, H⟩) : ACalls E 51 args H Q :=
  ACalls.enter (by rw [hE]; exact hm) (by rw [hE]; exact Tryd.func51) (by rw [hE]; exact c51) h
theorem b51 {E : Env} (hE : E.P = Tryd.prog) {args : List AV} {ks : List BK} {Q : AV → List BK → Prop} (h : ∀ l, wpc E (frmB l ks) ac51.body (retQ E (frmB l ks) ac51.results (RB l ks Q)) ⟨enterTm args ac51.ntmps, frmB l ks⟩) : BCalls E 51 args ks Q :=
  BCalls.mk fun l => a51 hE (h l)
theorem c78 : cFn Tryd.prog (mtOf (Tryd.f78.body.getD .skip)) Tryd.f78 = some ac78 := by kernel_rfl
theorem a78 {E : Env} (hE : E.P = Tryd.prog) {args : List AV} {H : List Blk} {Q : AV → List Blk → Prop} (h : wpc E H ac78.body (retQ E H ac78.results Q) ⟨enterTm args ac78.ntmps, H⟩) : ACalls E 78 args H Q :=
  ACalls.enter (by rw [hE]; exact hm) (by rw [hE]; exact Tryd.func78) (by rw [hE]; exact c78) h
theorem b78 {E : Env} (hE : E.P = Tryd.prog) {args : List AV} {ks : List BK} {Q : AV → List BK → Prop} (h : ∀ l, wpc E (frmB l ks) ac78.body (retQ E (frmB l ks) ac78.results (RB l ks Q)) ⟨enterTm args ac78.ntmps, frmB l ks⟩) : BCalls E 78 args ks Q :=
  BCalls.mk fun l => a78 hE (h l)
theorem c79 : cFn Tryd.prog (mtOf (Tryd.f79.body.getD .skip)) Tryd.f79 = some ac79 := by kernel_rfl
theorem a79 {E : Env} (hE : E.P = Tryd.prog) {args : List AV} {H : List Blk} {Q : AV → List Blk → Prop} (h : wpc E H ac79.body (retQ E H ac79.results Q) ⟨enterTm args ac79.ntmps, H⟩) : ACalls E 79 args H Q :=
  ACalls.enter (by rw [hE]; exact hm) (by rw [hE]; exact Tryd.func79) (by rw [hE]; exact c79) h
theorem b79 {E : Env} (hE : E.P = Tryd.prog) {args : List AV} {ks : List BK} {Q : AV → List BK → Prop} (h : ∀ l, wpc E (frmB l ks) ac79.body (retQ E (frmB l ks) ac79.results (RB l ks Q)) ⟨enterTm args ac79.ntmps, frmB l ks⟩) : BCalls E 79 args ks Q :=
  BCalls.mk fun l => a79 hE (h l)
theorem c107 : cFn Tryd.prog (mtOf (Tryd.f107.body.getD .skip)) Tryd.f107 = some ac107 := by kernel_rfl
theorem a107 {E : Env} (hE : E.P = Tryd.prog) {args : List AV} {H : List Blk} {Q : AV → List Blk → Prop} (h : wpc E H ac107.body (retQ E H ac107.results Q) ⟨enterTm args ac107.ntmps, H⟩) : ACalls E 107 args H Q :=
  ACalls.enter (by rw [hE]; exact hm) (by rw [hE]; exact Tryd.func107) (by rw [hE]; exact c107) h
theorem b107 {E : Env} (hE : E.P = Tryd.prog) {args : List AV} {ks : List BK} {Q : AV → List BK → Prop} (h : ∀ l, wpc E (frmB l ks) ac107.body (retQ E (frmB l ks) ac107.results (RB l ks Q)) ⟨enterTm args ac107.ntmps, frmB l ks⟩) : BCalls E 107 args ks Q :=
  BCalls.mk fun l => a107 hE (h l)
theorem c108 : cFn Tryd.prog (mtOf (Tryd.f108.body.getD .skip)) Tryd.f108 = some ac108 := by kernel_rfl
theorem a108 {E : Env} (hE : E.P = Tryd.prog) {args : List AV} {H : List Blk} {Q : AV → List Blk → Prop} (h : wpc E H ac108.body (retQ E H ac108.results Q) ⟨enterTm args ac108.ntmps, H⟩) : ACalls E 108 args H Q :=
  ACalls.enter (by rw [hE]; exact hm) (by rw [hE]; exact Tryd.func108) (by rw [hE]; exact c108) h
theorem p108 {E : Env} (hE : E.P = Tryd.prog) {args : List AV} {Q : AV → Prop} (h : ∀ l, wpc E (frm l) ac108.body (retQ E (frm l) ac108.results fun r H' => hb 0 r = true ∧ Q r ∧ H' = frm l) ⟨enterTm args ac108.ntmps, frm l⟩) (hp : hbL 0 args = true := by rfl) : PCalls E 108 args Q :=
  PCalls.mk hp fun l => a108 hE (h l)
theorem c109 : cFn Tryd.prog (mtOf (Tryd.f109.body.getD .skip)) Tryd.f109 = some ac109 := by kernel_rfl
theorem a109 {E : Env} (hE : E.P = Tryd.prog) {args : List AV} {H : List Blk} {Q : AV → List Blk → Prop} (h : wpc E H ac109.body (retQ E H ac109.results Q) ⟨enterTm args ac109.ntmps, H⟩) : ACalls E 109 args H Q :=
  ACalls.enter (by rw [hE]; exact hm) (by rw [hE]; exact Tryd.func109) (by rw [hE]; exact c109) h
theorem b109 {E : Env} (hE : E.P = Tryd.prog) {args : List AV} {ks : List BK} {Q : AV → List BK → Prop} (h : ∀ l, wpc E (frmB l ks) ac109.body (retQ E (frmB l ks) ac109.results (RB l ks Q)) ⟨enterTm args ac109.ntmps, frmB l ks⟩) : BCalls E 109 args ks Q :=
  BCalls.mk fun l => a109 hE (h l)
theorem c110 : cFn Tryd.prog (mtOf (Tryd.f110.body.getD .skip)) Tryd.f110 = some ac110 := by kernel_rfl
theorem a110 {E : Env} (hE : E.P = Tryd.prog) {args : List AV} {H : List Blk} {Q : AV → List Blk → Prop} (h : wpc E H ac110.body (retQ E H ac110.results Q) ⟨enterTm args ac110.ntmps, H⟩) : ACalls E 110 args H Q :=
  ACalls.enter (by rw [hE]; exact hm) (by rw [hE]; exact Tryd.func110) (by rw [hE]; exact c110) h
theorem b110 {E : Env} (hE : E.P = Tryd.prog) {args : List AV} {ks : List BK} {Q : AV → List BK → Prop} (h : ∀ l, wpc E (frmB l ks) ac110.body (retQ E (frmB l ks) ac110.results (RB l ks Q)) ⟨enterTm args ac110.ntmps, frmB l ks⟩) : BCalls E 110 args ks Q :=
  BCalls.mk fun l => a110 hE (h l)
theorem c111 : cFn Tryd.prog (mtOf (Tryd.f111.body.getD .skip)) Tryd.f111 = some ac111 := by kernel_rfl
theorem a111 {E : Env} (hE : E.P = Tryd.prog) {args : List AV} {H : List Blk} {Q : AV → List Blk → Prop} (h : wpc E H ac111.body (retQ E H ac111.results Q) ⟨enterTm args ac111.ntmps, H⟩) : ACalls E 111 args H Q :=
  ACalls.enter (by rw [hE]; exact hm) (by rw [hE]; exact Tryd.func111) (by rw [hE]; exact c111) h
theorem b111 {E : Env} (hE : E.P = Tryd.prog) {args : List AV} {ks : List BK} {Q : AV → List BK → Prop} (h : ∀ l, wpc E (frmB l ks) ac111.body (retQ E (frmB l ks) ac111.results (RB l ks Q)) ⟨enterTm args ac111.ntmps, frmB l ks⟩) : BCalls E 111 args ks Q :=
  BCalls.mk fun l => a111 hE (h l)
theorem c112 : cFn Tryd.prog (mtOf (Tryd.f112.body.getD .skip)) Tryd.f112 = some ac112 := by kernel_rfl
theorem a112 {E : Env} (hE : E.P = Tryd.prog) {args : List AV} {H : List Blk} {Q : AV → List Blk → Prop} (h : wpc E H ac112.body (retQ E H ac112.results Q) ⟨enterTm args ac112.ntmps, H⟩) : ACalls E 112 args H Q :=
  ACalls.enter (by rw [hE]; exact hm) (by rw [hE]; exact Tryd.func112) (by rw [hE]; exact c112) h
theorem p112 {E : Env} (hE : E.P = Tryd.prog) {args : List AV} {Q : AV → Prop} (h : ∀ l, wpc E (frm l) ac112.body (retQ E (frm l) ac112.results fun r H' => hb 0 r = true ∧ Q r ∧ H' = frm l) ⟨enterTm args ac112.ntmps, frm l⟩) (hp : hbL 0 args = true := by rfl) : PCalls E 112 args Q :=
  PCalls.mk hp fun l => a112 hE (h l)
theorem c52 : cFn Tryd.prog (mtOf (Tryd.f52.body.getD .skip)) Tryd.f52 = some ac52 := by kernel_rfl
theorem a52 {E : Env} (hE : E.P = Tryd.prog) {args : List AV} {H : List Blk} {Q : AV → List Blk → Prop} (h : wpc E H ac52.body (retQ E H ac52.results Q) ⟨enterTm args ac52.ntmps, H⟩) : ACalls E 52 args H Q :=
  ACalls.enter (by rw [hE]; exact hm) (by rw [hE]; exact Tryd.func52) (by rw [hE]; exact c52) h
theorem p52 {E : Env} (hE : E.P = Tryd.prog) {args : List AV} {Q : AV → Prop} (h : ∀ l, wpc E (frm l) ac52.body (retQ E (frm l) ac52.results fun r H' => hb 0 r = true ∧ Q r ∧ H' = frm l) ⟨enterTm args ac52.ntmps, frm l⟩) (hp : hbL 0 args = true := by rfl) : PCalls E 52 args Q :=
  PCalls.mk hp fun l => a52 hE (h l)
theorem c58 : cFn Tryd.prog (mtOf (Tryd.f58.body.getD .skip)) Tryd.f58 = some ac58 := by kernel_rfl
theorem a58 {E : Env} (hE : E.P = Tryd.prog) {args : List AV} {H : List Blk} {Q : AV → List Blk → Prop} (h : wpc E H ac58.body (retQ E H ac58.results Q) ⟨enterTm args ac58.ntmps, H⟩) : ACalls E 58 args H Q :=
  ACalls.enter (by rw [hE]; exact hm) (by rw [hE]; exact Tryd.func58) (by rw [hE]; exact c58) h
theorem p58 {E : Env} (hE : E.P = Tryd.prog) {args : List AV} {Q : AV → Prop} (h : ∀ l, wpc E (frm l) ac58.body (retQ E (frm l) ac58.results fun r H' => hb 0 r = true ∧ Q r ∧ H' = frm l) ⟨enterTm args ac58.ntmps, frm l⟩) (hp : hbL 0 args = true := by rfl) : PCalls E 58 args Q :=
  PCalls.mk hp fun l => a58 hE (h l)
theorem c10 : cFn Tryd.prog (mtOf (Tryd.f10.body.getD .skip)) Tryd.f10 = some ac10 := by kernel_rfl
theorem a10 {E : Env} (hE : E.P = Tryd.prog) {args : List AV} {H : List Blk} {Q : AV → List Blk → Prop} (h : wpc E H ac10.body (retQ E H ac10.results Q) ⟨enterTm args ac10.ntmps, H⟩) : ACalls E 10 args H Q :=
  ACalls.enter (by rw [hE]; exact hm) (by rw [hE]; exact Tryd.func10) (by rw [hE]; exact c10) h
theorem p10 {E : Env} (hE : E.P = Tryd.prog) {args : List AV} {Q : AV → Prop} (h : ∀ l, wpc E (frm l) ac10.body (retQ E (frm l) ac10.results fun r H' => hb 0 r = true ∧ Q r ∧ H' = frm l) ⟨enterTm args ac10.ntmps, frm l⟩) (hp : hbL 0 args = true := by rfl) : PCalls E 10 args Q :=
  PCalls.mk hp fun l => a10 hE (h l)
theorem c11 : cFn Tryd.prog (mtOf (Tryd.f11.body.getD .skip)) Tryd.f11 = some ac11 := by kernel_rfl
theorem a11 {E : Env} (hE : E.P = Tryd.prog) {args : List AV} {H : List Blk} {Q : AV → List Blk → Prop} (h : wpc E H ac11.body (retQ E H ac11.results Q) ⟨enterTm args ac11.ntmps, H⟩) : ACalls E 11 args H Q :=
  ACalls.enter (by rw [hE]; exact hm) (by rw [hE]; exact Tryd.func11) (by rw [hE]; exact c11) h
theorem p11 {E : Env} (hE : E.P = Tryd.prog) {args : List AV} {Q : AV → Prop} (h : ∀ l, wpc E (frm l) ac11.body (retQ E (frm l) ac11.results fun r H' => hb 0 r = true ∧ Q r ∧ H' = frm l) ⟨enterTm args ac11.ntmps, frm l⟩) (hp : hbL 0 args = true := by rfl) : PCalls E 11 args Q :=
  PCalls.mk hp fun l => a11 hE (h l)
theorem c133 : cFn Tryd.prog (mtOf (Tryd.f133.body.getD .skip)) Tryd.f133 = some ac133 := by kernel_rfl
theorem a133 {E : Env} (hE : E.P = Tryd.prog) {args : List AV} {H : List Blk} {Q : AV → List Blk → Prop} (h : wpc E H ac133.body (retQ E H ac133.results Q) ⟨enterTm args ac133.ntmps, H⟩) : ACalls E 133 args H Q :=
  ACalls.enter (by rw [hE]; exact hm) (by rw [hE]; exact Tryd.func133) (by rw [hE]; exact c133) h
theorem p133 {E : Env} (hE : E.P = Tryd.prog) {args : List AV} {Q : AV → Prop} (h : ∀ l, wpc E (frm l) ac133.body (retQ E (frm l) ac133.results fun r H' => hb 0 r = true ∧ Q r ∧ H' = frm l) ⟨enterTm args ac133.ntmps, frm l⟩) (hp : hbL 0 args = true := by rfl) : PCalls E 133 args Q :=
  PCalls.mk hp fun l => a133 hE (h l)
end Ink.D

namespace Ink.D
open Go Go.Proofs
set_option maxRecDepth 100000
set_option linter.unusedSimpArgs false
set_option linter.unusedVariables false
variable {E : Env} (hE : E.P = Tryd.prog)

theorem obE_eq (e : List UInt8 × Ob) : obE e = .str e.1 :: obC e.2 := by obtain ⟨a, b⟩ := e; rfl

/-- the place of an entry -/
def ixK (key : List UInt8) : List (List UInt8 × Ob) → Int → Int
  | [], _ => -1
  | e :: r, i => if e.1 = key then i else ixK key r (i + 1)

theorem obD_get {d : List (List UInt8 × Ob)} {k : Nat} (h : k < d.length) : (obD d).getD (k : Int).toNat [] = obE d[k] := by
  rw [obD_map]; simp [h]

theorem obD_length (d : List (List UInt8 × Ob)) : (obD d).length = d.length := by rw [obD_map]; simp

include hE
theorem dictionary (k n f : Int) (s : List UInt8) (l_ : List Ob) (d : List (List UInt8 × Ob)) : PCalls E 52 [.agg (obC (.mk k n f s l_ d))] (· = .bool (decide (k = 6 ∨ k = 8))) := by
  refine p52 hE (fun l => ?_) (by simp [hbL, hb, obC_hb])
  unfold obC
  conv => whnf
  repeat' (first
    | (refine And.intro ?_ ?_; (focus (first | omega | decide | (unfold inI64; omega) | (simp only [List.length_append, List.length_cons, List.length_nil] <;> omega) | (refine ⟨?_, ?_⟩ <;> omega) | (refine ⟨?_, ?_, ?_, ?_, ?_, ?_⟩ <;> first | rfl | trivial | decide | omega | (simp [bytesAV_length] <;> omega)) | (simp <;> omega) | (unfold inI64; simp only [List.length_append, List.length_cons, List.length_nil] <;> omega))); conv => whnf)
    | (refine brD (fun _ => ?_) (fun _ => ?_) <;> first | (exfalso; omega) | (conv => whnf))
    | (refine brB (fun _ => ?_) (fun _ => ?_) <;> conv => whnf))
  all_goals
    refine RetG.drop rfl rfl rfl ⟨rfl, congrArg AV.bool ?_, rfl⟩
    first | (symm; rw [decide_eq_true (by omega)]; done) | (rw [decide_eq_decide]; omega)

theorem isKey81 (e : List UInt8 × Ob) (key : List UInt8) : PCalls E 81 [.agg (obE e), .pimm [.str key]] (· = .bool (decide (e.1 = key))) := by
  obtain ⟨a, o⟩ := e
  obtain ⟨k, n, f, s, l_, d⟩ := o
  refine p81 hE (fun l => ?_) (by simp [hbL, hb, obE_hb])
  unfold obE obC
  conv => whnf
  repeat' (first
    | (refine And.intro ?_ ?_; (focus (first | omega | decide | (unfold inI64; omega) | (simp only [List.length_append, List.length_cons, List.length_nil] <;> omega) | (refine ⟨?_, ?_⟩ <;> omega) | (refine ⟨?_, ?_, ?_, ?_, ?_, ?_⟩ <;> first | rfl | trivial | decide | omega | (simp [bytesAV_length] <;> omega)) | (simp <;> omega) | (unfold inI64; simp only [List.length_append, List.length_cons, List.length_nil] <;> omega))); conv => whnf)
    | (refine brD (fun _ => ?_) (fun _ => ?_) <;> first | (exfalso; omega) | (conv => whnf))
    | (refine brB (fun _ => ?_) (fun _ => ?_) <;> conv => whnf))
  all_goals exact RetG.drop rfl rfl rfl ⟨rfl, rfl, rfl⟩

theorem isKey56 (e : List UInt8 × Ob) (key : List UInt8) : PCalls E 56 [.agg (obE e), .pimm [.str key]] (· = .bool (decide (e.1 = key))) := by
  obtain ⟨a, o⟩ := e
  obtain ⟨k, n, f, s, l_, d⟩ := o
  refine p56 hE (fun l => ?_) (by simp [hbL, hb, obE_hb])
  unfold obE obC
  conv => whnf
  repeat' (first
    | (refine And.intro ?_ ?_; (focus (first | omega | decide | (unfold inI64; omega) | (simp only [List.length_append, List.length_cons, List.length_nil] <;> omega) | (refine ⟨?_, ?_⟩ <;> omega) | (refine ⟨?_, ?_, ?_, ?_, ?_, ?_⟩ <;> first | rfl | trivial | decide | omega | (simp [bytesAV_length] <;> omega)) | (simp <;> omega) | (unfold inI64; simp only [List.length_append, List.length_cons, List.length_nil] <;> omega))); conv => whnf)
    | (refine brD (fun _ => ?_) (fun _ => ?_) <;> first | (exfalso; omega) | (conv => whnf))
    | (refine brB (fun _ => ?_) (fun _ => ?_) <;> conv => whnf))
  all_goals exact RetG.drop rfl rfl rfl ⟨rfl, rfl, rfl⟩

omit hE in
theorem ixK_drop (key : List UInt8) {d : List (List UInt8 × Ob)} {x : Nat} (h : x < d.length) : ixK key (d.drop x) x = if d[x].1 = key then (x : Int) else ixK key (d.drop (x + 1)) (x + 1 : Nat) := by
  rw [List.drop_eq_getElem_cons h, ixK]; rfl

theorem indexFunc (f : FuncId) (key : List UInt8) (hf : ∀ e, PCalls E f [.agg (obE e), .pimm [.str key]] (· = .bool (decide (e.1 = key)))) (d : List (List UInt8 × Ob)) (hd : d.length < big) :
    PCalls E 80 [.imm 7 (obD d), .fn (.func f) [] [.pimm [.str key]]] (· = .int .i64 (ixK key d 0)) := by
  have hl := obD_length d
  unfold big at hd
  refine p80 hE (fun l => ?_) (by simp [hbL, hb, obD_hb])
  conv => whnf
  repeat' (first
    | (refine And.intro ?_ ?_; (focus (first | omega | decide | (unfold inI64; omega) | (simp only [List.length_append, List.length_cons, List.length_nil] <;> omega) | (refine ⟨?_, ?_⟩ <;> omega) | (refine ⟨?_, ?_, ?_, ?_, ?_, ?_⟩ <;> first | rfl | trivial | decide | omega | (simp [bytesAV_length] <;> omega)) | (simp <;> omega) | (unfold inI64; simp only [List.length_append, List.length_cons, List.length_nil] <;> omega))); conv => whnf)
    | (refine brD (fun _ => ?_) (fun _ => ?_) <;> first | (exfalso; omega) | (conv => whnf))
    | (refine brB (fun _ => ?_) (fun _ => ?_) <;> conv => whnf))
  refine LoopG.s (fun x : Nat => x ≤ d.length ∧ ixK key (d.drop x) x = ixK key d 0) 19 (fun x => [(0, .imm 7 (obD d)), (1, .fn (.func f) [] [.pimm [.str key]]), (4, .int .i64 0), (6, .imm 7 (obD d)), (7, .int .i64 (obD d).length), (8, .int .i64 x)]) (fun _ => frm l) (fun x => d.length - x) 0 ⟨by simp, by simp⟩ rfl ⟨rfl, rfl, rfl, rfl, rfl, rfl⟩ rfl ?_
  rintro x ⟨h1, h2⟩
  by_cases hx : x < d.length
  · have hg := obD_get hx
    have hk := ixK_drop key hx
    have hp := hf d[x]
    have hcl : ∃ c0 c1 c2 c3 c4 c5 c6, obE d[x] = [c0, c1, c2, c3, c4, c5, c6] := by
      generalize d[x] = e; obtain ⟨a, o⟩ := e; cases o; exact ⟨_, _, _, _, _, _, _, rfl⟩
    obtain ⟨c0, c1, c2, c3, c4, c5, c6, hc⟩ := hcl
    rw [hc] at hg hp
    generalize d[x].1 = y at *
    conv => whnf
    repeat' (first
      | (rw [hg]; conv => whnf)
      | (refine And.intro ?_ ?_; (focus (first | omega | decide | (unfold inI64; omega) | (simp only [List.length_append, List.length_cons, List.length_nil] <;> omega) | (refine ⟨?_, ?_⟩ <;> omega) | (refine ⟨?_, ?_, ?_, ?_, ?_, ?_⟩ <;> first | rfl | trivial | decide | omega | (simp [bytesAV_length] <;> omega)) | (simp <;> omega) | (unfold inI64; simp only [List.length_append, List.length_cons, List.length_nil] <;> omega))); conv => whnf)
      | (refine brD (fun _ => ?_) (fun _ => ?_) <;> first | (exfalso; omega) | (conv => whnf))
      | (refine brB (fun _ => ?_) (fun _ => ?_) <;> conv => whnf)
      | ((first | refine CallG.e (hp) ?_ | refine CallD.e (hp) ?_ | refine CallQ.e (hp) ?_); conv => whnf))
    · rename_i h
      rw [if_pos h] at hk
      exact RetG.q ⟨rfl, congrArg (AV.int .i64) (by rw [← h2, hk]), rfl⟩
    · rename_i h
      rw [if_neg h] at hk
      exact ⟨x + 1, ⟨⟨by omega, by rw [← hk, h2]⟩, by omega⟩, Wk.slots rfl ⟨rfl, rfl, rfl, rfl, rfl, rfl⟩⟩
  · conv => whnf
    repeat' (first
      | (refine And.intro ?_ ?_; (focus (first | omega | decide | (unfold inI64; omega) | (simp only [List.length_append, List.length_cons, List.length_nil] <;> omega) | (refine ⟨?_, ?_⟩ <;> omega) | (refine ⟨?_, ?_, ?_, ?_, ?_, ?_⟩ <;> first | rfl | trivial | decide | omega | (simp [bytesAV_length] <;> omega)) | (simp <;> omega) | (unfold inI64; simp only [List.length_append, List.length_cons, List.length_nil] <;> omega))); conv => whnf)
      | (refine brD (fun _ => ?_) (fun _ => ?_) <;> first | (exfalso; omega) | (conv => whnf))
      | (refine brB (fun _ => ?_) (fun _ => ?_) <;> conv => whnf))
    have : x = d.length := by omega
    subst this
    rw [List.drop_length] at h2
    exact RetG.q ⟨rfl, congrArg (AV.int .i64) h2, rfl⟩

theorem place (d : List (List UInt8 × Ob)) (key : List UInt8) (hd : d.length < big) : PCalls E 53 [.imm 7 (obD d), .str key] (· = .int .i64 (ixK key d 0)) := by
  have h := indexFunc hE 81 key (fun e => isKey81 hE e key) d hd
  have hD : ∀ n0, hbLL n0 (obD d) = true := fun n0 => obD_hb d
  refine PCalls.mk (by simp [hbL, hb, hD]) fun l => ?_
  refine ACalls.enterW (by rw [hE]; exact hm) (by rw [hE]; exact Tryd.func53) (by rw [hE]; exact c53) rfl ⟨slots 8 [(0, .imm 7 (obD d)), (3, .pimm [.str key])], frm l⟩ ?_ ?_
  · conv => whnf
    repeat' (first
      | (refine And.intro ?_ ?_; (focus (first | omega | decide | (unfold inI64; omega) | (simp only [List.length_append, List.length_cons, List.length_nil] <;> omega) | (refine ⟨?_, ?_⟩ <;> omega) | (refine ⟨?_, ?_, ?_, ?_, ?_, ?_⟩ <;> first | rfl | trivial | decide | omega | (simp [bytesAV_length] <;> omega)) | (simp <;> omega) | (unfold inI64; simp only [List.length_append, List.length_cons, List.length_nil] <;> omega))); conv => whnf)
      | (refine brD (fun _ => ?_) (fun _ => ?_) <;> first | (exfalso; omega) | (conv => whnf))
      | (refine brB (fun _ => ?_) (fun _ => ?_) <;> conv => whnf))
    exact Wk.cut 1 rfl rfl rfl ⟨⟨_, rfl, .same _ (hD 1)⟩, ⟨_, rfl, .ptr 1 0 0 9 [.str key] [.str key] rfl (Nat.le_refl 1) (by simp [sc]) (by simp) (fun j x y hx hy => by
      rw [Nat.zero_add, hx] at hy; cases hy
      match j, hx with
      | 0, hx => cases hx; exact .same _ rfl)⟩, trivial⟩ rfl rfl
  · conv => whnf
    repeat' (first
      | (refine And.intro ?_ ?_; (focus (first | omega | decide | (unfold inI64; omega) | (simp only [List.length_append, List.length_cons, List.length_nil] <;> omega) | (refine ⟨?_, ?_⟩ <;> omega) | (refine ⟨?_, ?_, ?_, ?_, ?_, ?_⟩ <;> first | rfl | trivial | decide | omega | (simp [bytesAV_length] <;> omega)) | (simp <;> omega) | (unfold inI64; simp only [List.length_append, List.length_cons, List.length_nil] <;> omega))); conv => whnf)
      | (refine brD (fun _ => ?_) (fun _ => ?_) <;> first | (exfalso; omega) | (conv => whnf))
      | (refine brB (fun _ => ?_) (fun _ => ?_) <;> conv => whnf)
      | ((first | refine CallG.e (h) ?_ | refine CallD.e (h) ?_ | refine CallQ.e (h) ?_); conv => whnf))
    exact RetG.q ⟨rfl, rfl, rfl⟩
end Ink.D

namespace Ink.D
open Go Go.Proofs
set_option maxRecDepth 100000
set_option linter.unusedSimpArgs false
set_option linter.unusedVariables false
variable {E : Env} (hE : E.P = Tryd.prog)

include hE
/-- slices.Clone of some entries, where five blocks stand ahead -/
theorem clone1 (e : List UInt8 × Ob) (d : List (List UInt8 × Ob)) (hd : d.length < 100000000) (b0 b1 b2 b3 b4 : Blk) :
    ACalls E 55 [.imm 7 (obD (e :: d))] [b0, b1, b2, b3, b4] fun r H' => r = .own 5 1 0 (d.length + 1) 7 ∧ H' = [b0, b1, b2, b3, b4, ⟨1, true, .cells 55 (obD (e :: d)).flatten⟩] := by
  refine a55 hE ?_
  have hl := obD_length d
  unfold obD
  conv => whnf
  repeat' (first
    | (refine And.intro ?_ ?_; (focus (first | omega | decide | (unfold inI64; omega) | (simp only [List.length_append, List.length_cons, List.length_nil] <;> omega) | (refine ⟨?_, ?_⟩ <;> omega) | (refine ⟨?_, ?_, ?_, ?_, ?_, ?_⟩ <;> first | rfl | trivial | decide | omega | (simp [bytesAV_length] <;> omega)) | (simp <;> omega) | (unfold inI64; simp only [List.length_append, List.length_cons, List.length_nil] <;> omega))); conv => whnf)
    | (refine brD (fun _ => ?_) (fun _ => ?_) <;> first | (exfalso; omega) | (conv => whnf))
    | (refine brB (fun _ => ?_) (fun _ => ?_) <;> conv => whnf))
  refine RetG.q ⟨?_, ?_⟩
  · rw [List.length_cons, hl, Nat.zero_add, Nat.zero_add]; rfl
  · simp

/-- and of nil -/
theorem clone0 (k : Nat) (H : List Blk) : ACalls E 55 [.lit (.slice none 0 k)] H fun r H' => r = .lit (.slice none 0 0) ∧ H' = H := by
  refine a55 hE ?_
  conv => whnf
  repeat' (first
    | (refine And.intro ?_ ?_; (focus (first | omega | decide | (unfold inI64; omega) | (simp only [List.length_append, List.length_cons, List.length_nil] <;> omega) | (refine ⟨?_, ?_⟩ <;> omega) | (refine ⟨?_, ?_, ?_, ?_, ?_, ?_⟩ <;> first | rfl | trivial | decide | omega | (simp [bytesAV_length] <;> omega)) | (simp <;> omega) | (unfold inI64; simp only [List.length_append, List.length_cons, List.length_nil] <;> omega))); conv => whnf)
    | (refine brD (fun _ => ?_) (fun _ => ?_) <;> first | (exfalso; omega) | (conv => whnf))
    | (refine brB (fun _ => ?_) (fun _ => ?_) <;> conv => whnf))
  exact RetG.q ⟨rfl, rfl⟩

/-- and of an empty one that is not nil -/
theorem cloneE (a : Addr) (cap : Nat) (b0 b1 b2 b3 b4 : Blk) :
    ACalls E 55 [.lit (.slice (some a) 0 cap)] [b0, b1, b2, b3, b4] fun r H' => r = .own 5 1 0 0 7 ∧ H' = [b0, b1, b2, b3, b4, ⟨1, true, .cells 55 []⟩] := by
  refine a55 hE ?_
  conv => whnf
  repeat' (first
    | (refine And.intro ?_ ?_; (focus (first | omega | decide | (unfold inI64; omega) | (simp only [List.length_append, List.length_cons, List.length_nil] <;> omega) | (refine ⟨?_, ?_⟩ <;> omega) | (refine ⟨?_, ?_, ?_, ?_, ?_, ?_⟩ <;> first | rfl | trivial | decide | omega | (simp [bytesAV_length] <;> omega)) | (simp <;> omega) | (unfold inI64; simp only [List.length_append, List.length_cons, List.length_nil] <;> omega))); conv => whnf)
    | (refine brD (fun _ => ?_) (fun _ => ?_) <;> first | (exfalso; omega) | (conv => whnf))
    | (refine brB (fun _ => ?_) (fun _ => ?_) <;> conv => whnf))
  exact RetG.q ⟨rfl, rfl⟩
end Ink.D

namespace Ink.D
open Go
/-- slices.DeleteFunc[[]inkstand/api.Entry,inkstand/api.Entry] -/
def ac54 : AF := ⟨42, [.tmp 4],
 .seq (.region [⟨(some 4), .move (.av (.lit (.slice none 0 0))), none, false⟩] false)
 (.seq (.region [⟨(some 8), .move (.tmp 0), none, false⟩,
 ⟨(some 9), .move (.tmp 1), none, false⟩,
 ⟨(some 10), .call (.av (.fn (.func 80) [] [])) [(.tmp 8), (.tmp 9)], none, false⟩,
 ⟨(some 5), .move (.tmp 10), none, false⟩] false)
 (.seq (.seq (.region [⟨(some 11), .move (.tmp 5), none, false⟩,
 ⟨(some 12), .bin .eql .other true (.tmp 11) (.av (.int .i64 (-1))), none, false⟩] false)
 (.cond (.tmp 12)
 (.seq (.region [⟨(some 13), .move (.tmp 0), none, false⟩,
 ⟨(some 4), .move (.tmp 13), none, false⟩] false)
 (.ret))
 (.skip)))
 (.seq (.seq (.region [⟨(some 14), .move (.tmp 5), none, false⟩,
 ⟨(some 15), .bin .add .other true (.tmp 14) (.av (.int .i64 1)), none, false⟩,
 ⟨(some 6), .move (.tmp 15), none, false⟩] false)
 (.block 0
 (.loop
 (.seq (.seq (.region [⟨(some 16), .move (.tmp 6), none, false⟩,
 ⟨(some 17), .move (.tmp 0), none, false⟩,
 ⟨(some 18), .len (.slice 7) (.tmp 17), none, false⟩,
 ⟨(some 19), .bin .lss .other true (.tmp 16) (.tmp 18), none, false⟩] false)
 (.cond (.tmp 19)
 (.skip)
 (.exit 0)))
 (.seq (.block 1
 (.seq (.region [⟨(some 22), .move (.tmp 0), none, false⟩,
 ⟨(some 23), .move (.tmp 6), none, false⟩,
 ⟨(some 24), .indexAddr none 7 (.tmp 22) (.tmp 23), none, false⟩,
 ⟨(some 25), .load (some 7) (.tmp 24), none, false⟩,
 ⟨(some 7), .alloc 55 [(.str []), (.int .i64 0), (.int .i64 0), (.int .i64 0), (.str []), (.lit (.slice none 0 0)), (.lit (.slice none 0 0))], none, false⟩,
 ⟨none, .store 7 (.tmp 7) (.tmp 25), none, false⟩] false)
 (.seq (.region [⟨(some 26), .move (.tmp 1), none, false⟩,
 ⟨(some 27), .load (some 7) (.tmp 7), none, false⟩,
 ⟨(some 28), .call (.tmp 26) [(.tmp 27)], none, false⟩,
 ⟨(some 29), .un .not false (.tmp 28), none, false⟩] false)
 (.cond (.tmp 29)
 (.seq (.region [⟨(some 30), .move (.tmp 0), none, false⟩,
 ⟨(some 31), .move (.tmp 5), none, false⟩,
 ⟨(some 32), .load (some 7) (.tmp 7), none, false⟩,
 ⟨(some 33), .indexAddr none 7 (.tmp 30) (.tmp 31), none, false⟩,
 ⟨none, .store 7 (.tmp 33) (.tmp 32), none, false⟩] false)
 (.region [⟨(some 34), .move (.tmp 5), none, false⟩,
 ⟨(some 35), .bin .add .other true (.tmp 34) (.av (.int .i64 1)), none, false⟩,
 ⟨(some 5), .move (.tmp 35), none, false⟩] false))
 (.skip)))))
 (.region [⟨(some 20), .move (.tmp 6), none, false⟩,
 ⟨(some 21), .bin .add .other true (.tmp 20) (.av (.int .i64 1)), none, false⟩,
 ⟨(some 6), .move (.tmp 21), none, false⟩] false))))))
 (.seq (.region [⟨(some 36), .move (.tmp 0), none, false⟩,
 ⟨(some 37), .move (.tmp 5), none, false⟩,
 ⟨(some 38), .slice (.slice 7) (.tmp 36) (some (.tmp 37)) none, none, false⟩,
 ⟨none, .xop (.clear 7 [(.str []), (.int .i64 0), (.int .i64 0), (.int .i64 0), (.str []), (.lit (.slice none 0 0)), (.lit (.slice none 0 0))]) [(.tmp 38)], none, false⟩] false)
 (.seq (.region [⟨(some 39), .move (.tmp 0), none, false⟩,
 ⟨(some 40), .move (.tmp 5), none, false⟩,
 ⟨(some 41), .slice (.slice 7) (.tmp 39) none (some (.tmp 40)), none, false⟩,
 ⟨(some 4), .move (.tmp 41), none, false⟩] false)
 (.ret))))))⟩
/-- slices.Insert[[]inkstand/api.Entry,inkstand/api.Entry] -/
def ac57 : AF := ⟨95, [.tmp 6],
 .seq (.region [⟨(some 6), .move (.av (.lit (.slice none 0 0))), none, false⟩] false)
 (.seq (.region [⟨(some 10), .move (.tmp 0), none, false⟩,
 ⟨(some 11), .move (.tmp 1), none, false⟩,
 ⟨(some 12), .slice (.slice 7) (.tmp 10) (some (.tmp 11)) none, none, false⟩] false)
 (.seq (.region [⟨(some 13), .move (.tmp 2), none, false⟩,
 ⟨(some 14), .len (.slice 7) (.tmp 13), none, false⟩,
 ⟨(some 7), .move (.tmp 14), none, false⟩] false)
 (.seq (.seq (.region [⟨(some 15), .move (.tmp 7), none, false⟩,
 ⟨(some 16), .bin .eql .other true (.tmp 15) (.av (.int .i64 0)), none, false⟩] false)
 (.cond (.tmp 16)
 (.seq (.region [⟨(some 17), .move (.tmp 0), none, false⟩,
 ⟨(some 6), .move (.tmp 17), none, false⟩] false)
 (.ret))
 (.skip)))
 (.seq (.region [⟨(some 18), .move (.tmp 0), none, false⟩,
 ⟨(some 19), .len (.slice 7) (.tmp 18), none, false⟩,
 ⟨(some 8), .move (.tmp 19), none, false⟩] false)
 (.seq (.seq (.region [⟨(some 20), .move (.tmp 1), none, false⟩,
 ⟨(some 21), .move (.tmp 8), none, false⟩,
 ⟨(some 22), .bin .eql .other true (.tmp 20) (.tmp 21), none, false⟩] false)
 (.cond (.tmp 22)
 (.seq (.region [⟨(some 23), .move (.tmp 0), none, false⟩,
 ⟨(some 24), .move (.tmp 2), none, false⟩,
 ⟨(some 25), .append 55 7 104 [(.str []), (.int .i64 0), (.int .i64 0), (.int .i64 0), (.str []), (.lit (.slice none 0 0)), (.lit (.slice none 0 0))] (.tmp 23) (.tmp 24), none, false⟩,
 ⟨(some 6), .move (.tmp 25), none, false⟩] false)
 (.ret))
 (.skip)))
 (.seq (.seq (.region [⟨(some 26), .move (.tmp 8), none, false⟩,
 ⟨(some 27), .move (.tmp 7), none, false⟩,
 ⟨(some 28), .bin .add .other true (.tmp 26) (.tmp 27), none, false⟩,
 ⟨(some 29), .move (.tmp 0), none, false⟩,
 ⟨(some 30), .xop .cap [(.tmp 29)], none, false⟩,
 ⟨(some 31), .bin .gtr .other true (.tmp 28) (.tmp 30), none, false⟩] false)
 (.cond (.tmp 31)
 (.seq (.region [⟨(some 32), .move (.tmp 0), none, false⟩,
 ⟨(some 33), .move (.tmp 1), none, false⟩,
 ⟨(some 34), .slice (.slice 7) (.tmp 32) none (some (.tmp 33)), none, false⟩,
 ⟨(some 35), .move (.tmp 8), none, false⟩,
 ⟨(some 36), .move (.tmp 7), none, false⟩,
 ⟨(some 37), .bin .add .other true (.tmp 35) (.tmp 36), none, false⟩,
 ⟨(some 38), .move (.tmp 1), none, false⟩,
 ⟨(some 39), .bin .sub .other true (.tmp 37) (.tmp 38), none, false⟩,
 ⟨(some 40), .xop (.appendZ 55 7 104 [(.str []), (.int .i64 0), (.int .i64 0), (.int .i64 0), (.str []), (.lit (.slice none 0 0)), (.lit (.slice none 0 0))]) [(.tmp 34), (.tmp 39)], none, false⟩,
 ⟨(some 9), .move (.tmp 40), none, false⟩] false)
 (.seq (.region [⟨(some 41), .move (.tmp 9), none, false⟩,
 ⟨(some 42), .move (.tmp 1), none, false⟩,
 ⟨(some 43), .slice (.slice 7) (.tmp 41) (some (.tmp 42)) none, none, false⟩,
 ⟨(some 44), .move (.tmp 2), none, false⟩,
 ⟨(some 45), .xop (.copy 7) [(.tmp 43), (.tmp 44)], none, false⟩] false)
 (.seq (.region [⟨(some 46), .move (.tmp 9), none, false⟩,
 ⟨(some 47), .move (.tmp 1), none, false⟩,
 ⟨(some 48), .move (.tmp 7), none, false⟩,
 ⟨(some 49), .bin .add .other true (.tmp 47) (.tmp 48), none, false⟩,
 ⟨(some 50), .slice (.slice 7) (.tmp 46) (some (.tmp 49)) none, none, false⟩,
 ⟨(some 51), .move (.tmp 0), none, false⟩,
 ⟨(some 52), .move (.tmp 1), none, false⟩,
 ⟨(some 53), .slice (.slice 7) (.tmp 51) (some (.tmp 52)) none, none, false⟩,
 ⟨(some 54), .xop (.copy 7) [(.tmp 50), (.tmp 53)], none, false⟩] true)
 (.seq (.region [⟨(some 55), .move (.tmp 9), none, false⟩,
 ⟨(some 6), .move (.tmp 55), none, false⟩] false)
 (.ret)))))
 (.skip)))
 (.seq (.region [⟨(some 56), .move (.tmp 0), none, false⟩,
 ⟨(some 57), .move (.tmp 8), none, false⟩,
 ⟨(some 58), .move (.tmp 7), none, false⟩,
 ⟨(some 59), .bin .add .other true (.tmp 57) (.tmp 58), none, false⟩,
 ⟨(some 60), .slice (.slice 7) (.tmp 56) none (some (.tmp 59)), none, false⟩,
 ⟨(some 0), .move (.tmp 60), none, false⟩] false)
 (.seq (.seq (.region [⟨(some 61), .move (.tmp 2), none, false⟩,
 ⟨(some 62), .move (.tmp 0), none, false⟩,
 ⟨(some 63), .move (.tmp 1), none, false⟩,
 ⟨(some 64), .move (.tmp 7), none, false⟩,
 ⟨(some 65), .bin .add .other true (.tmp 63) (.tmp 64), none, false⟩,
 ⟨(some 66), .slice (.slice 7) (.tmp 62) (some (.tmp 65)) none, none, false⟩,
 ⟨(some 67), .call (.av (.fn (.func 82) [] [])) [(.tmp 61), (.tmp 66)], none, false⟩,
 ⟨(some 68), .un .not false (.tmp 67), none, false⟩] false)
 (.cond (.tmp 68)
 (.seq (.region [⟨(some 69), .move (.tmp 0), none, false⟩,
 ⟨(some 70), .move (.tmp 1), none, false⟩,
 ⟨(some 71), .move (.tmp 7), none, false⟩,
 ⟨(some 72), .bin .add .other true (.tmp 70) (.tmp 71), none, false⟩,
 ⟨(some 73), .slice (.slice 7) (.tmp 69) (some (.tmp 72)) none, none, false⟩,
 ⟨(some 74), .move (.tmp 0), none, false⟩,
 ⟨(some 75), .move (.tmp 1), none, false⟩,
 ⟨(some 76), .slice (.slice 7) (.tmp 74) (some (.tmp 75)) none, none, false⟩,
 ⟨(some 77), .xop (.copy 7) [(.tmp 73), (.tmp 76)], none, false⟩] true)
 (.seq (.region [⟨(some 78), .move (.tmp 0), none, false⟩,
 ⟨(some 79), .move (.tmp 1), none, false⟩,
 ⟨(some 80), .slice (.slice 7) (.tmp 78) (some (.tmp 79)) none, none, false⟩,
 ⟨(some 81), .move (.tmp 2), none, false⟩,
 ⟨(some 82), .xop (.copy 7) [(.tmp 80), (.tmp 81)], none, false⟩] false)
 (.seq (.region [⟨(some 83), .move (.tmp 0), none, false⟩,
 ⟨(some 6), .move (.tmp 83), none, false⟩] false)
 (.ret))))
 (.skip)))
 (.seq (.region [⟨(some 84), .move (.tmp 0), none, false⟩,
 ⟨(some 85), .move (.tmp 8), none, false⟩,
 ⟨(some 86), .slice (.slice 7) (.tmp 84) (some (.tmp 85)) none, none, false⟩,
 ⟨(some 87), .move (.tmp 2), none, false⟩,
 ⟨(some 88), .xop (.copy 7) [(.tmp 86), (.tmp 87)], none, false⟩] false)
 (.seq (.region [⟨(some 89), .move (.tmp 0), none, false⟩,
 ⟨(some 90), .move (.tmp 1), none, false⟩,
 ⟨(some 91), .slice (.slice 7) (.tmp 89) (some (.tmp 90)) none, none, false⟩,
 ⟨(some 92), .move (.tmp 7), none, false⟩,
 ⟨(some 93), .call (.av (.fn (.func 83) [] [])) [(.tmp 91), (.tmp 92)], none, false⟩] false)
 (.seq (.region [⟨(some 94), .move (.tmp 0), none, false⟩,
 ⟨(some 6), .move (.tmp 94), none, false⟩] false)
 (.ret))))))))))))⟩
end Ink.D

namespace Ink.D
open Go Go.Proofs
set_option maxRecDepth 100000
theorem c54 : cFn Tryd.prog (mtOf (Tryd.f54.body.getD .skip)) Tryd.f54 = some ac54 := by kernel_rfl
theorem a54 {E : Env} (hE : E.P = Tryd.prog) {args : List AV} {H : List Blk} {Q : AV → List Blk → Prop} (h : wpc E H ac54.body (retQ E H ac54.results Q) ⟨enterTm args ac54.ntmps, H⟩) : ACalls E 54 args H Q :=
  ACalls.enter (by rw [hE]; exact hm) (by rw [hE]; exact Tryd.func54) (by rw [hE]; exact c54) h
theorem c57 : cFn Tryd.prog (mtOf (Tryd.f57.body.getD .skip)) Tryd.f57 = some ac57 := by kernel_rfl
theorem a57 {E : Env} (hE : E.P = Tryd.prog) {args : List AV} {H : List Blk} {Q : AV → List Blk → Prop} (h : wpc E H ac57.body (retQ E H ac57.results Q) ⟨enterTm args ac57.ntmps, H⟩) : ACalls E 57 args H Q :=
  ACalls.enter (by rw [hE]; exact hm) (by rw [hE]; exact Tryd.func57) (by rw [hE]; exact c57) h
end Ink.D

namespace Ink.D
open Go Go.Proofs
set_option maxRecDepth 100000
set_option linter.unusedSimpArgs false
set_option linter.unusedVariables false
variable {E : Env} (hE : E.P = Tryd.prog)

/-- entries, as cells -/
def cellsD (d : List (List UInt8 × Ob)) : List AV := (obD d).flatten

theorem obE_len (e : List UInt8 × Ob) : (obE e).length = 7 := by obtain ⟨a, o⟩ := e; cases o; rfl

theorem cellsD_append (a b : List (List UInt8 × Ob)) : cellsD (a ++ b) = cellsD a ++ cellsD b := by
  simp [cellsD, obD_map]
theorem cellsD_nil : cellsD [] = [] := rfl
theorem cellsD_cons (e : List UInt8 × Ob) (d : List (List UInt8 × Ob)) : cellsD (e :: d) = obE e ++ cellsD d := by
  simp [cellsD, obD_map]
theorem cellsD_length : ∀ d : List (List UInt8 × Ob), (cellsD d).length = d.length * 7
  | [] => rfl
  | e :: d => by rw [cellsD_cons, List.length_append, cellsD_length d, obE_len, List.length_cons]; omega

theorem cellsD_split {d : List (List UInt8 × Ob)} {k : Nat} (h : k < d.length) : cellsD d = cellsD (d.take k) ++ (obE d[k] ++ cellsD (d.drop (k + 1))) := by
  rw [← cellsD_cons, ← List.drop_eq_getElem_cons h, ← cellsD_append, List.take_append_drop]

theorem cellsD_take (d : List (List UInt8 × Ob)) (X : List AV) {k : Nat} (h : k ≤ d.length) : (cellsD d ++ X).take (k * 7) = cellsD (d.take k) := by
  have e : (cellsD (d.take k)).length = k * 7 := by rw [cellsD_length, List.length_take]; congr 1; omega
  have e2 : cellsD d = cellsD (d.take k) ++ cellsD (d.drop k) := by rw [← cellsD_append, List.take_append_drop]
  rw [e2, List.append_assoc, ← e, List.take_left]

theorem cellsD_drop (d : List (List UInt8 × Ob)) (X : List AV) {k : Nat} (h : k ≤ d.length) : (cellsD d ++ X).drop (k * 7) = cellsD (d.drop k) ++ X := by
  have e : (cellsD (d.take k)).length = k * 7 := by rw [cellsD_length, List.length_take]; congr 1; omega
  have e2 : cellsD d = cellsD (d.take k) ++ cellsD (d.drop k) := by rw [← cellsD_append, List.take_append_drop]
  rw [e2, List.append_assoc, ← e, List.drop_left]

theorem cellsD_get (d : List (List UInt8 × Ob)) (X : List AV) {k : Nat} (h : k < d.length) : ((cellsD d ++ X).drop (k * 7)).take 7 = obE d[k] := by
  rw [cellsD_drop d X (by omega), List.drop_eq_getElem_cons h, cellsD_cons, List.append_assoc]
  rw [List.take_append_of_le_length (by rw [obE_len]; omega), List.take_of_length_le (by rw [obE_len]; omega)]

theorem cellsD_set (d : List (List UInt8 × Ob)) (X : List AV) (e : List UInt8 × Ob) {k : Nat} (h : k < d.length) : (cellsD d ++ X).take (k * 7) ++ (obE e ++ (cellsD d ++ X).drop (k * 7 + 7)) = cellsD (d.set k e) ++ X := by
  have e1 : k * 7 + 7 = (k + 1) * 7 := by omega
  rw [e1, cellsD_take d X (by omega), cellsD_drop d X (by omega), List.set_eq_take_append_cons_drop, if_pos h, cellsD_append, cellsD_cons]
  simp

include hE
theorem isKeyB (e : List UInt8 × Ob) (key : List UInt8) : BCalls E 56 [.agg (obE e), .ptr 1 0 0] [.cells 9 [.str key]] fun r ks => r = .bool (decide (e.1 = key)) ∧ ks = [.cells 9 [.str key]] := by
  obtain ⟨a, o⟩ := e
  obtain ⟨k, n, f, s, l_, d⟩ := o
  refine b56 hE fun l => ?_
  unfold obE obC
  conv => whnf
  repeat' (first
    | (refine And.intro ?_ ?_; (focus (first | omega | decide | (unfold inI64; omega) | (simp only [List.length_append, List.length_cons, List.length_nil] <;> omega) | (refine ⟨?_, ?_⟩ <;> omega) | (refine ⟨?_, ?_, ?_, ?_, ?_, ?_⟩ <;> first | rfl | trivial | decide | omega | (simp [bytesAV_length] <;> omega)) | (simp <;> omega) | (unfold inI64; simp only [List.length_append, List.length_cons, List.length_nil] <;> omega))); conv => whnf)
    | (refine brD (fun _ => ?_) (fun _ => ?_) <;> first | (exfalso; omega) | (conv => whnf))
    | (refine brB (fun _ => ?_) (fun _ => ?_) <;> conv => whnf))
  all_goals exact RetG.drop rfl rfl rfl ⟨rfl, [.cells 9 [.str key]], rfl, rfl, rfl, rfl, rfl⟩

/-- where entries of one's own have a key -/
theorem indexOwn (key : List UInt8) (d : List (List UInt8 × Ob)) (hd : d.length < big) (b0 b1 b3 b4 : Blk) :
    ACalls E 80 [.own 5 1 0 d.length 7, .fn (.func 56) [] [.ptr 2 0 0]] [b0, b1, ⟨0, true, .cells 9 [.str key]⟩, b3, b4, ⟨1, true, .cells 55 (cellsD d ++ [])⟩] fun r H' => r = .int .i64 (ixK key d 0) ∧ H' = [b0, b1, ⟨0, true, .cells 9 [.str key]⟩, b3, b4, ⟨1, true, .cells 55 (cellsD d ++ [])⟩] := by
  have hl := obD_length d
  unfold big at hd
  refine a80 hE ?_
  conv => whnf
  repeat' (first
    | (refine And.intro ?_ ?_; (focus (first | omega | decide | (unfold inI64; omega) | (simp only [List.length_append, List.length_cons, List.length_nil] <;> omega) | (refine ⟨?_, ?_⟩ <;> omega) | (refine ⟨?_, ?_, ?_, ?_, ?_, ?_⟩ <;> first | rfl | trivial | decide | omega | (simp [bytesAV_length] <;> omega)) | (simp <;> omega) | (unfold inI64; simp only [List.length_append, List.length_cons, List.length_nil] <;> omega))); conv => whnf)
    | (refine brD (fun _ => ?_) (fun _ => ?_) <;> first | (exfalso; omega) | (conv => whnf))
    | (refine brB (fun _ => ?_) (fun _ => ?_) <;> conv => whnf))
  refine LoopG.s (fun x : Nat => x ≤ d.length ∧ ixK key (d.drop x) x = ixK key d 0) 19 (fun x => [(0, .own 5 1 0 d.length 7), (1, .fn (.func 56) [] [.ptr 2 0 0]), (4, .int .i64 0), (6, .own 5 1 0 d.length 7), (7, .int .i64 d.length), (8, .int .i64 x)]) (fun _ => [b0, b1, ⟨0, true, .cells 9 [.str key]⟩, b3, b4, ⟨1, true, .cells 55 (cellsD d ++ [])⟩]) (fun x => d.length - x) 0 ⟨by simp, by simp⟩ rfl ⟨rfl, rfl, rfl, rfl, rfl, rfl⟩ rfl ?_
  rintro x ⟨h1, h2⟩
  by_cases hx : x < d.length
  · have hg : ((cellsD d ++ []).drop (0 + (x : Int).toNat * 7)).take 7 = obE d[x] := by rw [Nat.zero_add]; exact cellsD_get d [] hx
    have hg2 : 0 + (x : Int).toNat * 7 + 7 ≤ (cellsD d ++ []).length := by rw [List.append_nil, cellsD_length]; simp; omega
    have hk := ixK_drop key hx
    have hp := isKeyB hE d[x] key
    have hh := obE_hb (n0 := 0) d[x]
    generalize d[x] = e at *
    conv => whnf
    repeat' (first
      | (refine And.intro ?_ ?_; (focus (first | omega | decide | (unfold inI64; omega) | (simp only [List.length_append, List.length_cons, List.length_nil] <;> omega) | (refine ⟨?_, ?_⟩ <;> omega) | (refine ⟨?_, ?_, ?_, ?_, ?_, ?_⟩ <;> first | rfl | trivial | decide | omega | (simp [bytesAV_length] <;> omega)) | (simp <;> omega) | (unfold inI64; simp only [List.length_append, List.length_cons, List.length_nil] <;> omega))); conv => whnf)
      | (refine brD (fun _ => ?_) (fun _ => ?_) <;> first | (exfalso; omega) | (conv => whnf))
      | (refine brB (fun _ => ?_) (fun _ => ?_) <;> conv => whnf)
      | (refine stepOk (load_n rfl rfl hg hg2) ?_; conv => whnf)
      | (refine CallG.b [(2, 0)] hp ⟨rfl, trivial⟩ ⟨.same _ hh, .ptr 0 2 0 0 rfl, trivial⟩ (fun r ks' hq _ _ => ?_); obtain ⟨rfl, rfl⟩ := hq; conv => whnf))
    · rename_i h
      rw [if_pos h] at hk
      exact RetG.q ⟨congrArg (AV.int .i64) (by rw [← h2, hk]), rfl⟩
    · rename_i h
      rw [if_neg h] at hk
      exact ⟨x + 1, ⟨⟨by omega, by rw [← hk, h2]⟩, by omega⟩, Wk.slots rfl ⟨rfl, rfl, rfl, rfl, rfl, rfl⟩⟩
  · conv => whnf
    repeat' (first
      | (refine And.intro ?_ ?_; (focus (first | omega | decide | (unfold inI64; omega) | (simp only [List.length_append, List.length_cons, List.length_nil] <;> omega) | (refine ⟨?_, ?_⟩ <;> omega) | (refine ⟨?_, ?_, ?_, ?_, ?_, ?_⟩ <;> first | rfl | trivial | decide | omega | (simp [bytesAV_length] <;> omega)) | (simp <;> omega) | (unfold inI64; simp only [List.length_append, List.length_cons, List.length_nil] <;> omega))); conv => whnf)
      | (refine brD (fun _ => ?_) (fun _ => ?_) <;> first | (exfalso; omega) | (conv => whnf))
      | (refine brB (fun _ => ?_) (fun _ => ?_) <;> conv => whnf))
    have : x = d.length := by omega
    subst this
    rw [List.drop_length] at h2
    exact RetG.q ⟨congrArg (AV.int .i64) h2, rfl⟩
end Ink.D

namespace Ink.D
open Go Go.Proofs
set_option maxRecDepth 100000
set_option linter.unusedSimpArgs false
set_option linter.unusedVariables false
variable {E : Env} (hE : E.P = Tryd.prog)

/-- entries without a key -/
def dropD (key : List UInt8) (d : List (List UInt8 × Ob)) : List (List UInt8 × Ob) := d.filter fun e => !decide (e.1 = key)

theorem dropD_append (key : List UInt8) (a b : List (List UInt8 × Ob)) : dropD key (a ++ b) = dropD key a ++ dropD key b := List.filter_append ..

theorem dropD_none {key : List UInt8} {d : List (List UInt8 × Ob)} (h : ∀ e ∈ d, e.1 ≠ key) : dropD key d = d := by
  unfold dropD
  rw [List.filter_eq_self]
  intro e he
  simp [h e he]

theorem dropD_le (key : List UInt8) (d : List (List UInt8 × Ob)) : (dropD key d).length ≤ d.length := List.length_filter_le ..

theorem ixK_cases (key : List UInt8) : ∀ (d : List (List UInt8 × Ob)) (i : Int), (ixK key d i = -1 ∧ (∀ e ∈ d, e.1 ≠ key)) ∨ ∃ p : Nat, ∃ h : p < d.length, ixK key d i = i + p ∧ d[p].1 = key ∧ ∀ e ∈ d.take p, e.1 ≠ key
  | [], i => .inl ⟨rfl, by simp⟩
  | e :: d, i => by
    by_cases he : e.1 = key
    · exact .inr ⟨0, by simp, by simp [ixK, he], by simpa using he, by simp⟩
    · rcases ixK_cases key d (i + 1) with ⟨h1, h2⟩ | ⟨p, hp, h1, h2, h3⟩
      · exact .inl ⟨by simp [ixK, he, h1], by simpa [he] using h2⟩
      · refine .inr ⟨p + 1, by simp; omega, by simp [ixK, he, h1]; omega, by simpa using h2, ?_⟩
        intro x hx
        rw [List.take_succ_cons] at hx
        rcases List.mem_cons.mp hx with rfl | hx
        · exact he
        · exact h3 x hx

theorem obE_7 (e : List UInt8 × Ob) : ∃ c0 c1 c2 c3 c4 c5 c6, obE e = [c0, c1, c2, c3, c4, c5, c6] := by
  obtain ⟨a, o⟩ := e; cases o; exact ⟨_, _, _, _, _, _, _, rfl⟩

/-- what stands where j entries have been looked at -/
def midD (key : List UInt8) (d : List (List UInt8 × Ob)) (j : Nat) : List (List UInt8 × Ob) := dropD key (d.take j) ++ d.drop (dropD key (d.take j)).length

theorem midD_len (key : List UInt8) (d : List (List UInt8 × Ob)) (j : Nat) : (midD key d j).length = d.length := by
  have h1 := dropD_le key (d.take j)
  have h2 : (d.take j).length ≤ d.length := by rw [List.length_take]; omega
  simp [midD]; omega

theorem takeD_len (key : List UInt8) (d : List (List UInt8 × Ob)) (j : Nat) : (dropD key (d.take j)).length ≤ j := by
  have h1 := dropD_le key (d.take j)
  rw [List.length_take] at h1; omega

theorem midD_get {key : List UInt8} {d : List (List UInt8 × Ob)} {j : Nat} (h : j < d.length) : ∃ h', (midD key d j)[j]'h' = d[j] := by
  refine ⟨by rw [midD_len]; exact h, ?_⟩
  have := takeD_len key d j
  unfold midD
  rw [List.getElem_append_right (by omega), List.getElem_drop]
  congr 1; omega

theorem midD_keep {key : List UInt8} {d : List (List UInt8 × Ob)} {j : Nat} (h : j < d.length) (hk : d[j].1 ≠ key) : (midD key d j).set (dropD key (d.take j)).length d[j] = midD key d (j + 1) ∧ (dropD key (d.take (j + 1))).length = (dropD key (d.take j)).length + 1 := by
  have h1 := takeD_len key d j
  have e : dropD key (d.take (j + 1)) = dropD key (d.take j) ++ [d[j]] := by
    rw [List.take_succ_eq_append_getElem h, dropD_append]
    congr 1
    simp [dropD, hk]
  unfold midD
  rw [e]
  refine ⟨?_, by simp⟩
  rw [List.set_append_right _ _ (Nat.le_refl _), Nat.sub_self, List.append_assoc, List.length_append]
  have hdr := List.drop_eq_getElem_cons (show (dropD key (d.take j)).length < d.length by omega)
  rw [hdr, List.set_cons_zero]
  rfl

theorem midD_skip {key : List UInt8} {d : List (List UInt8 × Ob)} {j : Nat} (h : j < d.length) (hk : d[j].1 = key) : midD key d (j + 1) = midD key d j ∧ (dropD key (d.take (j + 1))).length = (dropD key (d.take j)).length := by
  have e : dropD key (d.take (j + 1)) = dropD key (d.take j) := by
    rw [List.take_succ_eq_append_getElem h, dropD_append]
    simp [dropD, hk]
  unfold midD
  rw [e]
  exact ⟨rfl, rfl⟩

theorem cellsD_hb (n0 : Nat) (d : List (List UInt8 × Ob)) : hbL n0 (cellsD d) = true := by
  rw [hbL_iff]
  exact hbLL_flat (obD_hb d)

include hE
set_option maxHeartbeats 1000000 in
theorem deleteOwn (key : List UInt8) (d : List (List UInt8 × Ob)) (hd : d.length < big) (b0 b1 b3 b4 : Blk) (hb0 : hbB 6 b0 = true) (hb1 : hbB 6 b1 = true) (hb3 : hbB 6 b3 = true) (hb4 : hbB 6 b4 = true) :
    ACalls E 54 [.own 5 1 0 d.length 7, .fn (.func 56) [] [.ptr 2 0 0]] [b0, b1, ⟨0, true, .cells 9 [.str key]⟩, b3, b4, ⟨1, true, .cells 55 (cellsD d ++ [])⟩]
      fun r H' => ∃ Z, r = .own 5 1 0 (dropD key d).length 7 ∧ H' = [b0, b1, ⟨0, true, .cells 9 [.str key]⟩, b3, b4, ⟨1, true, .cells 55 (cellsD (dropD key d) ++ Z)⟩] := by
  have hI := indexOwn hE key d hd b0 b1 b3 b4
  unfold big at hd
  refine a54 hE ?_
  rcases ixK_cases key d 0 with ⟨h1, h2⟩ | ⟨p, hp, h1, h2, h3⟩
  · rw [h1] at hI
    conv => whnf
    repeat' (first
      | (refine And.intro ?_ ?_; (focus (first | omega | decide | (unfold inI64; omega) | (simp only [List.length_append, List.length_cons, List.length_nil] <;> omega) | (refine ⟨?_, ?_⟩ <;> omega) | (refine ⟨?_, ?_, ?_, ?_, ?_, ?_⟩ <;> first | rfl | trivial | decide | omega | (simp [bytesAV_length] <;> omega)) | (simp <;> omega) | (unfold inI64; simp only [List.length_append, List.length_cons, List.length_nil] <;> omega))); conv => whnf)
      | (refine brD (fun _ => ?_) (fun _ => ?_) <;> first | (exfalso; omega) | (conv => whnf))
      | (refine brB (fun _ => ?_) (fun _ => ?_) <;> conv => whnf)
      | (refine CallG.a (hI.mono fun r H' hq => ?_); obtain ⟨rfl, rfl⟩ := hq; conv => whnf))
    rw [dropD_none h2]
    exact RetG.q ⟨[], rfl, rfl⟩
  · rw [h1, Int.zero_add] at hI
    have hpl : (dropD key (d.take p)).length = p := by rw [dropD_none h3, List.length_take]; omega
    obtain ⟨m1, m2⟩ := midD_skip hp h2
    have m0 : midD key d (p + 1) = d := by rw [m1]; unfold midD; rw [hpl, dropD_none h3, List.take_append_drop]
    rw [hpl] at m2
    conv => whnf
    repeat' (first
      | (refine And.intro ?_ ?_; (focus (first | omega | decide | (unfold inI64; omega) | (simp only [List.length_append, List.length_cons, List.length_nil] <;> omega) | (refine ⟨?_, ?_⟩ <;> omega) | (refine ⟨?_, ?_, ?_, ?_, ?_, ?_⟩ <;> first | rfl | trivial | decide | omega | (simp [bytesAV_length] <;> omega)) | (simp <;> omega) | (unfold inI64; simp only [List.length_append, List.length_cons, List.length_nil] <;> omega))); conv => whnf)
      | (refine brD (fun _ => ?_) (fun _ => ?_) <;> first | (exfalso; omega) | (conv => whnf))
      | (refine brB (fun _ => ?_) (fun _ => ?_) <;> conv => whnf)
      | (refine CallG.a (hI.mono fun r H' hq => ?_); obtain ⟨rfl, rfl⟩ := hq; conv => whnf))
    refine LoopG.s (fun x : Nat => x ≤ d.length) 42 (fun x => [(0, .own 5 1 0 d.length 7), (1, .fn (.func 56) [] [.ptr 2 0 0]), (5, .int .i64 (dropD key (d.take x)).length), (6, .int .i64 x)]) (fun x => [b0, b1, ⟨0, true, .cells 9 [.str key]⟩, b3, b4, ⟨1, true, .cells 55 (cellsD (midD key d x) ++ [])⟩]) (fun x => d.length - x) (p + 1) (by omega) rfl ⟨rfl, rfl, by rw [m2]; rfl, rfl⟩ (by rw [m0]) ?_
    rintro x hx
    have hml := midD_len key d x
    have hil := takeD_len key d x
    have hcl : (cellsD (midD key d x) ++ []).length = d.length * 7 := by rw [List.append_nil, cellsD_length, hml]
    by_cases hlt : x < d.length
    · obtain ⟨hlt', hgx⟩ := midD_get (key := key) hlt
      have hg : ((cellsD (midD key d x) ++ []).drop (0 + (x : Int).toNat * 7)).take 7 = obE d[x] := by rw [Nat.zero_add, ← hgx]; exact cellsD_get _ [] hlt'
      have hg2 : 0 + (x : Int).toNat * 7 + 7 ≤ (cellsD (midD key d x) ++ []).length := by rw [hcl]; simp; omega
      have hp := isKeyB hE d[x] key
      have hh := obE_hb (n0 := 0) d[x]
      have hh6 := obE_hb (n0 := 6) d[x]
      have hset := cellsD_set (midD key d x) [] d[x] (k := (dropD key (d.take x)).length) (by omega)
      have hkeep := midD_keep (key := key) hlt
      have hskip := midD_skip (key := key) hlt
      have hset2 : (cellsD (midD key d x) ++ []).take (0 + ((dropD key (d.take x)).length : Int).toNat * 7) ++ (obE d[x] ++ (cellsD (midD key d x) ++ []).drop (0 + ((dropD key (d.take x)).length : Int).toNat * 7 + 7)) = cellsD ((midD key d x).set (dropD key (d.take x)).length d[x]) ++ [] := by rw [Nat.zero_add]; exact hset
      have hle : 0 + ((dropD key (d.take x)).length : Int).toNat * 7 + 7 ≤ (cellsD (midD key d x) ++ []).length := by rw [hcl]; simp; omega
      obtain ⟨c0, c1, c2, c3, c4, c5, c6, hc⟩ := obE_7 d[x]
      have hcs : (obE d[x]).length = 7 := obE_len _
      generalize d[x] = e at *
      rw [hc] at hg hp hh hh6 hset2 hcs
      conv => whnf
      repeat' (first
        | (refine And.intro ?_ ?_; (focus (first | omega | decide | (unfold inI64; omega) | (simp only [List.length_append, List.length_cons, List.length_nil] <;> omega) | (refine ⟨?_, ?_⟩ <;> omega) | (refine ⟨?_, ?_, ?_, ?_, ?_, ?_⟩ <;> first | rfl | trivial | decide | omega | (simp [bytesAV_length] <;> omega)) | (simp <;> omega) | (unfold inI64; simp only [List.length_append, List.length_cons, List.length_nil] <;> omega))); conv => whnf)
        | (refine brD (fun _ => ?_) (fun _ => ?_) <;> first | (exfalso; omega) | (conv => whnf))
        | (refine brB (fun _ => ?_) (fun _ => ?_) <;> conv => whnf)
        | (refine stepOk (load_n rfl rfl hg hg2) ?_; conv => whnf)
        | (refine CallG.b [(2, 0)] hp ⟨rfl, trivial⟩ ⟨.same _ hh, .ptr 0 2 0 0 rfl, trivial⟩ (fun r ks' hq _ _ => ?_); obtain ⟨rfl, rfl⟩ := hq; conv => whnf)
        | (refine stepOk (store_n rfl rfl rfl hcs hle hset2) ?_; conv => whnf))
      · rename_i hk
        obtain ⟨k1, k2⟩ := hkeep (by simpa using hk)
        refine ⟨x + 1, ⟨by omega, by omega⟩, ?_⟩
        rw [k2, ← k1]
        exact Wk.cut 6 rfl rfl rfl ⟨⟨_, rfl, .same _ rfl⟩, ⟨_, rfl, .same _ rfl⟩, ⟨_, rfl, .same _ rfl⟩, ⟨_, rfl, .same _ rfl⟩, trivial⟩ rfl (by simp [hbH, hb0, hb1, hb3, hb4]; simp [hbB, hbL, hb, cellsD_hb])
      · rename_i hk
        obtain ⟨k1, k2⟩ := hskip (by simpa using hk)
        refine ⟨x + 1, ⟨by omega, by omega⟩, ?_⟩
        rw [k2, k1]
        exact Wk.cut 6 rfl rfl rfl ⟨⟨_, rfl, .same _ rfl⟩, ⟨_, rfl, .same _ rfl⟩, ⟨_, rfl, .same _ rfl⟩, ⟨_, rfl, .same _ rfl⟩, trivial⟩ rfl (by simp [hbH, hb0, hb1, hb3, hb4]; simp [hbB, hbL, hb, cellsD_hb])
    · conv => whnf
      repeat' (first
        | (refine And.intro ?_ ?_; (focus (first | omega | decide | (unfold inI64; omega) | (simp only [List.length_append, List.length_cons, List.length_nil] <;> omega) | (refine ⟨?_, ?_⟩ <;> omega) | (refine ⟨?_, ?_, ?_, ?_, ?_, ?_⟩ <;> first | rfl | trivial | decide | omega | (simp [bytesAV_length] <;> omega)) | (simp <;> omega) | (unfold inI64; simp only [List.length_append, List.length_cons, List.length_nil] <;> omega))); conv => whnf)
        | (refine brD (fun _ => ?_) (fun _ => ?_) <;> first | (exfalso; omega) | (conv => whnf))
        | (refine brB (fun _ => ?_) (fun _ => ?_) <;> conv => whnf))
      obtain rfl : x = d.length := by omega
      have e1 : (0 + ((dropD key (d.take d.length)).length : Int).toNat * 7) = (dropD key d).length * 7 := by rw [List.take_length]; simp
      rw [e1]
      have e2 : (cellsD (midD key d d.length) ++ []).take ((dropD key d).length * 7) = cellsD (dropD key d) := by
        have := dropD_le key d
        rw [cellsD_take _ _ (by rw [hml]; omega)]
        unfold midD
        rw [List.take_length, List.take_left]
      rw [e2, List.take_length]
      exact RetG.q ⟨_, rfl, rfl⟩
end Ink.D

namespace Ink.D
open Go Go.Proofs
set_option maxRecDepth 100000
set_option linter.unusedSimpArgs false
set_option linter.unusedVariables false
variable {E : Env} (hE : E.P = Tryd.prog)

/-- an entry laid in at a place -/
def insD (k : Nat) (e : List UInt8 × Ob) (d : List (List UInt8 × Ob)) : List (List UInt8 × Ob) := d.take k ++ e :: d.drop k

theorem take_len {α : Type} {A B : List α} {n : Nat} (h : A.length = n) : (A ++ B).take n = A := by subst h; exact List.take_left
theorem drop_len {α : Type} {A B : List α} {n : Nat} (h : A.length = n) : (A ++ B).drop n = B := by subst h; exact List.drop_left

theorem insD_cells (k : Nat) (e : List UInt8 × Ob) (d : List (List UInt8 × Ob)) : cellsD (insD k e d) = cellsD (d.take k) ++ (obE e ++ cellsD (d.drop k)) := by
  rw [insD, cellsD_append, cellsD_cons]

/-- a new row -/
theorem ins_grow {X Y Z R e7 : List AV} {k m : Nat} (hX : X.length = k * 7) (hY : Y.length = m * 7) (hR : R.length = (m + 1) * 7) (he : e7.length = 7) :
    ((X ++ R).take (k * 7) ++ (e7.take (1 * 7) ++ (X ++ R).drop (k * 7 + 1 * 7))).take ((k + 1) * 7) ++ (((X ++ (Y ++ Z)).drop (k * 7)).take (m * 7) ++ ((X ++ R).take (k * 7) ++ (e7.take (1 * 7) ++ (X ++ R).drop (k * 7 + 1 * 7))).drop ((k + 1) * 7 + m * 7)) = X ++ (e7 ++ Y) := by
  have hB : (X ++ R).take (k * 7) ++ (e7.take (1 * 7) ++ (X ++ R).drop (k * 7 + 1 * 7)) = (X ++ e7) ++ (X ++ R).drop (k * 7 + 1 * 7) := by
    rw [take_len hX, List.take_of_length_le (show e7.length ≤ 1 * 7 by omega), List.append_assoc]
  rw [hB, take_len (by rw [List.length_append]; omega), drop_len hX, take_len hY, List.drop_eq_nil_of_le (by simp only [List.length_append, List.length_drop]; omega)]
  simp

/-- in place -/
theorem ins_place {X Y Z e7 : List AV} {k m : Nat} (hX : X.length = k * 7) (hY : Y.length = m * 7) (hm : 0 < m) (he : e7.length = 7) :
    ∃ Z', ((X ++ (Y ++ Z)).take ((k + 1) * 7) ++ (((X ++ (Y ++ Z)).drop (k * 7)).take (m * 7) ++ (X ++ (Y ++ Z)).drop ((k + 1) * 7 + m * 7))).take (k * 7) ++
      (e7.take (1 * 7) ++ ((X ++ (Y ++ Z)).take ((k + 1) * 7) ++ (((X ++ (Y ++ Z)).drop (k * 7)).take (m * 7) ++ (X ++ (Y ++ Z)).drop ((k + 1) * 7 + m * 7))).drop (k * 7 + 1 * 7)) = X ++ (e7 ++ Y) ++ Z' := by
  have h1 : ((X ++ (Y ++ Z)).take ((k + 1) * 7)).length = (k + 1) * 7 := by simp [hX, hY]; omega
  refine ⟨(X ++ (Y ++ Z)).drop ((k + 1) * 7 + m * 7), ?_⟩
  rw [drop_len hX, take_len hY, List.take_of_length_le (show e7.length ≤ 1 * 7 by omega)]
  have e1 : k * 7 + 1 * 7 = (k + 1) * 7 := by omega
  rw [e1, drop_len h1, List.take_append_of_le_length (by rw [h1]; omega), List.take_take, Nat.min_eq_left (by omega), take_len hX]
  simp

include hE
theorem overD (j vj oj lj : Nat) (H : List Blk) (cj : List AV) (e : List UInt8 × Ob) (hj : liveCells H j vj = some (55, cj)) : ACalls E 82 [.imm 7 [obE e], .own j vj oj lj 7] H fun r H' => r = .bool false ∧ H' = H := by
  obtain ⟨c0, c1, c2, c3, c4, c5, c6, hc⟩ := obE_7 e
  rw [hc]
  have hf : E.P.funcs[82]? = some Tryd.f82 := by rw [hE]; exact Tryd.func82
  exact ACalls.overlapsI hf (by kernel_rfl) (by kernel_rfl) (by kernel_rfl) (tS := 45) (tR := 4) (e := 55) (by kernel_rfl) (by rw [hE]; kernel_rfl) (size := 7) (by rw [hE]; kernel_rfl) hj rfl (by decide)

set_option maxHeartbeats 1000000 in
theorem insertOwn (e : List UInt8 × Ob) (F : List (List UInt8 × Ob)) (Z : List AV) (k : Nat) (hk : k ≤ F.length) (hF : F.length < 100000000) (b0 b1 b2 b3 b4 : Blk) :
    ACalls E 57 [.own 5 1 0 F.length 7, .int .i64 k, .imm 7 [obE e]] [b0, b1, b2, b3, b4, ⟨1, true, .cells 55 (cellsD F ++ Z)⟩]
      fun r H' => (r = .own 5 2 0 (F.length + 1) 7 ∧ H' = [b0, b1, b2, b3, b4, ⟨2, true, .cells 55 (cellsD (insD k e F))⟩]) ∨
        (∃ Z', r = .own 5 1 0 (F.length + 1) 7 ∧ H' = [b0, b1, b2, b3, b4, ⟨1, true, .cells 55 (cellsD (insD k e F) ++ Z')⟩]) ∨
        (r = .own 6 0 0 (F.length + 1) 7 ∧ H' = [b0, b1, b2, b3, b4, ⟨1, true, .cells 55 (cellsD F ++ Z)⟩, ⟨0, true, .cells 55 (cellsD (insD k e F))⟩]) := by
  have hov := fun oj lj cj => overD hE 5 1 oj lj [b0, b1, b2, b3, b4, ⟨1, true, .cells 55 cj⟩] cj e rfl
  obtain ⟨c0, c1, c2, c3, c4, c5, c6, hc⟩ := obE_7 e
  have hFl := cellsD_length F
  rw [hc] at hov ⊢
  refine ACalls.capI rfl fun cap hcap hmx => ?_
  refine a57 hE ?_
  conv => whnf
  repeat' (first
    | (refine And.intro ?_ ?_; (focus (first | omega | decide | (unfold inI64; omega) | (simp only [List.length_append, List.length_cons, List.length_nil] <;> omega) | (refine ⟨?_, ?_⟩ <;> omega) | (refine ⟨?_, ?_, ?_, ?_, ?_, ?_⟩ <;> first | rfl | trivial | decide | omega | (simp [bytesAV_length] <;> omega)) | (simp <;> omega) | (unfold inI64; simp only [List.length_append, List.length_cons, List.length_nil] <;> omega))); conv => whnf)
    | (refine brD (fun _ => ?_) (fun _ => ?_) <;> first | (exfalso; omega) | (conv => whnf))
    | (refine brB (fun _ => ?_) (fun _ => ?_) <;> conv => whnf)
    | (refine CallG.a ((hov _ _ _).mono fun r H' hq => ?_); obtain ⟨rfl, rfl⟩ := hq; conv => whnf))
  · refine RetG.q (.inl ⟨rfl, ?_⟩)
    obtain rfl : k = F.length := by omega
    have : (cellsD F ++ Z).take (F.length * 7) = cellsD F := take_len hFl
    rw [List.drop_zero, this, insD_cells, List.take_length, List.drop_length, cellsD_nil, List.append_nil, hc]
    rfl
  · refine RetG.q (.inr (.inr ⟨?_, ?_⟩))
    · exact congrArg (fun z => AV.own 6 0 0 z 7) (by simp; omega)
    · have hn1 : F.length + 1 - k = (F.length - k) + 1 := by omega
      have a1 : ((F.length : Int) + ((1 : Nat) : Int) - (k : Int)).toNat = (F.length - k) + 1 := by omega
      have a2 : ((k : Int) + ((1 : Nat) : Int)).toNat = k + 1 := by omega
      have m1 : min 1 (k + ((F.length - k) + 1) - k) = 1 := by omega
      have m2 : min (F.length - k) (k + ((F.length - k) + 1) - (k + 1)) = F.length - k := by omega
      have hX : (cellsD (F.take k)).length = k * 7 := by rw [cellsD_length, List.length_take]; congr 1; omega
      have hY : (cellsD (F.drop k)).length = (F.length - k) * 7 := by rw [cellsD_length, List.length_drop]
      have hs : cellsD F ++ Z = cellsD (F.take k) ++ (cellsD (F.drop k) ++ Z) := by rw [← List.append_assoc, ← cellsD_append, List.take_append_drop]
      have hg := ins_grow (Z := Z) (R := repK (F.length - k + 1) [.str [], .int .i64 0, .int .i64 0, .int .i64 0, .str [], .lit (.slice none 0 0), .lit (.slice none 0 0)]) hX hY (by rw [repK_len]; rfl) (obE_len e)
      have ht : (cellsD (F.take k) ++ (cellsD (F.drop k) ++ Z)).take (k * 7) = cellsD (F.take k) := take_len hX
      simp only [List.length_cons, List.length_nil, Nat.zero_add, Int.toNat_natCast, List.drop_zero, List.flatten_cons, List.flatten_nil, List.append_nil, a1, a2, m1, m2, hs, ht]
      rw [hc] at hg
      rw [hg, insD_cells, hc]
  · refine RetG.c (.inr (.inl ?_))
    have a1 : ((F.length : Int) + ((1 : Nat) : Int)).toNat = F.length + 1 := by omega
    have a2 : ((k : Int) + ((1 : Nat) : Int)).toNat = k + 1 := by omega
    have m1 : min 1 (F.length + 1 - k) = 1 := by omega
    have m2 : min (F.length + 1 - k) (F.length + 1 - (k + 1)) = F.length - k := by omega
    have hX : (cellsD (F.take k)).length = k * 7 := by rw [cellsD_length, List.length_take]; congr 1; omega
    have hY : (cellsD (F.drop k)).length = (F.length - k) * 7 := by rw [cellsD_length, List.length_drop]
    have hs : cellsD F ++ Z = cellsD (F.take k) ++ (cellsD (F.drop k) ++ Z) := by rw [← List.append_assoc, ← cellsD_append, List.take_append_drop]
    obtain ⟨Z', hg⟩ := ins_place (Z := Z) hX hY (by omega) (obE_len e)
    refine ⟨Z', ?_, ?_⟩
    · simp only [List.length_cons, List.length_nil, Nat.zero_add, a1]
      rfl
    · simp only [List.length_cons, List.length_nil, Nat.zero_add, Int.toNat_natCast, List.drop_zero, List.flatten_cons, List.flatten_nil, List.append_nil, a1, a2, m1, m2, hs]
      rw [hc] at hg
      rw [hg, insD_cells, hc]
end Ink.D

namespace Ink.D
open Go Go.Proofs
set_option maxRecDepth 100000
set_option linter.unusedSimpArgs false
set_option linter.unusedVariables false
variable {E : Env} (hE : E.P = Tryd.prog)

def Ob.kind : Ob → Int
  | .mk k _ _ _ _ _ => k

/-- some entries with one set -/
def setD (d : List (List UInt8 × Ob)) (key : List UInt8) (v : Ob) : List (List UInt8 × Ob) :=
  if v.kind = 0 then dropD key d
  else if ixK key d 0 < 0 then dropD key d ++ [(key, v)]
  else insD (ixK key d 0).toNat (key, v) (dropD key d)

/-- an object with an entry set -/
def setL : Ob → List UInt8 → Ob → Ob
  | .mk k n f s l d, key, v => if k = 6 ∨ k = 8 then .mk k n f s l (setD d key v) else .mk k n f s l d

theorem obD_sz (d : List (List UInt8 × Ob)) : ∀ x ∈ obD d, x.length = 7 := by
  intro x hx
  rw [obD_map] at hx
  obtain ⟨e, _, rfl⟩ := List.mem_map.mp hx
  exact obE_len e

theorem obD_sc (d : List (List UInt8 × Ob)) : ∀ x ∈ (obD d).flatten, sc x = true := by
  intro x hx
  obtain ⟨y, hy, hx⟩ := List.mem_flatten.mp hx
  rw [obD_map] at hy
  obtain ⟨e, _, rfl⟩ := List.mem_map.mp hy
  obtain ⟨a, o⟩ := e
  rcases List.mem_cons.mp hx with rfl | hx
  · rfl
  · exact obC_sc o x hx

theorem pubD {H : List Blk} {n i ver : Nat} {X : List AV} (F : List (List UInt8 × Ob)) (hl : liveCells H i ver = some (55, cellsD F ++ X)) (hi : n ≤ i) : Pub H n (.own i ver 0 F.length 7) (.imm 7 (obD F)) := by
  refine .own i ver 0 F.length 7 55 _ _ hl hi (obD_length F) (obD_sz F) (obD_sc F) ?_ (fun j x y hx hy => ?_)
  · show 0 + (cellsD F).length ≤ _
    simp
  · have hx' : (cellsD F)[j]? = some x := hx
    rw [Nat.zero_add, List.getElem?_append_left (getElem?_lt hx'), hx'] at hy
    cases hy
    exact .same _ (hbL_iff.mp (cellsD_hb n F) x (List.mem_of_getElem? hx'))

theorem ixK_le (key : List UInt8) (d : List (List UInt8 × Ob)) (h : ¬ ixK key d 0 < 0) : (ixK key d 0).toNat ≤ (dropD key d).length ∧ ((ixK key d 0).toNat : Int) = ixK key d 0 := by
  rcases ixK_cases key d 0 with ⟨h1, _⟩ | ⟨p, hp, h1, h2, h3⟩
  · omega
  · rw [h1]
    refine ⟨?_, by omega⟩
    have e : dropD key d = dropD key (d.take p) ++ dropD key (d.drop p) := by rw [← dropD_append, List.take_append_drop]
    rw [e, dropD_none h3, List.length_append, List.length_take]
    omega

include hE
theorem placeE (a : Option Addr) (cap : Nat) (key : List UInt8) : PCalls E 53 [.lit (.slice a 0 cap), .str key] (· = .int .i64 (-1)) := by
  refine PCalls.split (· = [.imm 7 (obD []), .str key]) (fun c vs h => ⟨_, rfl, ?_⟩) (fun _ h => by subst h; exact place hE [] key (by unfold big; simp))
  match vs, h.len with
  | [u, v], _ =>
    obtain ⟨h1, h2⟩ := h.head
    refine LR.cons ?_ h2
    cases h1
    exact .immE 7 a cap

theorem dictE (a : Option Addr) (cap : Nat) (k n f : Int) (s : List UInt8) (l_ : List Ob) : PCalls E 52 [.agg [.int .i64 k, .int .i64 n, .int .i64 f, .str s, .imm 6 (obL l_), .lit (.slice a 0 cap)]] (· = .bool (decide (k = 6 ∨ k = 8))) := by
  refine PCalls.split (· = [.agg (obC (.mk k n f s l_ []))]) (fun c vs h => ⟨_, rfl, ?_⟩) (fun _ h => by subst h; exact dictionary hE k n f s l_ [])
  match vs, h.len with
  | [u], _ =>
    obtain ⟨h1, h2⟩ := h.head
    refine LR.cons ?_ h2
    obtain ⟨ws, rfl, h3, _⟩ := h1.aggI
    match ws, h3.len with
    | [w0, w1, w2, w3, w4, w5], _ =>
      obtain ⟨g0, h3⟩ := h3.head
      obtain ⟨g1, h3⟩ := h3.head
      obtain ⟨g2, h3⟩ := h3.head
      obtain ⟨g3, h3⟩ := h3.head
      obtain ⟨g4, h3⟩ := h3.head
      obtain ⟨g5, h3⟩ := h3.head
      refine LR.agg (LR.cons g0 (LR.cons g1 (LR.cons g2 (LR.cons g3 (LR.cons g4 (LR.cons ?_ (LR.nil c))))))) (obC_sc _)
      cases g5
      exact .immE 7 a cap

theorem cloneD (d : List (List UInt8 × Ob)) (h0 : d ≠ []) (hd : d.length < big) (b0 b1 b2 b3 b4 : Blk) :
    ACalls E 55 [.imm 7 (obD d)] [b0, b1, b2, b3, b4] fun r H' => r = .own 5 1 0 d.length 7 ∧ H' = [b0, b1, b2, b3, b4, ⟨1, true, .cells 55 (cellsD d ++ [])⟩] := by
  cases d with
  | nil => exact absurd rfl h0
  | cons e d =>
    refine (clone1 hE e d (by unfold big at hd; simp at hd; omega) b0 b1 b2 b3 b4).mono fun r H' h => ?_
    rw [List.append_nil]; exact h

set_option maxHeartbeats 2000000 in
theorem set_imm (k n f : Int) (s : List UInt8) (l_ : List Ob) (d : List (List UInt8 × Ob)) (key : List UInt8) (v : Ob) (h0 : d ≠ []) (hd : d.length < big) (hk : k = 6 ∨ k = 8) :
    PCalls E 33 [.agg (obC (.mk k n f s l_ d)), .str key, .agg (obC v)] (· = .agg (obC (setL (.mk k n f s l_ d) key v))) := by
  have hp := place hE d key hd
  have hdi := dictionary hE k n f s l_ d
  rw [decide_eq_true hk] at hdi
  have hcl := cloneD hE d h0 hd
  have hdel := deleteOwn hE key d hd
  have hins := fun Z k hk => insertOwn hE (key, v) (dropD key d) Z k hk (by have := dropD_le key d; unfold big at hd; omega)
  have hix := ixK_le key d
  have hL : ∀ n0, hbLL n0 (obL l_) = true := fun n0 => obL_hb l_
  have hD : ∀ n0, hbLL n0 (obD d) = true := fun n0 => obD_hb d
  have hvb : ∀ n0, hbL n0 (obC v) = true := fun n0 => obC_hb v
  have hFl := dropD_le key d
  refine p33 hE (fun l => ?_) (by simp [hbL, hb, obC_hb])
  have hse : setL (.mk k n f s l_ d) key v = .mk k n f s l_ (setD d key v) := by simp [setL, hk]
  rw [hse]
  unfold setD
  cases v with
  | mk vk vn vf vs vl vd =>
  unfold obC at hdi hvb ⊢
  unfold obE obC at hins
  unfold Ob.kind
  generalize hx : ixK key d 0 = x at *
  unfold big at hd
  have pub : ∀ (H : List Blk) (i ver : Nat) (X : List AV) (F : List (List UInt8 × Ob)), liveCells H i ver = some (55, cellsD F ++ X) → 1 ≤ i → Pub H 1 (.agg [.int .i64 k, .int .i64 n, .int .i64 f, .str s, .imm 6 (obL l_), .own i ver 0 F.length 7]) (.agg [.int .i64 k, .int .i64 n, .int .i64 f, .str s, .imm 6 (obL l_), .imm 7 (obD F)]) := by
    intro H i ver X F hl hi
    refine Pub.aggL ⟨.same _ rfl, .same _ rfl, .same _ rfl, .same _ rfl, .same _ (by simp [hb, hL]), pubD F hl hi, trivial⟩ (by simp [sc])
  have hFc := cellsD_length (dropD key d)
  by_cases hv0 : vk = 0
  · rw [if_pos hv0]
    conv => whnf
    repeat' (first
      | (refine And.intro ?_ ?_; (focus (first | omega | decide | (unfold inI64; omega) | (simp only [List.length_append, List.length_cons, List.length_nil] <;> omega) | (refine ⟨?_, ?_⟩ <;> omega) | (refine ⟨?_, ?_, ?_, ?_, ?_, ?_⟩ <;> first | rfl | trivial | decide | omega | (simp [bytesAV_length] <;> omega)) | (simp <;> omega) | (unfold inI64; simp only [List.length_append, List.length_cons, List.length_nil] <;> omega))); conv => whnf)
      | (refine brD (fun _ => ?_) (fun _ => ?_) <;> first | (exfalso; omega) | (conv => whnf))
      | (refine brB (fun _ => ?_) (fun _ => ?_) <;> conv => whnf)
      | ((first | refine CallG.e (hdi) ?_ | refine CallD.e (hdi) ?_ | refine CallQ.e (hdi) ?_); conv => whnf)
      | ((first | refine CallG.e (hp) ?_ | refine CallD.e (hp) ?_ | refine CallQ.e (hp) ?_); conv => whnf)
      | (refine CallG.a ((hcl _ _ _ _ _).mono fun r H' hq => ?_); obtain ⟨rfl, rfl⟩ := hq; conv => whnf)
      | (refine CallG.a ((hdel _ _ _ _ (by simp [newBlk, hbB, hbL, hb, hL, hD]) (by simp [newBlk, hbB, hbL, hb, hL, hD]) (by simp [newBlk, hbB, hbL, hb, hL, hD, obL_hb, obD_hb]) (by simp [newBlk, hbB, hbL, hb])).mono fun r H' hq => ?_); obtain ⟨Z, rfl, rfl⟩ := hq; conv => whnf))
    exact RetG.pub (r' := .agg [.int .i64 k, .int .i64 n, .int .i64 f, .str s, .imm 6 (obL l_), .imm 7 (obD (dropD key d))]) (H' := frm l) (pub _ 5 1 Z (dropD key d) rfl (by decide)) rfl rfl ⟨by simp [hb, hbL, obL_hb, obD_hb], rfl, rfl⟩
  · rw [if_neg hv0]
    by_cases hneg : x < 0
    · rw [if_pos hneg]
      conv => whnf
      repeat' (first
        | (refine And.intro ?_ ?_; (focus (first | omega | decide | (unfold inI64; omega) | (simp only [List.length_append, List.length_cons, List.length_nil] <;> omega) | (refine ⟨?_, ?_⟩ <;> omega) | (refine ⟨?_, ?_, ?_, ?_, ?_, ?_⟩ <;> first | rfl | trivial | decide | omega | (simp [bytesAV_length] <;> omega)) | (simp <;> omega) | (unfold inI64; simp only [List.length_append, List.length_cons, List.length_nil] <;> omega))); conv => whnf)
        | (refine brD (fun _ => ?_) (fun _ => ?_) <;> first | (exfalso; omega) | (conv => whnf))
        | (refine brB (fun _ => ?_) (fun _ => ?_) <;> conv => whnf)
        | ((first | refine CallG.e (hdi) ?_ | refine CallD.e (hdi) ?_ | refine CallQ.e (hdi) ?_); conv => whnf)
        | ((first | refine CallG.e (hp) ?_ | refine CallD.e (hp) ?_ | refine CallQ.e (hp) ?_); conv => whnf)
        | (refine CallG.a ((hcl _ _ _ _ _).mono fun r H' hq => ?_); obtain ⟨rfl, rfl⟩ := hq; conv => whnf)
        | (refine CallG.a ((hdel _ _ _ _ (by simp [newBlk, hbB, hbL, hb, hL, hD]) (by simp [newBlk, hbB, hbL, hb, hL, hD]) (by simp [newBlk, hbB, hbL, hb, hL, hD, obL_hb, obD_hb]) (by simp [newBlk, hbB, hbL, hb])).mono fun r H' hq => ?_); obtain ⟨Z, rfl, rfl⟩ := hq; conv => whnf))
      have e : (cellsD (dropD key d) ++ Z).take ((dropD key d).length * 7) = cellsD (dropD key d) := take_len (cellsD_length _)
      rw [List.drop_zero, e]
      have e2 : cellsD (dropD key d) ++ [[.str key, .int .i64 vk, .int .i64 vn, .int .i64 vf, .str vs, .imm 6 (obL vl), .imm 7 (obD vd)]].flatten = cellsD (dropD key d ++ [(key, .mk vk vn vf vs vl vd)]) ++ [] := by
        rw [cellsD_append, List.append_nil]; rfl
      rw [e2]
      have e3 : (dropD key d).length + [[AV.str key, .int .i64 vk, .int .i64 vn, .int .i64 vf, .str vs, .imm 6 (obL vl), .imm 7 (obD vd)]].length = (dropD key d ++ [(key, Ob.mk vk vn vf vs vl vd)]).length := by simp
      rw [e3]
      exact RetG.pub (r' := .agg [.int .i64 k, .int .i64 n, .int .i64 f, .str s, .imm 6 (obL l_), .imm 7 (obD (dropD key d ++ [(key, .mk vk vn vf vs vl vd)]))]) (H' := frm l) (pub _ 5 2 [] (dropD key d ++ [(key, .mk vk vn vf vs vl vd)]) rfl (by decide)) rfl rfl ⟨by simp [hb, hbL, obL_hb, obD_hb], rfl, rfl⟩
    · rw [if_neg hneg]
      obtain ⟨p, rfl⟩ : ∃ p : Nat, x = p := ⟨x.toNat, by omega⟩
      have hpl := (hix hneg).1
      simp only [Int.toNat_natCast] at hpl ⊢
      have hil : (insD p (key, Ob.mk vk vn vf vs vl vd) (dropD key d)).length = (dropD key d).length + 1 := by simp [insD]; omega
      conv => whnf
      repeat' (first
        | (refine And.intro ?_ ?_; (focus (first | omega | decide | (unfold inI64; omega) | (simp only [List.length_append, List.length_cons, List.length_nil] <;> omega) | (refine ⟨?_, ?_⟩ <;> omega) | (refine ⟨?_, ?_, ?_, ?_, ?_, ?_⟩ <;> first | rfl | trivial | decide | omega | (simp [bytesAV_length] <;> omega)) | (simp <;> omega) | (unfold inI64; simp only [List.length_append, List.length_cons, List.length_nil] <;> omega))); conv => whnf)
        | (refine brD (fun _ => ?_) (fun _ => ?_) <;> first | (exfalso; omega) | (conv => whnf))
        | (refine brB (fun _ => ?_) (fun _ => ?_) <;> conv => whnf)
        | ((first | refine CallG.e (hdi) ?_ | refine CallD.e (hdi) ?_ | refine CallQ.e (hdi) ?_); conv => whnf)
        | ((first | refine CallG.e (hp) ?_ | refine CallD.e (hp) ?_ | refine CallQ.e (hp) ?_); conv => whnf)
        | (refine CallG.a ((hcl _ _ _ _ _).mono fun r H' hq => ?_); obtain ⟨rfl, rfl⟩ := hq; conv => whnf)
        | (refine CallG.a ((hdel _ _ _ _ (by simp [newBlk, hbB, hbL, hb, hL, hD]) (by simp [newBlk, hbB, hbL, hb, hL, hD]) (by simp [newBlk, hbB, hbL, hb, hL, hD, obL_hb, obD_hb]) (by simp [newBlk, hbB, hbL, hb])).mono fun r H' hq => ?_); obtain ⟨Z, rfl, rfl⟩ := hq; conv => whnf)
        | (refine CallG.a ((hins _ p hpl _ _ _ _ _).mono fun r H' hq => ?_); rcases hq with ⟨rfl, rfl⟩ | ⟨Z', rfl, rfl⟩ | ⟨rfl, rfl⟩; conv => whnf))
      · rw [← hil, ← List.append_nil (cellsD (insD _ _ _))]
        exact RetG.pub (r' := .agg [.int .i64 k, .int .i64 n, .int .i64 f, .str s, .imm 6 (obL l_), .imm 7 (obD (insD p (key, .mk vk vn vf vs vl vd) (dropD key d)))]) (H' := frm l) (pub _ 5 2 [] (insD p (key, .mk vk vn vf vs vl vd) (dropD key d)) rfl (by decide)) rfl rfl ⟨by simp [hb, hbL, obL_hb, obD_hb], rfl, rfl⟩
      · rw [← hil]
        exact RetG.pub (r' := .agg [.int .i64 k, .int .i64 n, .int .i64 f, .str s, .imm 6 (obL l_), .imm 7 (obD (insD p (key, .mk vk vn vf vs vl vd) (dropD key d)))]) (H' := frm l) (pub _ 5 1 Z' (insD p (key, .mk vk vn vf vs vl vd) (dropD key d)) rfl (by decide)) rfl rfl ⟨by simp [hb, hbL, obL_hb, obD_hb], rfl, rfl⟩
      · rw [← hil, ← List.append_nil (cellsD (insD _ _ _))]
        exact RetG.pub (r' := .agg [.int .i64 k, .int .i64 n, .int .i64 f, .str s, .imm 6 (obL l_), .imm 7 (obD (insD p (key, .mk vk vn vf vs vl vd) (dropD key d)))]) (H' := frm l) (pub _ 6 0 [] (insD p (key, .mk vk vn vf vs vl vd) (dropD key d)) rfl (by decide)) rfl rfl ⟨by simp [hb, hbL, obL_hb, obD_hb], rfl, rfl⟩
end Ink.D

namespace Ink.D
open Go Go.Proofs
set_option maxRecDepth 100000
set_option linter.unusedSimpArgs false
set_option linter.unusedVariables false
variable {E : Env} (hE : E.P = Tryd.prog)

include hE
theorem indexNil0 (H : List Blk) : ACalls E 80 [.lit (.slice none 0 0), .fn (.func 56) [] [.ptr 2 0 0]] H fun r H' => r = .int .i64 (-1) ∧ H' = H := by
  refine a80 hE ?_
  conv => whnf
  repeat' (first
    | (refine And.intro ?_ ?_; (focus (first | omega | decide | (unfold inI64; omega) | (simp only [List.length_append, List.length_cons, List.length_nil] <;> omega) | (refine ⟨?_, ?_⟩ <;> omega) | (refine ⟨?_, ?_, ?_, ?_, ?_, ?_⟩ <;> first | rfl | trivial | decide | omega | (simp [bytesAV_length] <;> omega)) | (simp <;> omega) | (unfold inI64; simp only [List.length_append, List.length_cons, List.length_nil] <;> omega))); conv => whnf)
    | (refine brD (fun _ => ?_) (fun _ => ?_) <;> first | (exfalso; omega) | (conv => whnf))
    | (refine brB (fun _ => ?_) (fun _ => ?_) <;> conv => whnf))
  refine LoopG.s (fun x : Nat => x = 0) 19 (fun x => [(0, .lit (.slice none 0 0)), (4, .int .i64 0), (7, .int .i64 0), (8, .int .i64 x)]) (fun _ => H) (fun x => 0) 0 rfl rfl ⟨rfl, rfl, rfl, rfl⟩ rfl ?_
  rintro x rfl
  conv => whnf
  repeat' (first
    | (refine And.intro ?_ ?_; (focus (first | omega | decide | (unfold inI64; omega) | (simp only [List.length_append, List.length_cons, List.length_nil] <;> omega) | (refine ⟨?_, ?_⟩ <;> omega) | (refine ⟨?_, ?_, ?_, ?_, ?_, ?_⟩ <;> first | rfl | trivial | decide | omega | (simp [bytesAV_length] <;> omega)) | (simp <;> omega) | (unfold inI64; simp only [List.length_append, List.length_cons, List.length_nil] <;> omega))); conv => whnf)
    | (refine brD (fun _ => ?_) (fun _ => ?_) <;> first | (exfalso; omega) | (conv => whnf))
    | (refine brB (fun _ => ?_) (fun _ => ?_) <;> conv => whnf))
  exact RetG.q ⟨rfl, rfl⟩

theorem deleteNil (H : List Blk) : ACalls E 54 [.lit (.slice none 0 0), .fn (.func 56) [] [.ptr 2 0 0]] H fun r H' => r = .lit (.slice none 0 0) ∧ H' = H := by
  have hI := indexNil0 hE H
  refine a54 hE ?_
  conv => whnf
  repeat' (first
    | (refine And.intro ?_ ?_; (focus (first | omega | decide | (unfold inI64; omega) | (simp only [List.length_append, List.length_cons, List.length_nil] <;> omega) | (refine ⟨?_, ?_⟩ <;> omega) | (refine ⟨?_, ?_, ?_, ?_, ?_, ?_⟩ <;> first | rfl | trivial | decide | omega | (simp [bytesAV_length] <;> omega)) | (simp <;> omega) | (unfold inI64; simp only [List.length_append, List.length_cons, List.length_nil] <;> omega))); conv => whnf)
    | (refine brD (fun _ => ?_) (fun _ => ?_) <;> first | (exfalso; omega) | (conv => whnf))
    | (refine brB (fun _ => ?_) (fun _ => ?_) <;> conv => whnf)
    | (refine CallG.a (hI.mono fun r H' hq => ?_); obtain ⟨rfl, rfl⟩ := hq; conv => whnf))
  exact RetG.q ⟨rfl, rfl⟩

set_option maxHeartbeats 2000000 in
theorem set_nil (cap : Nat) (k n f : Int) (s : List UInt8) (l_ : List Ob) (key : List UInt8) (v : Ob) (hk : k = 6 ∨ k = 8) :
    PCalls E 33 [.agg [.int .i64 k, .int .i64 n, .int .i64 f, .str s, .imm 6 (obL l_), .lit (.slice none 0 cap)], .str key, .agg (obC v)] (· = .agg (obC (.mk k n f s l_ (setD [] key v)))) := by
  have hp := placeE hE none cap key
  have hdi := dictE hE none cap k n f s l_
  rw [decide_eq_true hk] at hdi
  have hcl := clone0 hE cap
  have hdel := deleteNil hE
  have hL : ∀ n0, hbLL n0 (obL l_) = true := fun n0 => obL_hb l_
  have hvb : ∀ n0, hbL n0 (obC v) = true := fun n0 => obC_hb v
  refine p33 hE (fun l => ?_) (by simp [hbL, hb, obC_hb, hL])
  unfold setD
  cases v with
  | mk vk vn vf vs vl vd =>
  unfold obC at hvb ⊢
  unfold Ob.kind
  by_cases hv0 : vk = 0
  · rw [if_pos hv0]
    conv => whnf
    repeat' (first
      | (refine And.intro ?_ ?_; (focus (first | omega | decide | (unfold inI64; omega) | (simp only [List.length_append, List.length_cons, List.length_nil] <;> omega) | (refine ⟨?_, ?_⟩ <;> omega) | (refine ⟨?_, ?_, ?_, ?_, ?_, ?_⟩ <;> first | rfl | trivial | decide | omega | (simp [bytesAV_length] <;> omega)) | (simp <;> omega) | (unfold inI64; simp only [List.length_append, List.length_cons, List.length_nil] <;> omega))); conv => whnf)
      | (refine brD (fun _ => ?_) (fun _ => ?_) <;> first | (exfalso; omega) | (conv => whnf))
      | (refine brB (fun _ => ?_) (fun _ => ?_) <;> conv => whnf)
      | ((first | refine CallG.e (hdi) ?_ | refine CallD.e (hdi) ?_ | refine CallQ.e (hdi) ?_); conv => whnf)
      | ((first | refine CallG.e (hp) ?_ | refine CallD.e (hp) ?_ | refine CallQ.e (hp) ?_); conv => whnf)
      | (refine CallG.a ((hcl _).mono fun r H' hq => ?_); obtain ⟨rfl, rfl⟩ := hq; conv => whnf)
      | (refine CallG.a ((hdel _).mono fun r H' hq => ?_); obtain ⟨rfl, rfl⟩ := hq; conv => whnf))
    exact RetG.pub (r' := .agg [.int .i64 k, .int .i64 n, .int .i64 f, .str s, .imm 6 (obL l_), .imm 7 []]) (H' := frm l) (Pub.aggL ⟨.same _ rfl, .same _ rfl, .same _ rfl, .same _ rfl, .same _ (by simp [hb, hL]), .nil _ _, trivial⟩ (by simp [sc])) rfl rfl ⟨by simp [hb, hbL, hbLL, obL_hb, obD_hb], rfl, rfl⟩
  · rw [if_neg hv0, if_pos (show ixK key [] 0 < 0 by simp [ixK])]
    conv => whnf
    repeat' (first
      | (refine And.intro ?_ ?_; (focus (first | omega | decide | (unfold inI64; omega) | (simp only [List.length_append, List.length_cons, List.length_nil] <;> omega) | (refine ⟨?_, ?_⟩ <;> omega) | (refine ⟨?_, ?_, ?_, ?_, ?_, ?_⟩ <;> first | rfl | trivial | decide | omega | (simp [bytesAV_length] <;> omega)) | (simp <;> omega) | (unfold inI64; simp only [List.length_append, List.length_cons, List.length_nil] <;> omega))); conv => whnf)
      | (refine brD (fun _ => ?_) (fun _ => ?_) <;> first | (exfalso; omega) | (conv => whnf))
      | (refine brB (fun _ => ?_) (fun _ => ?_) <;> conv => whnf)
      | ((first | refine CallG.e (hdi) ?_ | refine CallD.e (hdi) ?_ | refine CallQ.e (hdi) ?_); conv => whnf)
      | ((first | refine CallG.e (hp) ?_ | refine CallD.e (hp) ?_ | refine CallQ.e (hp) ?_); conv => whnf)
      | (refine CallG.a ((hcl _).mono fun r H' hq => ?_); obtain ⟨rfl, rfl⟩ := hq; conv => whnf)
      | (refine CallG.a ((hdel _).mono fun r H' hq => ?_); obtain ⟨rfl, rfl⟩ := hq; conv => whnf))
    have e2 : [[AV.str key, .int .i64 vk, .int .i64 vn, .int .i64 vf, .str vs, .imm 6 (obL vl), .imm 7 (obD vd)]].flatten = cellsD [(key, .mk vk vn vf vs vl vd)] ++ [] := rfl
    rw [e2]
    exact RetG.pub (r' := .agg [.int .i64 k, .int .i64 n, .int .i64 f, .str s, .imm 6 (obL l_), .imm 7 (obD [(key, .mk vk vn vf vs vl vd)])]) (H' := frm l) (Pub.aggL ⟨.same _ rfl, .same _ rfl, .same _ rfl, .same _ rfl, .same _ (by simp [hb, hL]), pubD [(key, .mk vk vn vf vs vl vd)] rfl (show 1 ≤ 5 by decide), trivial⟩ (by simp [sc])) rfl rfl ⟨by simp [hb, hbL, obL_hb, obD_hb], rfl, rfl⟩

set_option maxHeartbeats 2000000 in
theorem set_lit (a : Addr) (cap : Nat) (k n f : Int) (s : List UInt8) (l_ : List Ob) (key : List UInt8) (v : Ob) (hk : k = 6 ∨ k = 8) :
    PCalls E 33 [.agg [.int .i64 k, .int .i64 n, .int .i64 f, .str s, .imm 6 (obL l_), .lit (.slice (some a) 0 cap)], .str key, .agg (obC v)] (· = .agg (obC (.mk k n f s l_ (setD [] key v)))) := by
  have hp := placeE hE (some a) cap key
  have hdi := dictE hE (some a) cap k n f s l_
  rw [decide_eq_true hk] at hdi
  have hcl := cloneE hE a cap
  have hdel := deleteOwn hE key [] (by unfold big; simp)
  have hdn : dropD key [] = [] := rfl
  simp only [hdn, List.length_nil] at hdel
  have hL : ∀ n0, hbLL n0 (obL l_) = true := fun n0 => obL_hb l_
  have hvb : ∀ n0, hbL n0 (obC v) = true := fun n0 => obC_hb v
  refine p33 hE (fun l => ?_) (by simp [hbL, hb, obC_hb, hL])
  unfold setD
  cases v with
  | mk vk vn vf vs vl vd =>
  unfold obC at hvb ⊢
  unfold Ob.kind
  by_cases hv0 : vk = 0
  · rw [if_pos hv0]
    conv => whnf
    repeat' (first
      | (refine And.intro ?_ ?_; (focus (first | omega | decide | (unfold inI64; omega) | (simp only [List.length_append, List.length_cons, List.length_nil] <;> omega) | (refine ⟨?_, ?_⟩ <;> omega) | (refine ⟨?_, ?_, ?_, ?_, ?_, ?_⟩ <;> first | rfl | trivial | decide | omega | (simp [bytesAV_length] <;> omega)) | (simp <;> omega) | (unfold inI64; simp only [List.length_append, List.length_cons, List.length_nil] <;> omega))); conv => whnf)
      | (refine brD (fun _ => ?_) (fun _ => ?_) <;> first | (exfalso; omega) | (conv => whnf))
      | (refine brB (fun _ => ?_) (fun _ => ?_) <;> conv => whnf)
      | ((first | refine CallG.e (hdi) ?_ | refine CallD.e (hdi) ?_ | refine CallQ.e (hdi) ?_); conv => whnf)
      | ((first | refine CallG.e (hp) ?_ | refine CallD.e (hp) ?_ | refine CallQ.e (hp) ?_); conv => whnf)
      | (refine CallG.a ((hcl _ _ _ _ _).mono fun r H' hq => ?_); obtain ⟨rfl, rfl⟩ := hq; conv => whnf)
      | (refine CallG.a ((hdel _ _ _ _ (by simp [newBlk, hbB, hbL, hb, hL]) (by simp [newBlk, hbB, hbL, hb, hL]) (by simp [newBlk, hbB, hbL, hb, hL, obL_hb, obD_hb]) (by simp [newBlk, hbB, hbL, hb])).mono fun r H' hq => ?_); obtain ⟨Z, rfl, rfl⟩ := hq; conv => whnf))
    exact RetG.pub (r' := .agg [.int .i64 k, .int .i64 n, .int .i64 f, .str s, .imm 6 (obL l_), .imm 7 (obD [])]) (H' := frm l) (Pub.aggL ⟨.same _ rfl, .same _ rfl, .same _ rfl, .same _ rfl, .same _ (by simp [hb, hL]), pubD (X := Z) [] rfl (show 1 ≤ 5 by decide), trivial⟩ (by simp [sc])) rfl rfl ⟨by simp [hb, hbL, hbLL, obL_hb, obD_hb], rfl, rfl⟩
  · rw [if_neg hv0, if_pos (show ixK key [] 0 < 0 by simp [ixK])]
    conv => whnf
    repeat' (first
      | (refine And.intro ?_ ?_; (focus (first | omega | decide | (unfold inI64; omega) | (simp only [List.length_append, List.length_cons, List.length_nil] <;> omega) | (refine ⟨?_, ?_⟩ <;> omega) | (refine ⟨?_, ?_, ?_, ?_, ?_, ?_⟩ <;> first | rfl | trivial | decide | omega | (simp [bytesAV_length] <;> omega)) | (simp <;> omega) | (unfold inI64; simp only [List.length_append, List.length_cons, List.length_nil] <;> omega))); conv => whnf)
      | (refine brD (fun _ => ?_) (fun _ => ?_) <;> first | (exfalso; omega) | (conv => whnf))
      | (refine brB (fun _ => ?_) (fun _ => ?_) <;> conv => whnf)
      | ((first | refine CallG.e (hdi) ?_ | refine CallD.e (hdi) ?_ | refine CallQ.e (hdi) ?_); conv => whnf)
      | ((first | refine CallG.e (hp) ?_ | refine CallD.e (hp) ?_ | refine CallQ.e (hp) ?_); conv => whnf)
      | (refine CallG.a ((hcl _ _ _ _ _).mono fun r H' hq => ?_); obtain ⟨rfl, rfl⟩ := hq; conv => whnf)
      | (refine CallG.a ((hdel _ _ _ _ (by simp [newBlk, hbB, hbL, hb, hL]) (by simp [newBlk, hbB, hbL, hb, hL]) (by simp [newBlk, hbB, hbL, hb, hL, obL_hb, obD_hb]) (by simp [newBlk, hbB, hbL, hb])).mono fun r H' hq => ?_); obtain ⟨Z, rfl, rfl⟩ := hq; conv => whnf))
    exact RetG.pub (r' := .agg [.int .i64 k, .int .i64 n, .int .i64 f, .str s, .imm 6 (obL l_), .imm 7 (obD [(key, .mk vk vn vf vs vl vd)])]) (H' := frm l) (Pub.aggL ⟨.same _ rfl, .same _ rfl, .same _ rfl, .same _ rfl, .same _ (by simp [hb, hL]), pubD (X := []) [(key, .mk vk vn vf vs vl vd)] rfl (show 1 ≤ 5 by decide), trivial⟩ (by simp [sc])) rfl rfl ⟨by simp [hb, hbL, obL_hb, obD_hb], rfl, rfl⟩

/-- cos.Set -/
theorem set (o : Ob) (key : List UInt8) (v : Ob) (hd : ∀ k n f s l d, o = .mk k n f s l d → d.length < big) : PCalls E 33 [.agg (obC o), .str key, .agg (obC v)] (· = .agg (obC (setL o key v))) := by
  obtain ⟨k, n, f, s, l_, d⟩ := o
  by_cases hk : k = 6 ∨ k = 8
  · have hse : setL (.mk k n f s l_ d) key v = .mk k n f s l_ (setD d key v) := by simp [setL, hk]
    by_cases h0 : d = []
    · subst h0
      rw [hse]
      refine PCalls.split (fun args => ∃ a cap, args = [.agg [.int .i64 k, .int .i64 n, .int .i64 f, .str s, .imm 6 (obL l_), .lit (.slice a 0 cap)], .str key, .agg (obC v)]) (fun c vs h => ?_) (fun args h => ?_)
      · match vs, h.len with
        | [u0, u1, u2], _ =>
          obtain ⟨h1, h2⟩ := h.head
          obtain ⟨ws, rfl, h3, _⟩ := h1.aggI
          match ws, h3.len with
          | [w0, w1, w2, w3, w4, w5], _ =>
            obtain ⟨g0, h3⟩ := h3.head
            obtain ⟨g1, h3⟩ := h3.head
            obtain ⟨g2, h3⟩ := h3.head
            obtain ⟨g3, h3⟩ := h3.head
            obtain ⟨g4, h3⟩ := h3.head
            obtain ⟨g5, h3⟩ := h3.head
            obtain ⟨a, cap, rfl, hv⟩ := VR.imm0 g5
            exact ⟨_, ⟨a, cap, rfl⟩, LR.cons (LR.agg (LR.cons g0 (LR.cons g1 (LR.cons g2 (LR.cons g3 (LR.cons g4 (LR.cons hv (LR.nil c))))))) (by simp [sc, Value.oneCell'])) h2⟩
      · obtain ⟨a, cap, rfl⟩ := h
        cases a with
        | none => exact set_nil hE cap k n f s l_ key v hk
        | some a => exact set_lit hE a cap k n f s l_ key v hk
    · exact set_imm hE k n f s l_ d key v h0 (hd _ _ _ _ _ _ rfl) hk
  · have hse : setL (.mk k n f s l_ d) key v = .mk k n f s l_ d := by simp [setL, hk]
    rw [hse]
    have hdi := dictionary hE k n f s l_ d
    rw [decide_eq_false hk] at hdi
    have hL : ∀ n0, hbLL n0 (obL l_) = true := fun n0 => obL_hb l_
    have hD : ∀ n0, hbLL n0 (obD d) = true := fun n0 => obD_hb d
    refine p33 hE (fun l => ?_) (by simp [hbL, hb, obC_hb])
    unfold obC at hdi
    cases v with
    | mk vk vn vf vs vl vd =>
    simp only [obC]
    conv => whnf
    repeat' (first
      | (refine And.intro ?_ ?_; (focus (first | omega | decide | (unfold inI64; omega) | (simp only [List.length_append, List.length_cons, List.length_nil] <;> omega) | (refine ⟨?_, ?_⟩ <;> omega) | (refine ⟨?_, ?_, ?_, ?_, ?_, ?_⟩ <;> first | rfl | trivial | decide | omega | (simp [bytesAV_length] <;> omega)) | (simp <;> omega) | (unfold inI64; simp only [List.length_append, List.length_cons, List.length_nil] <;> omega))); conv => whnf)
      | (refine brD (fun _ => ?_) (fun _ => ?_) <;> first | (exfalso; omega) | (conv => whnf))
      | (refine brB (fun _ => ?_) (fun _ => ?_) <;> conv => whnf)
      | ((first | refine CallG.e (hdi) ?_ | refine CallD.e (hdi) ?_ | refine CallQ.e (hdi) ?_); conv => whnf))
    exact RetG.drop (by simp [hb, hbL, obL_hb, obD_hb]) rfl rfl ⟨by simp [hb, hbL, obL_hb, obD_hb], rfl, rfl⟩
end Ink.D
