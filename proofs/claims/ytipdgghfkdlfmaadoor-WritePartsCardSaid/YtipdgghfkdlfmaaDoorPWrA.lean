import Derived.Test.YtipdgghfkdlfmaaDoorInkBB
import Derived.Test.YtipdgghfkdlfmaaDoorPLexA
import Derived.Shelf.Strings.Builder2
import Derived.Shelf.LaysM
import Derived.Shelf.Strconv.Itoa3
import Derived.Shelf.Strings.Repeat
import Derived.Test.YtipdgghfkdlfmaaDoorPLexB
import Derived.Test.YtipdgghfkdlfmaaDoorInkE
import Derived.Test.YtipdgghfkdlfmaaDoorPObj
set_option linter.all false
namespace Ink.D
open Go
/-- inkstand/write.put -/
def ac62 : AF := ⟨75, [],
 .seq (.region [⟨(some 2), .box 84 (.tmp 0), none, false⟩,
 ⟨(some 3), .box 47 (.tmp 1), none, false⟩] false)
 (.seq (.region [⟨(some 4), .fieldAddr 0 (.tmp 3), none, false⟩,
 ⟨(some 5), .load none (.tmp 4), none, false⟩] false)
 (.block 0
 (.seq (.region [⟨(some 18), .bin .eql .other true (.tmp 5) (.av (.int .i64 0)), none, false⟩,
 ⟨(some 17), .move (.tmp 18), none, false⟩] false)
 (.cond (.tmp 17)
 (.region [⟨(some 19), .load none (.tmp 2), none, false⟩,
 ⟨(some 20), .call (.av (.fn (.func 87) [] [])) [(.tmp 19), (.av (.str [110, 117, 108, 108]))], none, false⟩] false)
 (.seq (.region [⟨(some 22), .bin .eql .other true (.tmp 5) (.av (.int .i64 1)), none, false⟩,
 ⟨(some 21), .move (.tmp 22), none, false⟩] false)
 (.cond (.tmp 21)
 (.region [⟨(some 23), .load none (.tmp 2), none, false⟩,
 ⟨(some 24), .fieldAddr 1 (.tmp 3), none, false⟩,
 ⟨(some 25), .load none (.tmp 24), none, false⟩,
 ⟨(some 26), .bin .eql .other true (.tmp 25) (.av (.int .i64 1)), none, false⟩,
 ⟨(some 27), .call (.av (.fn (.func 91) [] [])) [(.tmp 26)], none, true⟩,
 ⟨(some 28), .call (.av (.fn (.func 87) [] [])) [(.tmp 23), (.tmp 27)], none, false⟩] true)
 (.seq (.region [⟨(some 30), .bin .eql .other true (.tmp 5) (.av (.int .i64 2)), none, false⟩,
 ⟨(some 29), .move (.tmp 30), none, false⟩] false)
 (.cond (.tmp 29)
 (.region [⟨(some 31), .load none (.tmp 2), none, false⟩,
 ⟨(some 32), .load (some 6) (.tmp 3), none, false⟩,
 ⟨(some 33), .call (.av (.fn (.func 92) [] [])) [(.tmp 32)], none, true⟩,
 ⟨(some 34), .call (.av (.fn (.func 87) [] [])) [(.tmp 31), (.tmp 33)], none, false⟩] true)
 (.seq (.region [⟨(some 36), .bin .eql .other true (.tmp 5) (.av (.int .i64 3)), none, false⟩,
 ⟨(some 35), .move (.tmp 36), none, false⟩] false)
 (.cond (.tmp 35)
 (.region [⟨(some 37), .load none (.tmp 2), none, false⟩,
 ⟨(some 38), .fieldAddr 3 (.tmp 3), none, false⟩,
 ⟨(some 39), .load none (.tmp 38), none, false⟩,
 ⟨(some 40), .call (.av (.fn (.func 28) [] [])) [(.tmp 39)], none, true⟩,
 ⟨(some 41), .call (.av (.fn (.func 87) [] [])) [(.tmp 37), (.tmp 40)], none, false⟩] true)
 (.seq (.region [⟨(some 43), .bin .eql .other true (.tmp 5) (.av (.int .i64 4)), none, false⟩,
 ⟨(some 42), .move (.tmp 43), none, false⟩] false)
 (.cond (.tmp 42)
 (.region [⟨(some 44), .load none (.tmp 2), none, false⟩,
 ⟨(some 45), .fieldAddr 3 (.tmp 3), none, false⟩,
 ⟨(some 46), .load none (.tmp 45), none, false⟩,
 ⟨(some 47), .call (.av (.fn (.func 26) [] [])) [(.tmp 46)], none, true⟩,
 ⟨(some 48), .call (.av (.fn (.func 87) [] [])) [(.tmp 44), (.tmp 47)], none, false⟩] true)
 (.seq (.region [⟨(some 50), .bin .eql .other true (.tmp 5) (.av (.int .i64 7)), none, false⟩,
 ⟨(some 49), .move (.tmp 50), none, false⟩] false)
 (.cond (.tmp 49)
 (.region [⟨(some 51), .load none (.tmp 2), none, false⟩,
 ⟨(some 52), .fieldAddr 1 (.tmp 3), none, false⟩,
 ⟨(some 53), .load none (.tmp 52), none, false⟩,
 ⟨(some 54), .call (.av (.fn (.func 88) [] [])) [(.tmp 53)], none, true⟩,
 ⟨(some 55), .bin .add .other false (.tmp 54) (.av (.str [32])), none, false⟩,
 ⟨(some 56), .fieldAddr 2 (.tmp 3), none, false⟩,
 ⟨(some 57), .load none (.tmp 56), none, false⟩,
 ⟨(some 58), .call (.av (.fn (.func 93) [] [])) [(.tmp 57)], none, true⟩,
 ⟨(some 59), .bin .add .other false (.tmp 55) (.tmp 58), none, false⟩,
 ⟨(some 60), .bin .add .other false (.tmp 59) (.av (.str [32, 82])), none, false⟩,
 ⟨(some 61), .call (.av (.fn (.func 87) [] [])) [(.tmp 51), (.tmp 60)], none, false⟩] true)
 (.seq (.region [⟨(some 63), .bin .eql .other true (.tmp 5) (.av (.int .i64 5)), none, false⟩,
 ⟨(some 62), .move (.tmp 63), none, false⟩] false)
 (.cond (.tmp 62)
 (.seq (.region [⟨(some 64), .load none (.tmp 2), none, false⟩,
 ⟨(some 65), .call (.av (.fn (.func 94) [] [])) [(.tmp 64), (.av (.int .u8 91))], none, false⟩] false)
 (.seq (.region [⟨(some 66), .fieldAddr 4 (.tmp 3), none, false⟩,
 ⟨(some 67), .load none (.tmp 66), none, false⟩,
 ⟨(some 68), .len (.slice 6) (.tmp 67), none, false⟩,
 ⟨(some 69), .mkFunc (.func 96) [] [(.tmp 2), (.tmp 3)], none, false⟩,
 ⟨(some 70), .call (.av (.fn (.func 95) [] [])) [(.tmp 68), (.tmp 69)], none, true⟩,
 ⟨(some 71), .load none (.tmp 2), none, false⟩,
 ⟨(some 72), .call (.tmp 70) [(.tmp 71)], none, false⟩] true)
 (.region [⟨(some 73), .load none (.tmp 2), none, false⟩,
 ⟨(some 74), .call (.av (.fn (.func 94) [] [])) [(.tmp 73), (.av (.int .u8 93))], none, false⟩] false)))
 (.seq (.region [⟨(some 6), .load none (.tmp 2), none, false⟩,
 ⟨(some 7), .call (.av (.fn (.func 87) [] [])) [(.tmp 6), (.av (.str [60, 60]))], none, false⟩] false)
 (.seq (.region [⟨(some 8), .fieldAddr 5 (.tmp 3), none, false⟩,
 ⟨(some 9), .load none (.tmp 8), none, false⟩,
 ⟨(some 10), .len (.slice 7) (.tmp 9), none, false⟩,
 ⟨(some 11), .mkFunc (.func 97) [] [(.tmp 2), (.tmp 3)], none, false⟩,
 ⟨(some 12), .call (.av (.fn (.func 95) [] [])) [(.tmp 10), (.tmp 11)], none, true⟩,
 ⟨(some 13), .load none (.tmp 2), none, false⟩,
 ⟨(some 14), .call (.tmp 12) [(.tmp 13)], none, false⟩] true)
 (.region [⟨(some 15), .load none (.tmp 2), none, false⟩,
 ⟨(some 16), .call (.av (.fn (.func 87) [] [])) [(.tmp 15), (.av (.str [62, 62]))], none, false⟩] false)))))))))))))))))))⟩
/-- inkstand/write.join -/
def ac95 : AF := ⟨6, [.tmp 4],
 .seq (.region [⟨(some 2), .box 3 (.tmp 0), none, false⟩,
 ⟨(some 3), .box 118 (.tmp 1), none, false⟩,
 ⟨(some 4), .move (.av (.lit .nilFunc)), none, false⟩] false)
 (.seq (.region [⟨(some 5), .mkFunc (.func 124) [] [(.tmp 2), (.tmp 3)], none, false⟩,
 ⟨(some 4), .move (.tmp 5), none, false⟩] false)
 (.ret))⟩
/-- inkstand/write.join$1 -/
def ac124 : AF := ⟨17, [],
 .seq (.region [⟨(some 5), .load none (.tmp 1), none, false⟩,
 ⟨(some 6), .move (.av (.int .i64 0)), none, false⟩] false)
 (.block 0
 (.loop
 (.seq (.region [⟨(some 7), .bin .lss .other true (.tmp 6) (.tmp 5), none, false⟩] false)
 (.seq (.cond (.tmp 7)
 (.skip)
 (.exit 0))
 (.seq (.block 1
 (.seq (.region [⟨(some 8), .move (.tmp 6), none, false⟩,
 ⟨(some 4), .move (.tmp 8), none, false⟩] false)
 (.seq (.seq (.region [⟨(some 9), .move (.tmp 4), none, false⟩,
 ⟨(some 10), .bin .gtr .other true (.tmp 9) (.av (.int .i64 0)), none, false⟩] false)
 (.cond (.tmp 10)
 (.region [⟨(some 11), .move (.tmp 0), none, false⟩,
 ⟨(some 12), .call (.av (.fn (.func 94) [] [])) [(.tmp 11), (.av (.int .u8 32))], none, false⟩] false)
 (.skip)))
 (.region [⟨(some 13), .load none (.tmp 2), none, false⟩,
 ⟨(some 14), .move (.tmp 4), none, false⟩,
 ⟨(some 15), .call (.tmp 13) [(.tmp 14)], none, false⟩] false))))
 (.region [⟨(some 16), .bin .add .other true (.tmp 6) (.av (.int .i64 1)), none, false⟩,
 ⟨(some 6), .move (.tmp 16), none, false⟩] false))))))⟩
/-- inkstand/write.put$1 -/
def ac96 : AF := ⟨11, [],
 .region [⟨(some 4), .load none (.tmp 1), none, false⟩,
 ⟨(some 5), .fieldAddr 4 (.tmp 2), none, false⟩,
 ⟨(some 6), .load none (.tmp 5), none, false⟩,
 ⟨(some 7), .move (.tmp 0), none, false⟩,
 ⟨(some 8), .indexAddr none 6 (.tmp 6) (.tmp 7), none, false⟩,
 ⟨(some 9), .load (some 6) (.tmp 8), none, false⟩,
 ⟨(some 10), .call (.av (.fn (.func 62) [] [])) [(.tmp 4), (.tmp 9)], none, false⟩] true⟩
/-- inkstand/write.put$2 -/
def ac97 : AF := ⟨22, [],
 .seq (.region [⟨(some 4), .load none (.tmp 1), none, false⟩,
 ⟨(some 5), .fieldAddr 5 (.tmp 2), none, false⟩,
 ⟨(some 6), .load none (.tmp 5), none, false⟩,
 ⟨(some 7), .move (.tmp 0), none, false⟩,
 ⟨(some 8), .indexAddr none 7 (.tmp 6) (.tmp 7), none, false⟩,
 ⟨(some 9), .fieldAddr 0 (.tmp 8), none, false⟩,
 ⟨(some 10), .load none (.tmp 9), none, false⟩,
 ⟨(some 11), .call (.av (.fn (.func 28) [] [])) [(.tmp 10)], none, true⟩,
 ⟨(some 12), .bin .add .other false (.tmp 11) (.av (.str [32])), none, false⟩,
 ⟨(some 13), .call (.av (.fn (.func 87) [] [])) [(.tmp 4), (.tmp 12)], none, false⟩] true)
 (.region [⟨(some 14), .load none (.tmp 1), none, false⟩,
 ⟨(some 15), .fieldAddr 5 (.tmp 2), none, false⟩,
 ⟨(some 16), .load none (.tmp 15), none, false⟩,
 ⟨(some 17), .move (.tmp 0), none, false⟩,
 ⟨(some 18), .indexAddr none 7 (.tmp 16) (.tmp 17), none, false⟩,
 ⟨(some 19), .fieldAddr 1 (.tmp 18), none, false⟩,
 ⟨(some 20), .load (some 6) (.tmp 19), none, false⟩,
 ⟨(some 21), .call (.av (.fn (.func 62) [] [])) [(.tmp 14), (.tmp 20)], none, false⟩] true)⟩
/-- inkstand/write.number -/
def ac92 : AF := ⟨19, [.tmp 2],
 .seq (.region [⟨(some 1), .box 47 (.tmp 0), none, false⟩,
 ⟨(some 2), .move (.av (.str [])), none, false⟩] false)
 (.seq (.region [⟨(some 4), .fieldAddr 2 (.tmp 1), none, false⟩,
 ⟨(some 5), .load none (.tmp 4), none, false⟩,
 ⟨(some 6), .call (.av (.fn (.func 93) [] [])) [(.tmp 5)], none, false⟩,
 ⟨(some 3), .move (.tmp 6), none, false⟩] false)
 (.seq (.seq (.region [⟨(some 7), .fieldAddr 1 (.tmp 1), none, false⟩,
 ⟨(some 8), .load none (.tmp 7), none, false⟩,
 ⟨(some 9), .bin .eql .other true (.tmp 8) (.av (.int .i64 0)), none, false⟩,
 ⟨(some 10), .move (.tmp 9), none, false⟩,
 ⟨(some 11), .fieldAddr 2 (.tmp 1), (some (10, true)), false⟩,
 ⟨(some 12), .load none (.tmp 11), (some (10, true)), false⟩,
 ⟨(some 13), .bin .rem .other true (.tmp 12) (.av (.int .i64 1000)), (some (10, true)), false⟩,
 ⟨(some 14), .bin .eql .other true (.tmp 13) (.av (.int .i64 0)), (some (10, true)), false⟩,
 ⟨(some 15), .pick (.tmp 10) (.tmp 14) (.av (.bool false)), none, false⟩] false)
 (.cond (.tmp 15)
 (.region [⟨(some 16), .move (.tmp 3), none, false⟩,
 ⟨(some 17), .bin .add .other false (.tmp 16) (.av (.str [46, 48])), none, false⟩,
 ⟨(some 3), .move (.tmp 17), none, false⟩] false)
 (.skip)))
 (.seq (.region [⟨(some 18), .move (.tmp 3), none, false⟩,
 ⟨(some 2), .move (.tmp 18), none, false⟩] false)
 (.ret))))⟩
/-- inkstand/fix.Print -/
def ac93 : AF := ⟨43, [.tmp 2],
 .seq (.region [⟨(some 2), .move (.av (.str [])), none, false⟩] false)
 (.seq (.seq (.region [⟨(some 7), .move (.tmp 0), none, false⟩,
 ⟨(some 8), .buildSlice false 23 1 1 [(.int .i64 0)] [(0, (.tmp 7))], none, false⟩,
 ⟨(some 9), .call (.av (.fn (.func 84) [] [])) [(.tmp 8)], none, false⟩,
 ⟨(some 10), .un .not false (.tmp 9), none, false⟩] false)
 (.cond (.tmp 10)
 (.seq (.region [⟨(some 2), .move (.av (.str [])), none, false⟩] false)
 (.ret))
 (.skip)))
 (.seq (.region [⟨(some 12), .move (.tmp 0), none, false⟩,
 ⟨(some 13), .call (.av (.fn (.func 88) [] [])) [(.tmp 12)], none, false⟩,
 ⟨(some 14), .call (.av (.fn (.func 120) [] [])) [(.tmp 13), (.av (.str [45]))], none, false⟩,
 ⟨(some 11), .move (.tmp 14), none, false⟩,
 ⟨(some 15), .extract (.tmp 11) 0, none, false⟩,
 ⟨(some 16), .extract (.tmp 11) 1, none, false⟩,
 ⟨(some 3), .move (.tmp 15), none, false⟩,
 ⟨(some 4), .move (.tmp 16), none, false⟩] false)
 (.seq (.seq (.region [⟨(some 17), .move (.tmp 3), none, false⟩,
 ⟨(some 18), .len .str (.tmp 17), none, false⟩,
 ⟨(some 19), .bin .leq .other true (.tmp 18) (.av (.int .i64 3)), none, false⟩] false)
 (.cond (.tmp 19)
 (.region [⟨(some 20), .move (.tmp 3), none, false⟩,
 ⟨(some 21), .len .str (.tmp 20), none, false⟩,
 ⟨(some 22), .bin .sub .other true (.av (.int .i64 4)) (.tmp 21), none, false⟩,
 ⟨(some 23), .call (.av (.fn (.func 121) [] [])) [(.av (.str [48])), (.tmp 22)], none, false⟩,
 ⟨(some 24), .move (.tmp 3), none, false⟩,
 ⟨(some 25), .bin .add .other false (.tmp 23) (.tmp 24), none, false⟩,
 ⟨(some 3), .move (.tmp 25), none, false⟩] false)
 (.skip)))
 (.seq (.region [⟨(some 26), .move (.tmp 3), none, false⟩,
 ⟨(some 27), .len .str (.tmp 26), none, false⟩,
 ⟨(some 28), .bin .sub .other true (.tmp 27) (.av (.int .i64 3)), none, false⟩,
 ⟨(some 5), .move (.tmp 28), none, false⟩] false)
 (.seq (.region [⟨(some 29), .move (.tmp 3), none, false⟩,
 ⟨(some 30), .move (.tmp 5), none, false⟩,
 ⟨(some 31), .slice .str (.tmp 29) none (some (.tmp 30)), none, false⟩,
 ⟨(some 32), .bin .add .other false (.tmp 31) (.av (.str [46])), none, false⟩,
 ⟨(some 33), .move (.tmp 3), none, false⟩,
 ⟨(some 34), .move (.tmp 5), none, false⟩,
 ⟨(some 35), .slice .str (.tmp 33) (some (.tmp 34)) none, none, false⟩,
 ⟨(some 36), .bin .add .other false (.tmp 32) (.tmp 35), none, false⟩,
 ⟨(some 37), .call (.av (.fn (.func 123) [] [])) [(.tmp 36), (.av (.str [48]))], none, false⟩,
 ⟨(some 38), .call (.av (.fn (.func 122) [] [])) [(.tmp 37), (.av (.str [46]))], none, false⟩,
 ⟨(some 6), .move (.tmp 38), none, false⟩] true)
 (.seq (.seq (.region [⟨(some 39), .move (.tmp 4), none, false⟩] false)
 (.cond (.tmp 39)
 (.seq (.region [⟨(some 40), .move (.tmp 6), none, false⟩,
 ⟨(some 41), .bin .add .other false (.av (.str [45])) (.tmp 40), none, false⟩,
 ⟨(some 2), .move (.tmp 41), none, false⟩] false)
 (.ret))
 (.skip)))
 (.seq (.region [⟨(some 42), .move (.tmp 6), none, false⟩,
 ⟨(some 2), .move (.tmp 42), none, false⟩] false)
 (.ret))))))))⟩
/-- strings.trimRightByte -/
def ac144 : AF := ⟨23, [.tmp 4],
 .seq (.region [⟨(some 4), .move (.av (.str [])), none, false⟩] false)
 (.seq (.block 0
 (.loop
 (.seq (.seq (.region [⟨(some 5), .move (.tmp 0), none, false⟩,
 ⟨(some 6), .len .str (.tmp 5), none, false⟩,
 ⟨(some 7), .bin .gtr .other true (.tmp 6) (.av (.int .i64 0)), none, false⟩,
 ⟨(some 8), .move (.tmp 7), none, false⟩,
 ⟨(some 9), .move (.tmp 0), (some (8, true)), false⟩,
 ⟨(some 10), .move (.tmp 0), (some (8, true)), false⟩,
 ⟨(some 11), .len .str (.tmp 10), (some (8, true)), false⟩,
 ⟨(some 12), .bin .sub .other true (.tmp 11) (.av (.int .i64 1)), (some (8, true)), false⟩,
 ⟨(some 13), .indexStr (.tmp 9) (.tmp 12), (some (8, true)), false⟩,
 ⟨(some 14), .move (.tmp 1), (some (8, true)), false⟩,
 ⟨(some 15), .bin .eql .other false (.tmp 13) (.tmp 14), (some (8, true)), false⟩,
 ⟨(some 16), .pick (.tmp 8) (.tmp 15) (.av (.bool false)), none, false⟩] false)
 (.cond (.tmp 16)
 (.skip)
 (.exit 0)))
 (.block 1
 (.region [⟨(some 17), .move (.tmp 0), none, false⟩,
 ⟨(some 18), .move (.tmp 0), none, false⟩,
 ⟨(some 19), .len .str (.tmp 18), none, false⟩,
 ⟨(some 20), .bin .sub .other true (.tmp 19) (.av (.int .i64 1)), none, false⟩,
 ⟨(some 21), .slice .str (.tmp 17) none (some (.tmp 20)), none, false⟩,
 ⟨(some 0), .move (.tmp 21), none, false⟩] false)))))
 (.seq (.region [⟨(some 22), .move (.tmp 0), none, false⟩,
 ⟨(some 4), .move (.tmp 22), none, false⟩] false)
 (.ret)))⟩
/-- internal/stringslite.TrimSuffix -/
def ac143 : AF := ⟨16, [.tmp 4],
 .seq (.region [⟨(some 4), .move (.av (.str [])), none, false⟩] false)
 (.seq (.seq (.region [⟨(some 5), .move (.tmp 0), none, false⟩,
 ⟨(some 6), .move (.tmp 1), none, false⟩,
 ⟨(some 7), .call (.av (.fn (.func 159) [] [])) [(.tmp 5), (.tmp 6)], none, false⟩] false)
 (.cond (.tmp 7)
 (.seq (.region [⟨(some 8), .move (.tmp 0), none, false⟩,
 ⟨(some 9), .move (.tmp 0), none, false⟩,
 ⟨(some 10), .len .str (.tmp 9), none, false⟩,
 ⟨(some 11), .move (.tmp 1), none, false⟩,
 ⟨(some 12), .len .str (.tmp 11), none, false⟩,
 ⟨(some 13), .bin .sub .other true (.tmp 10) (.tmp 12), none, false⟩,
 ⟨(some 14), .slice .str (.tmp 8) none (some (.tmp 13)), none, false⟩,
 ⟨(some 4), .move (.tmp 14), none, false⟩] false)
 (.ret))
 (.skip)))
 (.seq (.region [⟨(some 15), .move (.tmp 0), none, false⟩,
 ⟨(some 4), .move (.tmp 15), none, false⟩] false)
 (.ret)))⟩
/-- strings.TrimRight -/
def ac123 : AF := ⟨37, [.tmp 4],
 .seq (.region [⟨(some 4), .move (.av (.str [])), none, false⟩] false)
 (.seq (.seq (.region [⟨(some 7), .move (.tmp 0), none, false⟩,
 ⟨(some 8), .bin .eql .other false (.tmp 7) (.av (.str [])), none, false⟩,
 ⟨(some 9), .move (.tmp 8), none, false⟩,
 ⟨(some 10), .move (.tmp 1), (some (9, false)), false⟩,
 ⟨(some 11), .bin .eql .other false (.tmp 10) (.av (.str [])), (some (9, false)), false⟩,
 ⟨(some 12), .pick (.tmp 9) (.av (.bool true)) (.tmp 11), none, false⟩] false)
 (.cond (.tmp 12)
 (.seq (.region [⟨(some 13), .move (.tmp 0), none, false⟩,
 ⟨(some 4), .move (.tmp 13), none, false⟩] false)
 (.ret))
 (.skip)))
 (.seq (.seq (.region [⟨(some 14), .move (.tmp 1), none, false⟩,
 ⟨(some 15), .len .str (.tmp 14), none, false⟩,
 ⟨(some 16), .bin .eql .other true (.tmp 15) (.av (.int .i64 1)), none, false⟩,
 ⟨(some 17), .move (.tmp 16), none, false⟩,
 ⟨(some 18), .move (.tmp 1), (some (17, true)), false⟩,
 ⟨(some 19), .indexStr (.tmp 18) (.av (.int .i64 0)), (some (17, true)), false⟩,
 ⟨(some 20), .bin .lss .other false (.tmp 19) (.av (.int .u8 128)), (some (17, true)), false⟩,
 ⟨(some 21), .pick (.tmp 17) (.tmp 20) (.av (.bool false)), none, false⟩] false)
 (.cond (.tmp 21)
 (.seq (.region [⟨(some 22), .move (.tmp 0), none, false⟩,
 ⟨(some 23), .move (.tmp 1), none, false⟩,
 ⟨(some 24), .indexStr (.tmp 23) (.av (.int .i64 0)), none, false⟩,
 ⟨(some 25), .call (.av (.fn (.func 144) [] [])) [(.tmp 22), (.tmp 24)], none, false⟩,
 ⟨(some 4), .move (.tmp 25), none, false⟩] false)
 (.ret))
 (.skip)))
 (.seq (.seq (.region [⟨(some 27), .move (.tmp 1), none, false⟩,
 ⟨(some 28), .call (.av (.fn (.func 145) [] [])) [(.tmp 27)], none, false⟩,
 ⟨(some 26), .move (.tmp 28), none, false⟩,
 ⟨(some 29), .extract (.tmp 26) 0, none, false⟩,
 ⟨(some 30), .extract (.tmp 26) 1, none, false⟩,
 ⟨(some 5), .alloc 156 (List.replicate 256 (.bool false)), none, false⟩,
 ⟨none, .store 256 (.tmp 5) (.tmp 29), none, false⟩,
 ⟨(some 6), .move (.tmp 30), none, false⟩] false)
 (.seq (.region [⟨(some 31), .move (.tmp 6), none, false⟩] false)
 (.cond (.tmp 31)
 (.seq (.region [⟨(some 32), .move (.tmp 0), none, false⟩,
 ⟨(some 33), .call (.av (.fn (.func 146) [] [])) [(.tmp 32), (.tmp 5)], none, false⟩,
 ⟨(some 4), .move (.tmp 33), none, false⟩] false)
 (.ret))
 (.skip))))
 (.seq (.region [⟨(some 34), .move (.tmp 0), none, false⟩,
 ⟨(some 35), .move (.tmp 1), none, false⟩,
 ⟨(some 36), .call (.av (.fn (.func 147) [] [])) [(.tmp 34), (.tmp 35)], none, false⟩,
 ⟨(some 4), .move (.tmp 36), none, false⟩] false)
 (.ret)))))⟩
/-- strings.TrimSuffix -/
def ac122 : AF := ⟨8, [.tmp 4],
 .seq (.region [⟨(some 4), .move (.av (.str [])), none, false⟩] false)
 (.seq (.region [⟨(some 5), .move (.tmp 0), none, false⟩,
 ⟨(some 6), .move (.tmp 1), none, false⟩,
 ⟨(some 7), .call (.av (.fn (.func 143) [] [])) [(.tmp 5), (.tmp 6)], none, false⟩,
 ⟨(some 4), .move (.tmp 7), none, false⟩] false)
 (.ret))⟩
/-- internal/stringslite.HasSuffix -/
def ac159 : AF := ⟨21, [.tmp 4],
 .seq (.region [⟨(some 4), .move (.av (.bool false)), none, false⟩] false)
 (.seq (.region [⟨(some 5), .move (.tmp 0), none, false⟩,
 ⟨(some 6), .len .str (.tmp 5), none, false⟩,
 ⟨(some 7), .move (.tmp 1), none, false⟩,
 ⟨(some 8), .len .str (.tmp 7), none, false⟩,
 ⟨(some 9), .bin .geq .other true (.tmp 6) (.tmp 8), none, false⟩,
 ⟨(some 10), .move (.tmp 9), none, false⟩,
 ⟨(some 11), .move (.tmp 0), (some (10, true)), false⟩,
 ⟨(some 12), .move (.tmp 0), (some (10, true)), false⟩,
 ⟨(some 13), .len .str (.tmp 12), (some (10, true)), false⟩,
 ⟨(some 14), .move (.tmp 1), (some (10, true)), false⟩,
 ⟨(some 15), .len .str (.tmp 14), (some (10, true)), false⟩,
 ⟨(some 16), .bin .sub .other true (.tmp 13) (.tmp 15), (some (10, true)), false⟩,
 ⟨(some 17), .slice .str (.tmp 11) (some (.tmp 16)) none, (some (10, true)), false⟩,
 ⟨(some 18), .move (.tmp 1), (some (10, true)), false⟩,
 ⟨(some 19), .bin .eql .other false (.tmp 17) (.tmp 18), (some (10, true)), false⟩,
 ⟨(some 20), .pick (.tmp 10) (.tmp 19) (.av (.bool false)), none, false⟩,
 ⟨(some 4), .move (.tmp 20), none, false⟩] false)
 (.ret))⟩
/-- strconv.FormatBool -/
def ac91 : AF := ⟨5, [.tmp 2],
 .seq (.region [⟨(some 2), .move (.av (.str [])), none, false⟩] false)
 (.seq (.region [⟨(some 3), .move (.tmp 0), none, false⟩,
 ⟨(some 4), .call (.av (.fn (.func 119) [] [])) [(.tmp 3)], none, false⟩,
 ⟨(some 2), .move (.tmp 4), none, false⟩] false)
 (.ret))⟩
/-- internal/strconv.FormatBool -/
def ac119 : AF := ⟨4, [.tmp 2],
 .seq (.region [⟨(some 2), .move (.av (.str [])), none, false⟩] false)
 (.seq (.seq (.region [⟨(some 3), .move (.tmp 0), none, false⟩] false)
 (.cond (.tmp 3)
 (.seq (.region [⟨(some 2), .move (.av (.str [116, 114, 117, 101])), none, false⟩] false)
 (.ret))
 (.skip)))
 (.seq (.region [⟨(some 2), .move (.av (.str [102, 97, 108, 115, 101])), none, false⟩] false)
 (.ret)))⟩
/-- inkstand/write.Sane -/
def ac60 : AF := ⟨5, [.tmp 2],
 .seq (.region [⟨(some 1), .box 47 (.tmp 0), none, false⟩,
 ⟨(some 2), .move (.av (.int .i64 0)), none, false⟩] false)
 (.seq (.region [⟨(some 3), .load (some 6) (.tmp 1), none, false⟩,
 ⟨(some 4), .call (.av (.fn (.func 90) [] [])) [(.tmp 3), (.av (.int .i64 0))], none, false⟩,
 ⟨(some 2), .move (.tmp 4), none, false⟩] false)
 (.ret))⟩
/-- inkstand/write.sane -/
def ac90 : AF := ⟨37, [.tmp 4],
 .seq (.region [⟨(some 2), .box 47 (.tmp 0), none, false⟩,
 ⟨(some 4), .move (.av (.int .i64 0)), none, false⟩] false)
 (.seq (.seq (.region [⟨(some 10), .load (some 6) (.tmp 2), none, false⟩,
 ⟨(some 11), .move (.tmp 1), none, false⟩,
 ⟨(some 12), .call (.av (.fn (.func 116) [] [])) [(.tmp 10), (.tmp 11)], none, false⟩,
 ⟨(some 5), .move (.tmp 12), none, false⟩] false)
 (.seq (.region [⟨(some 13), .move (.tmp 5), none, false⟩,
 ⟨(some 14), .bin .neq .other true (.tmp 13) (.av (.int .i64 0)), none, false⟩] false)
 (.cond (.tmp 14)
 (.seq (.region [⟨(some 15), .move (.tmp 5), none, false⟩,
 ⟨(some 4), .move (.tmp 15), none, false⟩] false)
 (.ret))
 (.skip))))
 (.seq (.seq (.region [⟨(some 16), .load (some 6) (.tmp 2), none, false⟩,
 ⟨(some 17), .move (.tmp 1), none, false⟩,
 ⟨(some 18), .call (.av (.fn (.func 117) [] [])) [(.tmp 16), (.tmp 17)], none, false⟩,
 ⟨(some 6), .move (.tmp 18), none, false⟩] false)
 (.seq (.region [⟨(some 19), .move (.tmp 6), none, false⟩,
 ⟨(some 20), .bin .neq .other true (.tmp 19) (.av (.int .i64 0)), none, false⟩] false)
 (.cond (.tmp 20)
 (.seq (.region [⟨(some 21), .move (.tmp 6), none, false⟩,
 ⟨(some 4), .move (.tmp 21), none, false⟩] false)
 (.ret))
 (.skip))))
 (.seq (.seq (.region [⟨(some 22), .load (some 6) (.tmp 2), none, false⟩,
 ⟨(some 23), .call (.av (.fn (.func 118) [] [])) [(.tmp 22)], none, false⟩,
 ⟨(some 24), .len (.slice 6) (.tmp 23), none, false⟩,
 ⟨(some 25), .move (.av (.int .i64 0)), none, false⟩] false)
 (.block 0
 (.loop
 (.seq (.region [⟨(some 26), .bin .lss .other true (.tmp 25) (.tmp 24), none, false⟩] false)
 (.seq (.cond (.tmp 26)
 (.skip)
 (.exit 0))
 (.seq (.block 1
 (.seq (.region [⟨(some 27), .indexAddr none 6 (.tmp 23) (.tmp 25), none, false⟩,
 ⟨(some 28), .load (some 6) (.tmp 27), none, false⟩,
 ⟨(some 8), .alloc 47 [(.int .i64 0), (.int .i64 0), (.int .i64 0), (.str []), (.lit (.slice none 0 0)), (.lit (.slice none 0 0))], none, false⟩,
 ⟨none, .store 6 (.tmp 8) (.tmp 28), none, false⟩] false)
 (.seq (.region [⟨(some 29), .load (some 6) (.tmp 8), none, false⟩,
 ⟨(some 30), .move (.tmp 1), none, false⟩,
 ⟨(some 31), .bin .add .other true (.tmp 30) (.av (.int .i64 1)), none, false⟩,
 ⟨(some 32), .call (.av (.fn (.func 90) [] [])) [(.tmp 29), (.tmp 31)], none, false⟩,
 ⟨(some 9), .move (.tmp 32), none, false⟩] false)
 (.seq (.region [⟨(some 33), .move (.tmp 9), none, false⟩,
 ⟨(some 34), .bin .neq .other true (.tmp 33) (.av (.int .i64 0)), none, false⟩] false)
 (.cond (.tmp 34)
 (.seq (.region [⟨(some 35), .move (.tmp 9), none, false⟩,
 ⟨(some 4), .move (.tmp 35), none, false⟩] false)
 (.ret))
 (.skip))))))
 (.region [⟨(some 36), .bin .add .other true (.tmp 25) (.av (.int .i64 1)), none, false⟩,
 ⟨(some 25), .move (.tmp 36), none, false⟩] false)))))))
 (.seq (.region [⟨(some 4), .move (.av (.int .i64 0)), none, false⟩] false)
 (.ret)))))⟩
/-- inkstand/write.shape -/
def ac116 : AF := ⟨64, [.tmp 4],
 .seq (.region [⟨(some 2), .box 47 (.tmp 0), none, false⟩,
 ⟨(some 4), .move (.av (.int .i64 0)), none, false⟩] false)
 (.seq (.region [⟨(some 7), .fieldAddr 2 (.tmp 2), none, false⟩,
 ⟨(some 8), .load none (.tmp 7), none, false⟩,
 ⟨(some 9), .bin .rem .other true (.tmp 8) (.av (.int .i64 1000)), none, false⟩,
 ⟨(some 10), .bin .neq .other true (.tmp 9) (.av (.int .i64 0)), none, false⟩,
 ⟨(some 5), .move (.tmp 10), none, false⟩] false)
 (.seq (.region [⟨(some 6), .move (.av (.bool false)), none, false⟩] false)
 (.seq (.seq (.region [⟨(some 11), .fieldAddr 0 (.tmp 2), none, false⟩,
 ⟨(some 12), .load none (.tmp 11), none, false⟩] false)
 (.block 0
 (.seq (.seq (.region [⟨(some 14), .bin .eql .other true (.tmp 12) (.av (.int .i64 0)), none, false⟩,
 ⟨(some 13), .move (.tmp 14), none, false⟩] false)
 (.cond (.tmp 13)
 (.skip)
 (.seq (.region [⟨(some 15), .bin .eql .other true (.tmp 12) (.av (.int .i64 3)), none, false⟩,
 ⟨(some 13), .move (.tmp 15), none, false⟩] false)
 (.cond (.tmp 13)
 (.skip)
 (.seq (.region [⟨(some 16), .bin .eql .other true (.tmp 12) (.av (.int .i64 4)), none, false⟩,
 ⟨(some 13), .move (.tmp 16), none, false⟩] false)
 (.cond (.tmp 13)
 (.skip)
 (.region [⟨(some 17), .bin .eql .other true (.tmp 12) (.av (.int .i64 5)), none, false⟩,
 ⟨(some 13), .move (.tmp 17), none, false⟩] false)))))))
 (.cond (.tmp 13)
 (.skip)
 (.seq (.region [⟨(some 19), .bin .eql .other true (.tmp 12) (.av (.int .i64 1)), none, false⟩,
 ⟨(some 18), .move (.tmp 19), none, false⟩] false)
 (.cond (.tmp 18)
 (.region [⟨(some 20), .fieldAddr 1 (.tmp 2), none, false⟩,
 ⟨(some 21), .load none (.tmp 20), none, false⟩,
 ⟨(some 22), .bin .andNot .other true (.tmp 21) (.av (.int .i64 1)), none, false⟩,
 ⟨(some 23), .bin .neq .other true (.tmp 22) (.av (.int .i64 0)), none, false⟩,
 ⟨(some 6), .move (.tmp 23), none, false⟩] false)
 (.seq (.region [⟨(some 25), .bin .eql .other true (.tmp 12) (.av (.int .i64 2)), none, false⟩,
 ⟨(some 24), .move (.tmp 25), none, false⟩] false)
 (.cond (.tmp 24)
 (.region [⟨(some 26), .fieldAddr 1 (.tmp 2), none, false⟩,
 ⟨(some 27), .load none (.tmp 26), none, false⟩,
 ⟨(some 28), .bin .andNot .other true (.tmp 27) (.av (.int .i64 1)), none, false⟩,
 ⟨(some 29), .bin .neq .other true (.tmp 28) (.av (.int .i64 0)), none, false⟩,
 ⟨(some 30), .move (.tmp 29), none, false⟩,
 ⟨(some 31), .fieldAddr 1 (.tmp 2), (some (30, false)), false⟩,
 ⟨(some 32), .load none (.tmp 31), (some (30, false)), false⟩,
 ⟨(some 33), .bin .eql .other true (.tmp 32) (.av (.int .i64 1)), (some (30, false)), false⟩,
 ⟨(some 34), .move (.tmp 33), (some (30, false)), false⟩,
 ⟨(some 35), .move (.tmp 5), (some (34, true)), false⟩,
 ⟨(some 36), .pick (.tmp 34) (.tmp 35) (.av (.bool false)), (some (30, false)), false⟩,
 ⟨(some 37), .pick (.tmp 30) (.av (.bool true)) (.tmp 36), none, false⟩,
 ⟨(some 6), .move (.tmp 37), none, false⟩] false)
 (.seq (.region [⟨(some 39), .bin .eql .other true (.tmp 12) (.av (.int .i64 7)), none, false⟩,
 ⟨(some 38), .move (.tmp 39), none, false⟩] false)
 (.cond (.tmp 38)
 (.region [⟨(some 40), .fieldAddr 1 (.tmp 2), none, false⟩,
 ⟨(some 41), .load none (.tmp 40), none, false⟩,
 ⟨(some 42), .bin .lss .other true (.tmp 41) (.av (.int .i64 0)), none, false⟩,
 ⟨(some 43), .move (.tmp 42), none, false⟩,
 ⟨(some 44), .fieldAddr 2 (.tmp 2), (some (43, false)), false⟩,
 ⟨(some 45), .load none (.tmp 44), (some (43, false)), false⟩,
 ⟨(some 46), .bin .lss .other true (.tmp 45) (.av (.int .i64 0)), (some (43, false)), false⟩,
 ⟨(some 47), .pick (.tmp 43) (.av (.bool true)) (.tmp 46), none, false⟩,
 ⟨(some 48), .move (.tmp 47), none, false⟩,
 ⟨(some 49), .move (.tmp 5), (some (48, false)), false⟩,
 ⟨(some 50), .pick (.tmp 48) (.av (.bool true)) (.tmp 49), none, false⟩,
 ⟨(some 6), .move (.tmp 50), none, false⟩] false)
 (.seq (.region [⟨(some 52), .bin .eql .other true (.tmp 12) (.av (.int .i64 8)), none, false⟩,
 ⟨(some 51), .move (.tmp 52), none, false⟩] false)
 (.cond (.tmp 51)
 (.seq (.seq (.region [⟨(some 53), .move (.tmp 1), none, false⟩,
 ⟨(some 54), .bin .gtr .other true (.tmp 53) (.av (.int .i64 0)), none, false⟩] false)
 (.cond (.tmp 54)
 (.seq (.region [⟨(some 4), .move (.av (.int .i64 1)), none, false⟩] false)
 (.ret))
 (.skip)))
 (.seq (.region [⟨(some 55), .fieldAddr 5 (.tmp 2), none, false⟩,
 ⟨(some 56), .load none (.tmp 55), none, false⟩,
 ⟨(some 57), .call (.av (.fn (.func 137) [] [])) [(.tmp 56)], none, false⟩,
 ⟨(some 4), .move (.tmp 57), none, false⟩] false)
 (.ret)))
 (.seq (.region [⟨(some 59), .bin .eql .other true (.tmp 12) (.av (.int .i64 6)), none, false⟩,
 ⟨(some 58), .move (.tmp 59), none, false⟩] false)
 (.cond (.tmp 58)
 (.seq (.region [⟨(some 60), .fieldAddr 5 (.tmp 2), none, false⟩,
 ⟨(some 61), .load none (.tmp 60), none, false⟩,
 ⟨(some 62), .call (.av (.fn (.func 137) [] [])) [(.tmp 61)], none, false⟩,
 ⟨(some 4), .move (.tmp 62), none, false⟩] false)
 (.ret))
 (.region [⟨(some 6), .move (.av (.bool true)), none, false⟩] false)))))))))))))))
 (.seq (.seq (.region [⟨(some 63), .move (.tmp 6), none, false⟩] false)
 (.cond (.tmp 63)
 (.seq (.region [⟨(some 4), .move (.av (.int .i64 1)), none, false⟩] false)
 (.ret))
 (.skip)))
 (.seq (.region [⟨(some 4), .move (.av (.int .i64 0)), none, false⟩] false)
 (.ret))))))⟩
/-- inkstand/write.size -/
def ac117 : AF := ⟨52, [.tmp 4],
 .seq (.region [⟨(some 2), .box 47 (.tmp 0), none, false⟩,
 ⟨(some 4), .move (.av (.int .i64 0)), none, false⟩] false)
 (.seq (.region [⟨(some 6), .fieldAddr 5 (.tmp 2), none, false⟩,
 ⟨(some 7), .load none (.tmp 6), none, false⟩,
 ⟨(some 8), .len (.slice 7) (.tmp 7), none, false⟩,
 ⟨(some 5), .move (.tmp 8), none, false⟩] false)
 (.seq (.seq (.region [⟨(some 9), .fieldAddr 0 (.tmp 2), none, false⟩,
 ⟨(some 10), .load none (.tmp 9), none, false⟩,
 ⟨(some 11), .bin .eql .other true (.tmp 10) (.av (.int .i64 5)), none, false⟩] false)
 (.cond (.tmp 11)
 (.region [⟨(some 12), .fieldAddr 4 (.tmp 2), none, false⟩,
 ⟨(some 13), .load none (.tmp 12), none, false⟩,
 ⟨(some 14), .len (.slice 6) (.tmp 13), none, false⟩,
 ⟨(some 5), .move (.tmp 14), none, false⟩] false)
 (.skip)))
 (.seq (.block 0
 (.seq (.seq (.region [⟨(some 16), .fieldAddr 0 (.tmp 2), none, false⟩,
 ⟨(some 17), .load none (.tmp 16), none, false⟩,
 ⟨(some 18), .bin .eql .other true (.tmp 17) (.av (.int .i64 2)), none, false⟩,
 ⟨(some 19), .move (.tmp 18), none, false⟩,
 ⟨(some 20), .fieldAddr 2 (.tmp 2), (some (19, true)), false⟩,
 ⟨(some 21), .load none (.tmp 20), (some (19, true)), false⟩,
 ⟨(some 22), .buildSlice false 23 1 1 [(.int .i64 0)] [(0, (.tmp 21))], (some (19, true)), false⟩,
 ⟨(some 23), .call (.av (.fn (.func 84) [] [])) [(.tmp 22)], (some (19, true)), false⟩,
 ⟨(some 24), .un .not false (.tmp 23), (some (19, true)), false⟩,
 ⟨(some 25), .pick (.tmp 19) (.tmp 24) (.av (.bool false)), none, false⟩,
 ⟨(some 15), .move (.tmp 25), none, false⟩] false)
 (.cond (.tmp 15)
 (.skip)
 (.region [⟨(some 26), .fieldAddr 0 (.tmp 2), none, false⟩,
 ⟨(some 27), .load none (.tmp 26), none, false⟩,
 ⟨(some 28), .bin .eql .other true (.tmp 27) (.av (.int .i64 7)), none, false⟩,
 ⟨(some 29), .move (.tmp 28), none, false⟩,
 ⟨(some 30), .fieldAddr 2 (.tmp 2), (some (29, true)), false⟩,
 ⟨(some 31), .load none (.tmp 30), (some (29, true)), false⟩,
 ⟨(some 32), .buildSlice false 23 1 1 [(.int .i64 0)] [(0, (.tmp 31))], (some (29, true)), false⟩,
 ⟨(some 33), .call (.av (.fn (.func 84) [] [])) [(.tmp 32)], (some (29, true)), false⟩,
 ⟨(some 34), .un .not false (.tmp 33), (some (29, true)), false⟩,
 ⟨(some 35), .move (.tmp 34), (some (29, true)), false⟩,
 ⟨(some 36), .fieldAddr 1 (.tmp 2), (some (35, false)), false⟩,
 ⟨(some 37), .load none (.tmp 36), (some (35, false)), false⟩,
 ⟨(some 38), .bin .gtr .other true (.tmp 37) (.av (.int .i64 2147483)), (some (35, false)), false⟩,
 ⟨(some 39), .pick (.tmp 35) (.av (.bool true)) (.tmp 38), (some (29, true)), false⟩,
 ⟨(some 40), .pick (.tmp 29) (.tmp 39) (.av (.bool false)), none, false⟩,
 ⟨(some 15), .move (.tmp 40), none, false⟩] false)))
 (.cond (.tmp 15)
 (.seq (.region [⟨(some 4), .move (.av (.int .i64 2)), none, false⟩] false)
 (.ret))
 (.seq (.region [⟨(some 42), .fieldAddr 0 (.tmp 2), none, false⟩,
 ⟨(some 43), .load none (.tmp 42), none, false⟩,
 ⟨(some 44), .call (.av (.fn (.func 138) [] [])) [(.tmp 43)], none, false⟩,
 ⟨(some 45), .un .not false (.tmp 44), none, false⟩,
 ⟨(some 41), .move (.tmp 45), none, false⟩] false)
 (.cond (.tmp 41)
 (.seq (.region [⟨(some 4), .move (.av (.int .i64 0)), none, false⟩] false)
 (.ret))
 (.seq (.region [⟨(some 47), .move (.tmp 5), none, false⟩,
 ⟨(some 48), .bin .gtr .other true (.tmp 47) (.av (.int .i64 1024)), none, false⟩,
 ⟨(some 46), .move (.tmp 48), none, false⟩] false)
 (.cond (.tmp 46)
 (.seq (.region [⟨(some 4), .move (.av (.int .i64 6)), none, false⟩] false)
 (.ret))
 (.seq (.region [⟨(some 50), .move (.tmp 1), none, false⟩,
 ⟨(some 51), .bin .geq .other true (.tmp 50) (.av (.int .i64 64)), none, false⟩,
 ⟨(some 49), .move (.tmp 51), none, false⟩] false)
 (.cond (.tmp 49)
 (.seq (.region [⟨(some 4), .move (.av (.int .i64 5)), none, false⟩] false)
 (.ret))
 (.skip))))))))))
 (.seq (.region [⟨(some 4), .move (.av (.int .i64 0)), none, false⟩] false)
 (.ret)))))⟩
/-- inkstand/write.inside -/
def ac118 : AF := ⟨29, [.tmp 2],
 .seq (.region [⟨(some 1), .box 47 (.tmp 0), none, false⟩,
 ⟨(some 2), .move (.av (.lit (.slice none 0 0))), none, false⟩] false)
 (.seq (.seq (.region [⟨(some 6), .fieldAddr 0 (.tmp 1), none, false⟩,
 ⟨(some 7), .load none (.tmp 6), none, false⟩] false)
 (.block 0
 (.seq (.region [⟨(some 9), .bin .eql .other true (.tmp 7) (.av (.int .i64 5)), none, false⟩,
 ⟨(some 8), .move (.tmp 9), none, false⟩] false)
 (.cond (.tmp 8)
 (.seq (.region [⟨(some 10), .fieldAddr 4 (.tmp 1), none, false⟩,
 ⟨(some 11), .load none (.tmp 10), none, false⟩,
 ⟨(some 2), .move (.tmp 11), none, false⟩] false)
 (.ret))
 (.seq (.seq (.region [⟨(some 13), .bin .eql .other true (.tmp 7) (.av (.int .i64 6)), none, false⟩,
 ⟨(some 12), .move (.tmp 13), none, false⟩] false)
 (.cond (.tmp 12)
 (.skip)
 (.region [⟨(some 14), .bin .eql .other true (.tmp 7) (.av (.int .i64 8)), none, false⟩,
 ⟨(some 12), .move (.tmp 14), none, false⟩] false)))
 (.cond (.tmp 12)
 (.seq (.region [⟨(some 3), .move (.av (.lit (.slice none 0 0))), none, false⟩] false)
 (.seq (.seq (.region [⟨(some 15), .fieldAddr 5 (.tmp 1), none, false⟩,
 ⟨(some 16), .load none (.tmp 15), none, false⟩,
 ⟨(some 17), .len (.slice 7) (.tmp 16), none, false⟩,
 ⟨(some 18), .move (.av (.int .i64 0)), none, false⟩] false)
 (.block 1
 (.loop
 (.seq (.region [⟨(some 19), .bin .lss .other true (.tmp 18) (.tmp 17), none, false⟩] false)
 (.seq (.cond (.tmp 19)
 (.skip)
 (.exit 1))
 (.seq (.block 2
 (.seq (.region [⟨(some 20), .indexAddr none 7 (.tmp 16) (.tmp 18), none, false⟩,
 ⟨(some 21), .load (some 7) (.tmp 20), none, false⟩,
 ⟨(some 5), .alloc 55 [(.str []), (.int .i64 0), (.int .i64 0), (.int .i64 0), (.str []), (.lit (.slice none 0 0)), (.lit (.slice none 0 0))], none, false⟩,
 ⟨none, .store 7 (.tmp 5) (.tmp 21), none, false⟩] false)
 (.region [⟨(some 22), .move (.tmp 3), none, false⟩,
 ⟨(some 23), .fieldAddr 1 (.tmp 5), none, false⟩,
 ⟨(some 24), .load (some 6) (.tmp 23), none, false⟩,
 ⟨(some 25), .buildSlice false 47 6 1 [(.int .i64 0), (.int .i64 0), (.int .i64 0), (.str []), (.lit (.slice none 0 0)), (.lit (.slice none 0 0))] [(0, (.tmp 24))], none, false⟩,
 ⟨(some 26), .append 47 6 88 [(.int .i64 0), (.int .i64 0), (.int .i64 0), (.str []), (.lit (.slice none 0 0)), (.lit (.slice none 0 0))] (.tmp 22) (.tmp 25), none, false⟩,
 ⟨(some 3), .move (.tmp 26), none, false⟩] false)))
 (.region [⟨(some 27), .bin .add .other true (.tmp 18) (.av (.int .i64 1)), none, false⟩,
 ⟨(some 18), .move (.tmp 27), none, false⟩] false)))))))
 (.seq (.region [⟨(some 28), .move (.tmp 3), none, false⟩,
 ⟨(some 2), .move (.tmp 28), none, false⟩] false)
 (.ret))))
 (.skip)))))))
 (.seq (.region [⟨(some 2), .move (.av (.lit (.slice none 0 0))), none, false⟩] false)
 (.ret)))⟩
/-- inkstand/write.nested -/
def ac138 : AF := ⟨13, [.tmp 2],
 .seq (.region [⟨(some 2), .move (.av (.bool false)), none, false⟩] false)
 (.seq (.region [⟨(some 3), .move (.tmp 0), none, false⟩,
 ⟨(some 4), .bin .eql .other true (.tmp 3) (.av (.int .i64 5)), none, false⟩,
 ⟨(some 5), .move (.tmp 4), none, false⟩,
 ⟨(some 6), .move (.tmp 0), (some (5, false)), false⟩,
 ⟨(some 7), .bin .eql .other true (.tmp 6) (.av (.int .i64 6)), (some (5, false)), false⟩,
 ⟨(some 8), .pick (.tmp 5) (.av (.bool true)) (.tmp 7), none, false⟩,
 ⟨(some 9), .move (.tmp 8), none, false⟩,
 ⟨(some 10), .move (.tmp 0), (some (9, false)), false⟩,
 ⟨(some 11), .bin .eql .other true (.tmp 10) (.av (.int .i64 8)), (some (9, false)), false⟩,
 ⟨(some 12), .pick (.tmp 9) (.av (.bool true)) (.tmp 11), none, false⟩,
 ⟨(some 2), .move (.tmp 12), none, false⟩] false)
 (.ret))⟩
/-- inkstand/write.Object -/
def ac38 : AF := ⟨21, [.tmp 2, .tmp 3],
 .seq (.region [⟨(some 1), .box 47 (.tmp 0), none, false⟩,
 ⟨(some 2), .move (.av (.str [])), none, false⟩,
 ⟨(some 3), .move (.av (.int .i64 0)), none, false⟩] false)
 (.seq (.region [⟨(some 6), .load (some 6) (.tmp 1), none, false⟩,
 ⟨(some 7), .call (.av (.fn (.func 60) [] [])) [(.tmp 6)], none, false⟩,
 ⟨(some 4), .move (.tmp 7), none, false⟩] false)
 (.seq (.seq (.region [⟨(some 8), .move (.tmp 4), none, false⟩,
 ⟨(some 9), .bin .eql .other true (.tmp 8) (.av (.int .i64 0)), none, false⟩,
 ⟨(some 10), .move (.tmp 9), none, false⟩,
 ⟨(some 11), .fieldAddr 0 (.tmp 1), (some (10, true)), false⟩,
 ⟨(some 12), .load none (.tmp 11), (some (10, true)), false⟩,
 ⟨(some 13), .bin .eql .other true (.tmp 12) (.av (.int .i64 8)), (some (10, true)), false⟩,
 ⟨(some 14), .pick (.tmp 10) (.tmp 13) (.av (.bool false)), none, false⟩] false)
 (.cond (.tmp 14)
 (.region [⟨(some 4), .move (.av (.int .i64 1)), none, false⟩] false)
 (.skip)))
 (.seq (.seq (.region [⟨(some 15), .move (.tmp 4), none, false⟩,
 ⟨(some 16), .bin .neq .other true (.tmp 15) (.av (.int .i64 0)), none, false⟩] false)
 (.cond (.tmp 16)
 (.seq (.region [⟨(some 17), .move (.tmp 4), none, false⟩,
 ⟨(some 2), .move (.av (.str [])), none, false⟩,
 ⟨(some 3), .move (.tmp 17), none, false⟩] false)
 (.ret))
 (.skip)))
 (.seq (.region [⟨(some 5), .bld 86 5, none, false⟩] false)
 (.seq (.region [⟨(some 18), .load (some 6) (.tmp 1), none, false⟩,
 ⟨(some 19), .call (.av (.fn (.func 62) [] [])) [(.tmp 5), (.tmp 18)], none, false⟩] false)
 (.seq (.region [⟨(some 20), .call (.av (.fn (.func 63) [] [])) [(.tmp 5)], none, false⟩,
 ⟨(some 2), .move (.tmp 20), none, false⟩,
 ⟨(some 3), .move (.av (.int .i64 0)), none, false⟩] false)
 (.ret)))))))⟩
/-- inkstand/write.Indirect -/
def ac59 : AF := ⟨40, [.tmp 6, .tmp 7],
 .seq (.region [⟨(some 5), .box 47 (.tmp 2), none, false⟩,
 ⟨(some 6), .move (.av (.str [])), none, false⟩,
 ⟨(some 7), .move (.av (.int .i64 0)), none, false⟩] false)
 (.seq (.seq (.region [⟨(some 10), .move (.tmp 0), none, false⟩,
 ⟨(some 11), .move (.tmp 1), none, false⟩,
 ⟨(some 12), .load (some 6) (.tmp 5), none, false⟩,
 ⟨(some 13), .call (.av (.fn (.func 86) [] [])) [(.tmp 10), (.tmp 11), (.tmp 12)], none, false⟩,
 ⟨(some 8), .move (.tmp 13), none, false⟩] false)
 (.seq (.region [⟨(some 14), .move (.tmp 8), none, false⟩,
 ⟨(some 15), .bin .neq .other true (.tmp 14) (.av (.int .i64 0)), none, false⟩] false)
 (.cond (.tmp 15)
 (.seq (.region [⟨(some 16), .move (.tmp 8), none, false⟩,
 ⟨(some 6), .move (.av (.str [])), none, false⟩,
 ⟨(some 7), .move (.tmp 16), none, false⟩] false)
 (.ret))
 (.skip))))
 (.seq (.region [⟨(some 9), .bld 86 5, none, false⟩] false)
 (.seq (.region [⟨(some 17), .move (.tmp 0), none, false⟩,
 ⟨(some 18), .call (.av (.fn (.func 88) [] [])) [(.tmp 17)], none, false⟩,
 ⟨(some 19), .bin .add .other false (.tmp 18) (.av (.str [32])), none, false⟩,
 ⟨(some 20), .move (.tmp 1), none, false⟩,
 ⟨(some 21), .call (.av (.fn (.func 88) [] [])) [(.tmp 20)], none, false⟩,
 ⟨(some 22), .bin .add .other false (.tmp 19) (.tmp 21), none, false⟩,
 ⟨(some 23), .bin .add .other false (.tmp 22) (.av (.str [32, 111, 98, 106, 10])), none, false⟩,
 ⟨(some 24), .call (.av (.fn (.func 87) [] [])) [(.tmp 9), (.tmp 23)], none, false⟩] false)
 (.seq (.seq (.region [⟨(some 25), .fieldAddr 0 (.tmp 5), none, false⟩,
 ⟨(some 26), .load none (.tmp 25), none, false⟩,
 ⟨(some 27), .bin .eql .other true (.tmp 26) (.av (.int .i64 8)), none, false⟩] false)
 (.cond (.tmp 27)
 (.seq (.region [⟨(some 28), .load (some 6) (.tmp 5), none, false⟩,
 ⟨(some 29), .call (.av (.fn (.func 89) [] [])) [(.tmp 28)], none, false⟩,
 ⟨(some 30), .call (.av (.fn (.func 62) [] [])) [(.tmp 9), (.tmp 29)], none, false⟩] false)
 (.region [⟨(some 31), .fieldAddr 3 (.tmp 5), none, false⟩,
 ⟨(some 32), .load none (.tmp 31), none, false⟩,
 ⟨(some 33), .bin .add .other false (.av (.str [10, 115, 116, 114, 101, 97, 109, 10])) (.tmp 32), none, false⟩,
 ⟨(some 34), .bin .add .other false (.tmp 33) (.av (.str [10, 101, 110, 100, 115, 116, 114, 101, 97, 109])), none, false⟩,
 ⟨(some 35), .call (.av (.fn (.func 87) [] [])) [(.tmp 9), (.tmp 34)], none, false⟩] false))
 (.region [⟨(some 36), .load (some 6) (.tmp 5), none, false⟩,
 ⟨(some 37), .call (.av (.fn (.func 62) [] [])) [(.tmp 9), (.tmp 36)], none, false⟩] false)))
 (.seq (.region [⟨(some 38), .call (.av (.fn (.func 87) [] [])) [(.tmp 9), (.av (.str [10, 101, 110, 100, 111, 98, 106, 10]))], none, false⟩] false)
 (.seq (.region [⟨(some 39), .call (.av (.fn (.func 63) [] [])) [(.tmp 9)], none, false⟩,
 ⟨(some 6), .move (.tmp 39), none, false⟩,
 ⟨(some 7), .move (.av (.int .i64 0)), none, false⟩] false)
 (.ret)))))))⟩
/-- inkstand/write.may -/
def ac86 : AF := ⟨45, [.tmp 6],
 .seq (.region [⟨(some 5), .box 47 (.tmp 2), none, false⟩,
 ⟨(some 6), .move (.av (.int .i64 0)), none, false⟩] false)
 (.seq (.seq (.region [⟨(some 8), .load (some 6) (.tmp 5), none, false⟩,
 ⟨(some 9), .call (.av (.fn (.func 60) [] [])) [(.tmp 8)], none, false⟩,
 ⟨(some 7), .move (.tmp 9), none, false⟩] false)
 (.block 0
 (.seq (.region [⟨(some 11), .move (.tmp 0), none, false⟩,
 ⟨(some 12), .bin .lss .other true (.tmp 11) (.av (.int .i64 0)), none, false⟩,
 ⟨(some 13), .move (.tmp 12), none, false⟩,
 ⟨(some 14), .move (.tmp 1), (some (13, false)), false⟩,
 ⟨(some 15), .bin .lss .other true (.tmp 14) (.av (.int .i64 0)), (some (13, false)), false⟩,
 ⟨(some 16), .pick (.tmp 13) (.av (.bool true)) (.tmp 15), none, false⟩,
 ⟨(some 10), .move (.tmp 16), none, false⟩] false)
 (.cond (.tmp 10)
 (.seq (.region [⟨(some 6), .move (.av (.int .i64 1)), none, false⟩] false)
 (.ret))
 (.seq (.region [⟨(some 18), .move (.tmp 0), none, false⟩,
 ⟨(some 19), .bin .gtr .other true (.tmp 18) (.av (.int .i64 2147483)), none, false⟩,
 ⟨(some 20), .move (.tmp 19), none, false⟩,
 ⟨(some 21), .move (.tmp 1), (some (20, false)), false⟩,
 ⟨(some 22), .bin .gtr .other true (.tmp 21) (.av (.int .i64 2147483)), (some (20, false)), false⟩,
 ⟨(some 23), .pick (.tmp 20) (.av (.bool true)) (.tmp 22), none, false⟩,
 ⟨(some 17), .move (.tmp 23), none, false⟩] false)
 (.cond (.tmp 17)
 (.seq (.region [⟨(some 6), .move (.av (.int .i64 2)), none, false⟩] false)
 (.ret))
 (.seq (.region [⟨(some 25), .move (.tmp 7), none, false⟩,
 ⟨(some 26), .bin .neq .other true (.tmp 25) (.av (.int .i64 0)), none, false⟩,
 ⟨(some 24), .move (.tmp 26), none, false⟩] false)
 (.cond (.tmp 24)
 (.seq (.region [⟨(some 27), .move (.tmp 7), none, false⟩,
 ⟨(some 6), .move (.tmp 27), none, false⟩] false)
 (.ret))
 (.seq (.region [⟨(some 29), .fieldAddr 0 (.tmp 5), none, false⟩,
 ⟨(some 30), .load none (.tmp 29), none, false⟩,
 ⟨(some 31), .bin .eql .other true (.tmp 30) (.av (.int .i64 8)), none, false⟩,
 ⟨(some 32), .move (.tmp 31), none, false⟩,
 ⟨(some 33), .fieldAddr 3 (.tmp 5), (some (32, true)), false⟩,
 ⟨(some 34), .load none (.tmp 33), (some (32, true)), false⟩,
 ⟨(some 35), .len .str (.tmp 34), (some (32, true)), false⟩,
 ⟨(some 36), .bin .gtr .other true (.tmp 35) (.av (.int .i64 1048576)), (some (32, true)), false⟩,
 ⟨(some 37), .move (.tmp 36), (some (32, true)), false⟩,
 ⟨(some 38), .load (some 6) (.tmp 5), (some (37, false)), false⟩,
 ⟨(some 39), .call (.av (.fn (.func 89) [] [])) [(.tmp 38)], (some (37, false)), false⟩,
 ⟨(some 40), .field 5 none (.tmp 39), (some (37, false)), false⟩,
 ⟨(some 41), .len (.slice 7) (.tmp 40), (some (37, false)), false⟩,
 ⟨(some 42), .bin .gtr .other true (.tmp 41) (.av (.int .i64 1024)), (some (37, false)), false⟩,
 ⟨(some 43), .pick (.tmp 37) (.av (.bool true)) (.tmp 42), (some (32, true)), false⟩,
 ⟨(some 44), .pick (.tmp 32) (.tmp 43) (.av (.bool false)), none, false⟩,
 ⟨(some 28), .move (.tmp 44), none, false⟩] false)
 (.cond (.tmp 28)
 (.seq (.region [⟨(some 6), .move (.av (.int .i64 6)), none, false⟩] false)
 (.ret))
 (.skip)))))))))))
 (.seq (.region [⟨(some 6), .move (.av (.int .i64 0)), none, false⟩] false)
 (.ret)))⟩
/-- inkstand/inkstandlaw05.awake -/
def ac36 : AF := ⟨37, [.tmp 0],
 .seq (.region [⟨(some 0), .move (.av (.bool false)), none, false⟩] false)
 (.seq (.region [⟨(some 6), .build [(.int .i64 0), (.int .i64 0), (.int .i64 0), (.str []), (.lit (.slice none 0 0)), (.lit (.slice none 0 0))] [(0, 1, (.av (.int .i64 2))), (2, 1, (.av (.int .i64 1000))), (1, 1, (.av (.int .i64 1)))], none, false⟩,
 ⟨(some 7), .build [(.int .i64 0), (.int .i64 0), (.int .i64 0), (.str []), (.lit (.slice none 0 0)), (.lit (.slice none 0 0))] [(0, 1, (.av (.int .i64 3))), (3, 1, (.av (.str [65])))], none, false⟩,
 ⟨(some 8), .buildSlice false 47 6 2 [(.int .i64 0), (.int .i64 0), (.int .i64 0), (.str []), (.lit (.slice none 0 0)), (.lit (.slice none 0 0))] [(0, (.tmp 6)), (1, (.tmp 7))], none, false⟩,
 ⟨(some 9), .build [(.int .i64 0), (.int .i64 0), (.int .i64 0), (.str []), (.lit (.slice none 0 0)), (.lit (.slice none 0 0))] [(0, 1, (.av (.int .i64 5))), (4, 1, (.tmp 8))], none, false⟩,
 ⟨(some 10), .call (.av (.fn (.func 38) [] [])) [(.tmp 9)], none, false⟩,
 ⟨(some 5), .move (.tmp 10), none, false⟩,
 ⟨(some 11), .extract (.tmp 5) 0, none, false⟩,
 ⟨(some 12), .extract (.tmp 5) 1, none, false⟩,
 ⟨(some 1), .move (.tmp 11), none, false⟩,
 ⟨(some 2), .move (.tmp 12), none, false⟩] false)
 (.seq (.region [⟨(some 14), .build [(.int .i64 0), (.int .i64 0), (.int .i64 0), (.str []), (.lit (.slice none 0 0)), (.lit (.slice none 0 0))] [], none, false⟩,
 ⟨(some 15), .call (.av (.fn (.func 59) [] [])) [(.av (.int .i64 1)), (.av (.int .i64 0)), (.tmp 14)], none, false⟩,
 ⟨(some 13), .move (.tmp 15), none, false⟩,
 ⟨(some 16), .extract (.tmp 13) 0, none, false⟩,
 ⟨(some 17), .extract (.tmp 13) 1, none, false⟩,
 ⟨(some 3), .move (.tmp 16), none, false⟩,
 ⟨(some 4), .move (.tmp 17), none, false⟩] false)
 (.seq (.region [⟨(some 18), .move (.tmp 1), none, false⟩,
 ⟨(some 19), .bin .eql .other false (.tmp 18) (.av (.str [91, 49, 32, 47, 65, 93])), none, false⟩,
 ⟨(some 20), .move (.tmp 19), none, false⟩,
 ⟨(some 21), .move (.tmp 2), (some (20, true)), false⟩,
 ⟨(some 22), .bin .eql .other true (.tmp 21) (.av (.int .i64 0)), (some (20, true)), false⟩,
 ⟨(some 23), .pick (.tmp 20) (.tmp 22) (.av (.bool false)), none, false⟩,
 ⟨(some 24), .move (.tmp 23), none, false⟩,
 ⟨(some 25), .move (.tmp 3), (some (24, true)), false⟩,
 ⟨(some 26), .bin .eql .other false (.tmp 25) (.av (.str [49, 32, 48, 32, 111, 98, 106, 10, 110, 117, 108, 108, 10, 101, 110, 100, 111, 98, 106, 10])), (some (24, true)), false⟩,
 ⟨(some 27), .pick (.tmp 24) (.tmp 26) (.av (.bool false)), none, false⟩,
 ⟨(some 28), .move (.tmp 27), none, false⟩,
 ⟨(some 29), .move (.tmp 4), (some (28, true)), false⟩,
 ⟨(some 30), .bin .eql .other true (.tmp 29) (.av (.int .i64 0)), (some (28, true)), false⟩,
 ⟨(some 31), .pick (.tmp 28) (.tmp 30) (.av (.bool false)), none, false⟩,
 ⟨(some 32), .move (.tmp 31), none, false⟩,
 ⟨(some 33), .build [(.int .i64 0), (.int .i64 0), (.int .i64 0), (.str []), (.lit (.slice none 0 0)), (.lit (.slice none 0 0))] [(0, 1, (.av (.int .i64 9)))], (some (32, true)), false⟩,
 ⟨(some 34), .call (.av (.fn (.func 60) [] [])) [(.tmp 33)], (some (32, true)), false⟩,
 ⟨(some 35), .bin .eql .other true (.tmp 34) (.av (.int .i64 1)), (some (32, true)), false⟩,
 ⟨(some 36), .pick (.tmp 32) (.tmp 35) (.av (.bool false)), none, false⟩,
 ⟨(some 0), .move (.tmp 36), none, false⟩] false)
 (.ret))))⟩
end Ink.D

namespace Ink.D
open Go Go.Proofs
set_option maxRecDepth 100000
theorem c62 : cFn Tryd.prog (mtOf (Tryd.f62.body.getD .skip)) Tryd.f62 = some ac62 := by kernel_rfl
theorem a62 {E : Env} (hE : E.P = Tryd.prog) {args : List AV} {H : List Blk} {Q : AV → List Blk → Prop} (h : wpc E H ac62.body (retQ E H ac62.results Q) ⟨enterTm args ac62.ntmps, H⟩) : ACalls E 62 args H Q :=
  ACalls.enter (by rw [hE]; exact hm) (by rw [hE]; exact Tryd.func62) (by rw [hE]; exact c62) h
theorem c95 : cFn Tryd.prog (mtOf (Tryd.f95.body.getD .skip)) Tryd.f95 = some ac95 := by kernel_rfl
theorem a95 {E : Env} (hE : E.P = Tryd.prog) {args : List AV} {H : List Blk} {Q : AV → List Blk → Prop} (h : wpc E H ac95.body (retQ E H ac95.results Q) ⟨enterTm args ac95.ntmps, H⟩) : ACalls E 95 args H Q :=
  ACalls.enter (by rw [hE]; exact hm) (by rw [hE]; exact Tryd.func95) (by rw [hE]; exact c95) h
theorem c124 : cFn Tryd.prog (mtOf (Tryd.f124.body.getD .skip)) Tryd.f124 = some ac124 := by kernel_rfl
theorem a124 {E : Env} (hE : E.P = Tryd.prog) {args : List AV} {H : List Blk} {Q : AV → List Blk → Prop} (h : wpc E H ac124.body (retQ E H ac124.results Q) ⟨enterTm args ac124.ntmps, H⟩) : ACalls E 124 args H Q :=
  ACalls.enter (by rw [hE]; exact hm) (by rw [hE]; exact Tryd.func124) (by rw [hE]; exact c124) h
theorem b124 {E : Env} (hE : E.P = Tryd.prog) {args : List AV} {ks : List BK} {Q : AV → List BK → Prop} (h : ∀ l, wpc E (frmB l ks) ac124.body (retQ E (frmB l ks) ac124.results (RB l ks Q)) ⟨enterTm args ac124.ntmps, frmB l ks⟩) : BCalls E 124 args ks Q :=
  BCalls.mk fun l => a124 hE (h l)
theorem c96 : cFn Tryd.prog (mtOf (Tryd.f96.body.getD .skip)) Tryd.f96 = some ac96 := by kernel_rfl
theorem a96 {E : Env} (hE : E.P = Tryd.prog) {args : List AV} {H : List Blk} {Q : AV → List Blk → Prop} (h : wpc E H ac96.body (retQ E H ac96.results Q) ⟨enterTm args ac96.ntmps, H⟩) : ACalls E 96 args H Q :=
  ACalls.enter (by rw [hE]; exact hm) (by rw [hE]; exact Tryd.func96) (by rw [hE]; exact c96) h
theorem b96 {E : Env} (hE : E.P = Tryd.prog) {args : List AV} {ks : List BK} {Q : AV → List BK → Prop} (h : ∀ l, wpc E (frmB l ks) ac96.body (retQ E (frmB l ks) ac96.results (RB l ks Q)) ⟨enterTm args ac96.ntmps, frmB l ks⟩) : BCalls E 96 args ks Q :=
  BCalls.mk fun l => a96 hE (h l)
theorem c97 : cFn Tryd.prog (mtOf (Tryd.f97.body.getD .skip)) Tryd.f97 = some ac97 := by kernel_rfl
theorem a97 {E : Env} (hE : E.P = Tryd.prog) {args : List AV} {H : List Blk} {Q : AV → List Blk → Prop} (h : wpc E H ac97.body (retQ E H ac97.results Q) ⟨enterTm args ac97.ntmps, H⟩) : ACalls E 97 args H Q :=
  ACalls.enter (by rw [hE]; exact hm) (by rw [hE]; exact Tryd.func97) (by rw [hE]; exact c97) h
theorem b97 {E : Env} (hE : E.P = Tryd.prog) {args : List AV} {ks : List BK} {Q : AV → List BK → Prop} (h : ∀ l, wpc E (frmB l ks) ac97.body (retQ E (frmB l ks) ac97.results (RB l ks Q)) ⟨enterTm args ac97.ntmps, frmB l ks⟩) : BCalls E 97 args ks Q :=
  BCalls.mk fun l => a97 hE (h l)
theorem c92 : cFn Tryd.prog (mtOf (Tryd.f92.body.getD .skip)) Tryd.f92 = some ac92 := by kernel_rfl
theorem a92 {E : Env} (hE : E.P = Tryd.prog) {args : List AV} {H : List Blk} {Q : AV → List Blk → Prop} (h : wpc E H ac92.body (retQ E H ac92.results Q) ⟨enterTm args ac92.ntmps, H⟩) : ACalls E 92 args H Q :=
  ACalls.enter (by rw [hE]; exact hm) (by rw [hE]; exact Tryd.func92) (by rw [hE]; exact c92) h
theorem p92 {E : Env} (hE : E.P = Tryd.prog) {args : List AV} {Q : AV → Prop} (h : ∀ l, wpc E (frm l) ac92.body (retQ E (frm l) ac92.results fun r H' => hb 0 r = true ∧ Q r ∧ H' = frm l) ⟨enterTm args ac92.ntmps, frm l⟩) (hp : hbL 0 args = true := by rfl) : PCalls E 92 args Q :=
  PCalls.mk hp fun l => a92 hE (h l)
theorem c93 : cFn Tryd.prog (mtOf (Tryd.f93.body.getD .skip)) Tryd.f93 = some ac93 := by kernel_rfl
theorem a93 {E : Env} (hE : E.P = Tryd.prog) {args : List AV} {H : List Blk} {Q : AV → List Blk → Prop} (h : wpc E H ac93.body (retQ E H ac93.results Q) ⟨enterTm args ac93.ntmps, H⟩) : ACalls E 93 args H Q :=
  ACalls.enter (by rw [hE]; exact hm) (by rw [hE]; exact Tryd.func93) (by rw [hE]; exact c93) h
theorem p93 {E : Env} (hE : E.P = Tryd.prog) {args : List AV} {Q : AV → Prop} (h : ∀ l, wpc E (frm l) ac93.body (retQ E (frm l) ac93.results fun r H' => hb 0 r = true ∧ Q r ∧ H' = frm l) ⟨enterTm args ac93.ntmps, frm l⟩) (hp : hbL 0 args = true := by rfl) : PCalls E 93 args Q :=
  PCalls.mk hp fun l => a93 hE (h l)
theorem c144 : cFn Tryd.prog (mtOf (Tryd.f144.body.getD .skip)) Tryd.f144 = some ac144 := by kernel_rfl
theorem a144 {E : Env} (hE : E.P = Tryd.prog) {args : List AV} {H : List Blk} {Q : AV → List Blk → Prop} (h : wpc E H ac144.body (retQ E H ac144.results Q) ⟨enterTm args ac144.ntmps, H⟩) : ACalls E 144 args H Q :=
  ACalls.enter (by rw [hE]; exact hm) (by rw [hE]; exact Tryd.func144) (by rw [hE]; exact c144) h
theorem p144 {E : Env} (hE : E.P = Tryd.prog) {args : List AV} {Q : AV → Prop} (h : ∀ l, wpc E (frm l) ac144.body (retQ E (frm l) ac144.results fun r H' => hb 0 r = true ∧ Q r ∧ H' = frm l) ⟨enterTm args ac144.ntmps, frm l⟩) (hp : hbL 0 args = true := by rfl) : PCalls E 144 args Q :=
  PCalls.mk hp fun l => a144 hE (h l)
theorem c143 : cFn Tryd.prog (mtOf (Tryd.f143.body.getD .skip)) Tryd.f143 = some ac143 := by kernel_rfl
theorem a143 {E : Env} (hE : E.P = Tryd.prog) {args : List AV} {H : List Blk} {Q : AV → List Blk → Prop} (h : wpc E H ac143.body (retQ E H ac143.results Q) ⟨enterTm args ac143.ntmps, H⟩) : ACalls E 143 args H Q :=
  ACalls.enter (by rw [hE]; exact hm) (by rw [hE]; exact Tryd.func143) (by rw [hE]; exact c143) h
theorem p143 {E : Env} (hE : E.P = Tryd.prog) {args : List AV} {Q : AV → Prop} (h : ∀ l, wpc E (frm l) ac143.body (retQ E (frm l) ac143.results fun r H' => hb 0 r = true ∧ Q r ∧ H' = frm l) ⟨enterTm args ac143.ntmps, frm l⟩) (hp : hbL 0 args = true := by rfl) : PCalls E 143 args Q :=
  PCalls.mk hp fun l => a143 hE (h l)
theorem c123 : cFn Tryd.prog (mtOf (Tryd.f123.body.getD .skip)) Tryd.f123 = some ac123 := by kernel_rfl
theorem a123 {E : Env} (hE : E.P = Tryd.prog) {args : List AV} {H : List Blk} {Q : AV → List Blk → Prop} (h : wpc E H ac123.body (retQ E H ac123.results Q) ⟨enterTm args ac123.ntmps, H⟩) : ACalls E 123 args H Q :=
  ACalls.enter (by rw [hE]; exact hm) (by rw [hE]; exact Tryd.func123) (by rw [hE]; exact c123) h
theorem p123 {E : Env} (hE : E.P = Tryd.prog) {args : List AV} {Q : AV → Prop} (h : ∀ l, wpc E (frm l) ac123.body (retQ E (frm l) ac123.results fun r H' => hb 0 r = true ∧ Q r ∧ H' = frm l) ⟨enterTm args ac123.ntmps, frm l⟩) (hp : hbL 0 args = true := by rfl) : PCalls E 123 args Q :=
  PCalls.mk hp fun l => a123 hE (h l)
theorem c122 : cFn Tryd.prog (mtOf (Tryd.f122.body.getD .skip)) Tryd.f122 = some ac122 := by kernel_rfl
theorem a122 {E : Env} (hE : E.P = Tryd.prog) {args : List AV} {H : List Blk} {Q : AV → List Blk → Prop} (h : wpc E H ac122.body (retQ E H ac122.results Q) ⟨enterTm args ac122.ntmps, H⟩) : ACalls E 122 args H Q :=
  ACalls.enter (by rw [hE]; exact hm) (by rw [hE]; exact Tryd.func122) (by rw [hE]; exact c122) h
theorem p122 {E : Env} (hE : E.P = Tryd.prog) {args : List AV} {Q : AV → Prop} (h : ∀ l, wpc E (frm l) ac122.body (retQ E (frm l) ac122.results fun r H' => hb 0 r = true ∧ Q r ∧ H' = frm l) ⟨enterTm args ac122.ntmps, frm l⟩) (hp : hbL 0 args = true := by rfl) : PCalls E 122 args Q :=
  PCalls.mk hp fun l => a122 hE (h l)
theorem c159 : cFn Tryd.prog (mtOf (Tryd.f159.body.getD .skip)) Tryd.f159 = some ac159 := by kernel_rfl
theorem a159 {E : Env} (hE : E.P = Tryd.prog) {args : List AV} {H : List Blk} {Q : AV → List Blk → Prop} (h : wpc E H ac159.body (retQ E H ac159.results Q) ⟨enterTm args ac159.ntmps, H⟩) : ACalls E 159 args H Q :=
  ACalls.enter (by rw [hE]; exact hm) (by rw [hE]; exact Tryd.func159) (by rw [hE]; exact c159) h
theorem p159 {E : Env} (hE : E.P = Tryd.prog) {args : List AV} {Q : AV → Prop} (h : ∀ l, wpc E (frm l) ac159.body (retQ E (frm l) ac159.results fun r H' => hb 0 r = true ∧ Q r ∧ H' = frm l) ⟨enterTm args ac159.ntmps, frm l⟩) (hp : hbL 0 args = true := by rfl) : PCalls E 159 args Q :=
  PCalls.mk hp fun l => a159 hE (h l)
theorem c91 : cFn Tryd.prog (mtOf (Tryd.f91.body.getD .skip)) Tryd.f91 = some ac91 := by kernel_rfl
theorem a91 {E : Env} (hE : E.P = Tryd.prog) {args : List AV} {H : List Blk} {Q : AV → List Blk → Prop} (h : wpc E H ac91.body (retQ E H ac91.results Q) ⟨enterTm args ac91.ntmps, H⟩) : ACalls E 91 args H Q :=
  ACalls.enter (by rw [hE]; exact hm) (by rw [hE]; exact Tryd.func91) (by rw [hE]; exact c91) h
theorem p91 {E : Env} (hE : E.P = Tryd.prog) {args : List AV} {Q : AV → Prop} (h : ∀ l, wpc E (frm l) ac91.body (retQ E (frm l) ac91.results fun r H' => hb 0 r = true ∧ Q r ∧ H' = frm l) ⟨enterTm args ac91.ntmps, frm l⟩) (hp : hbL 0 args = true := by rfl) : PCalls E 91 args Q :=
  PCalls.mk hp fun l => a91 hE (h l)
theorem c119 : cFn Tryd.prog (mtOf (Tryd.f119.body.getD .skip)) Tryd.f119 = some ac119 := by kernel_rfl
theorem a119 {E : Env} (hE : E.P = Tryd.prog) {args : List AV} {H : List Blk} {Q : AV → List Blk → Prop} (h : wpc E H ac119.body (retQ E H ac119.results Q) ⟨enterTm args ac119.ntmps, H⟩) : ACalls E 119 args H Q :=
  ACalls.enter (by rw [hE]; exact hm) (by rw [hE]; exact Tryd.func119) (by rw [hE]; exact c119) h
theorem p119 {E : Env} (hE : E.P = Tryd.prog) {args : List AV} {Q : AV → Prop} (h : ∀ l, wpc E (frm l) ac119.body (retQ E (frm l) ac119.results fun r H' => hb 0 r = true ∧ Q r ∧ H' = frm l) ⟨enterTm args ac119.ntmps, frm l⟩) (hp : hbL 0 args = true := by rfl) : PCalls E 119 args Q :=
  PCalls.mk hp fun l => a119 hE (h l)
theorem c60 : cFn Tryd.prog (mtOf (Tryd.f60.body.getD .skip)) Tryd.f60 = some ac60 := by kernel_rfl
theorem a60 {E : Env} (hE : E.P = Tryd.prog) {args : List AV} {H : List Blk} {Q : AV → List Blk → Prop} (h : wpc E H ac60.body (retQ E H ac60.results Q) ⟨enterTm args ac60.ntmps, H⟩) : ACalls E 60 args H Q :=
  ACalls.enter (by rw [hE]; exact hm) (by rw [hE]; exact Tryd.func60) (by rw [hE]; exact c60) h
theorem p60 {E : Env} (hE : E.P = Tryd.prog) {args : List AV} {Q : AV → Prop} (h : ∀ l, wpc E (frm l) ac60.body (retQ E (frm l) ac60.results fun r H' => hb 0 r = true ∧ Q r ∧ H' = frm l) ⟨enterTm args ac60.ntmps, frm l⟩) (hp : hbL 0 args = true := by rfl) : PCalls E 60 args Q :=
  PCalls.mk hp fun l => a60 hE (h l)
theorem c90 : cFn Tryd.prog (mtOf (Tryd.f90.body.getD .skip)) Tryd.f90 = some ac90 := by kernel_rfl
theorem a90 {E : Env} (hE : E.P = Tryd.prog) {args : List AV} {H : List Blk} {Q : AV → List Blk → Prop} (h : wpc E H ac90.body (retQ E H ac90.results Q) ⟨enterTm args ac90.ntmps, H⟩) : ACalls E 90 args H Q :=
  ACalls.enter (by rw [hE]; exact hm) (by rw [hE]; exact Tryd.func90) (by rw [hE]; exact c90) h
theorem p90 {E : Env} (hE : E.P = Tryd.prog) {args : List AV} {Q : AV → Prop} (h : ∀ l, wpc E (frm l) ac90.body (retQ E (frm l) ac90.results fun r H' => hb 0 r = true ∧ Q r ∧ H' = frm l) ⟨enterTm args ac90.ntmps, frm l⟩) (hp : hbL 0 args = true := by rfl) : PCalls E 90 args Q :=
  PCalls.mk hp fun l => a90 hE (h l)
theorem c116 : cFn Tryd.prog (mtOf (Tryd.f116.body.getD .skip)) Tryd.f116 = some ac116 := by kernel_rfl
theorem a116 {E : Env} (hE : E.P = Tryd.prog) {args : List AV} {H : List Blk} {Q : AV → List Blk → Prop} (h : wpc E H ac116.body (retQ E H ac116.results Q) ⟨enterTm args ac116.ntmps, H⟩) : ACalls E 116 args H Q :=
  ACalls.enter (by rw [hE]; exact hm) (by rw [hE]; exact Tryd.func116) (by rw [hE]; exact c116) h
theorem p116 {E : Env} (hE : E.P = Tryd.prog) {args : List AV} {Q : AV → Prop} (h : ∀ l, wpc E (frm l) ac116.body (retQ E (frm l) ac116.results fun r H' => hb 0 r = true ∧ Q r ∧ H' = frm l) ⟨enterTm args ac116.ntmps, frm l⟩) (hp : hbL 0 args = true := by rfl) : PCalls E 116 args Q :=
  PCalls.mk hp fun l => a116 hE (h l)
theorem c117 : cFn Tryd.prog (mtOf (Tryd.f117.body.getD .skip)) Tryd.f117 = some ac117 := by kernel_rfl
theorem a117 {E : Env} (hE : E.P = Tryd.prog) {args : List AV} {H : List Blk} {Q : AV → List Blk → Prop} (h : wpc E H ac117.body (retQ E H ac117.results Q) ⟨enterTm args ac117.ntmps, H⟩) : ACalls E 117 args H Q :=
  ACalls.enter (by rw [hE]; exact hm) (by rw [hE]; exact Tryd.func117) (by rw [hE]; exact c117) h
theorem p117 {E : Env} (hE : E.P = Tryd.prog) {args : List AV} {Q : AV → Prop} (h : ∀ l, wpc E (frm l) ac117.body (retQ E (frm l) ac117.results fun r H' => hb 0 r = true ∧ Q r ∧ H' = frm l) ⟨enterTm args ac117.ntmps, frm l⟩) (hp : hbL 0 args = true := by rfl) : PCalls E 117 args Q :=
  PCalls.mk hp fun l => a117 hE (h l)
theorem c118 : cFn Tryd.prog (mtOf (Tryd.f118.body.getD .skip)) Tryd.f118 = some ac118 := by kernel_rfl
theorem a118 {E : Env} (hE : E.P = Tryd.prog) {args : List AV} {H : List Blk} {Q : AV → List Blk → Prop} (h : wpc E H ac118.body (retQ E H ac118.results Q) ⟨enterTm args ac118.ntmps, H⟩) : ACalls E 118 args H Q :=
  ACalls.enter (by rw [hE]; exact hm) (by rw [hE]; exact Tryd.func118) (by rw [hE]; exact c118) h
theorem p118 {E : Env} (hE : E.P = Tryd.prog) {args : List AV} {Q : AV → Prop} (h : ∀ l, wpc E (frm l) ac118.body (retQ E (frm l) ac118.results fun r H' => hb 0 r = true ∧ Q r ∧ H' = frm l) ⟨enterTm args ac118.ntmps, frm l⟩) (hp : hbL 0 args = true := by rfl) : PCalls E 118 args Q :=
  PCalls.mk hp fun l => a118 hE (h l)
theorem c138 : cFn Tryd.prog (mtOf (Tryd.f138.body.getD .skip)) Tryd.f138 = some ac138 := by kernel_rfl
theorem a138 {E : Env} (hE : E.P = Tryd.prog) {args : List AV} {H : List Blk} {Q : AV → List Blk → Prop} (h : wpc E H ac138.body (retQ E H ac138.results Q) ⟨enterTm args ac138.ntmps, H⟩) : ACalls E 138 args H Q :=
  ACalls.enter (by rw [hE]; exact hm) (by rw [hE]; exact Tryd.func138) (by rw [hE]; exact c138) h
theorem p138 {E : Env} (hE : E.P = Tryd.prog) {args : List AV} {Q : AV → Prop} (h : ∀ l, wpc E (frm l) ac138.body (retQ E (frm l) ac138.results fun r H' => hb 0 r = true ∧ Q r ∧ H' = frm l) ⟨enterTm args ac138.ntmps, frm l⟩) (hp : hbL 0 args = true := by rfl) : PCalls E 138 args Q :=
  PCalls.mk hp fun l => a138 hE (h l)
theorem c38 : cFn Tryd.prog (mtOf (Tryd.f38.body.getD .skip)) Tryd.f38 = some ac38 := by kernel_rfl
theorem a38 {E : Env} (hE : E.P = Tryd.prog) {args : List AV} {H : List Blk} {Q : AV → List Blk → Prop} (h : wpc E H ac38.body (retQ E H ac38.results Q) ⟨enterTm args ac38.ntmps, H⟩) : ACalls E 38 args H Q :=
  ACalls.enter (by rw [hE]; exact hm) (by rw [hE]; exact Tryd.func38) (by rw [hE]; exact c38) h
theorem p38 {E : Env} (hE : E.P = Tryd.prog) {args : List AV} {Q : AV → Prop} (h : ∀ l, wpc E (frm l) ac38.body (retQ E (frm l) ac38.results fun r H' => hb 0 r = true ∧ Q r ∧ H' = frm l) ⟨enterTm args ac38.ntmps, frm l⟩) (hp : hbL 0 args = true := by rfl) : PCalls E 38 args Q :=
  PCalls.mk hp fun l => a38 hE (h l)
theorem c59 : cFn Tryd.prog (mtOf (Tryd.f59.body.getD .skip)) Tryd.f59 = some ac59 := by kernel_rfl
theorem a59 {E : Env} (hE : E.P = Tryd.prog) {args : List AV} {H : List Blk} {Q : AV → List Blk → Prop} (h : wpc E H ac59.body (retQ E H ac59.results Q) ⟨enterTm args ac59.ntmps, H⟩) : ACalls E 59 args H Q :=
  ACalls.enter (by rw [hE]; exact hm) (by rw [hE]; exact Tryd.func59) (by rw [hE]; exact c59) h
theorem p59 {E : Env} (hE : E.P = Tryd.prog) {args : List AV} {Q : AV → Prop} (h : ∀ l, wpc E (frm l) ac59.body (retQ E (frm l) ac59.results fun r H' => hb 0 r = true ∧ Q r ∧ H' = frm l) ⟨enterTm args ac59.ntmps, frm l⟩) (hp : hbL 0 args = true := by rfl) : PCalls E 59 args Q :=
  PCalls.mk hp fun l => a59 hE (h l)
theorem c86 : cFn Tryd.prog (mtOf (Tryd.f86.body.getD .skip)) Tryd.f86 = some ac86 := by kernel_rfl
theorem a86 {E : Env} (hE : E.P = Tryd.prog) {args : List AV} {H : List Blk} {Q : AV → List Blk → Prop} (h : wpc E H ac86.body (retQ E H ac86.results Q) ⟨enterTm args ac86.ntmps, H⟩) : ACalls E 86 args H Q :=
  ACalls.enter (by rw [hE]; exact hm) (by rw [hE]; exact Tryd.func86) (by rw [hE]; exact c86) h
theorem p86 {E : Env} (hE : E.P = Tryd.prog) {args : List AV} {Q : AV → Prop} (h : ∀ l, wpc E (frm l) ac86.body (retQ E (frm l) ac86.results fun r H' => hb 0 r = true ∧ Q r ∧ H' = frm l) ⟨enterTm args ac86.ntmps, frm l⟩) (hp : hbL 0 args = true := by rfl) : PCalls E 86 args Q :=
  PCalls.mk hp fun l => a86 hE (h l)
theorem c36 : cFn Tryd.prog (mtOf (Tryd.f36.body.getD .skip)) Tryd.f36 = some ac36 := by kernel_rfl
theorem a36 {E : Env} (hE : E.P = Tryd.prog) {args : List AV} {H : List Blk} {Q : AV → List Blk → Prop} (h : wpc E H ac36.body (retQ E H ac36.results Q) ⟨enterTm args ac36.ntmps, H⟩) : ACalls E 36 args H Q :=
  ACalls.enter (by rw [hE]; exact hm) (by rw [hE]; exact Tryd.func36) (by rw [hE]; exact c36) h
theorem p36 {E : Env} (hE : E.P = Tryd.prog) {args : List AV} {Q : AV → Prop} (h : ∀ l, wpc E (frm l) ac36.body (retQ E (frm l) ac36.results fun r H' => hb 0 r = true ∧ Q r ∧ H' = frm l) ⟨enterTm args ac36.ntmps, frm l⟩) (hp : hbL 0 args = true := by rfl) : PCalls E 36 args Q :=
  PCalls.mk hp fun l => a36 hE (h l)
end Ink.D

set_option maxRecDepth 100000
namespace Go.Proofs
open Go.Shelf
def Tryd.laysM171_ren : Go.Shelf.Ren := ⟨fun | 171 => 88 | 243 => 115 | 246 => 136 | 283 => 152 | 284 => 153 | 285 => 154 | 286 => 155 | 129 => 171 | 317 => 170 | 318 => 172 | 319 => 173 | 320 => 174 | 337 => 180 | 338 => 181 | n => n, fun | 3 => 3 | 9 => 9 | 2 => 2 | 4 => 4 | 171 => 161 | 0 => 0 | 53 => 162 | 37 => 41 | 5 => 5 | 173 => 165 | 212 => 178 | 51 => 168 | 20 => 20 | 213 => 179 | 46 => 67 | 232 => 186 | 233 => 187 | n => n, fun | 17 => 1 | 18 => 2 | 19 => 3 | n => n⟩
theorem Tryd.laysM171 : Go.Proofs.LaysM.n171 Tryd.prog Tryd.laysM171_ren := {
  mixed := by kernel_rfl
  f129 := Tryd.func171.trans (congrArg some (by kernel_rfl))
  f171 := Tryd.func88.trans (congrArg some (by kernel_rfl))
  f243 := Tryd.func115.trans (congrArg some (by kernel_rfl))
  f246 := Tryd.func136.trans (congrArg some (by kernel_rfl))
  f283 := Tryd.func152.trans (congrArg some (by kernel_rfl))
  f284 := Tryd.func153.trans (congrArg some (by kernel_rfl))
  f285 := Tryd.func154.trans (congrArg some (by kernel_rfl))
  f286 := Tryd.func155.trans (congrArg some (by kernel_rfl))
  f317 := Tryd.func170.trans (congrArg some (by kernel_rfl))
  f318 := Tryd.func172.trans (congrArg some (by kernel_rfl))
  f319 := Tryd.func173.trans (congrArg some (by kernel_rfl))
  f320 := Tryd.func174.trans (congrArg some (by kernel_rfl))
  f337 := Tryd.func180.trans (congrArg some (by kernel_rfl))
  f338 := Tryd.func181.trans (congrArg some (by kernel_rfl))
  t0 := Tryd.underlying0
  a0 := Tryd.isAgg0
  z0 := Tryd.sizeOf0
  v0 := Tryd.zeroValue0
  t2 := Tryd.underlying2
  a2 := Tryd.isAgg2
  z2 := Tryd.sizeOf2
  v2 := Tryd.zeroValue2
  t3 := Tryd.underlying3
  a3 := Tryd.isAgg3
  z3 := Tryd.sizeOf3
  v3 := Tryd.zeroValue3
  t4 := Tryd.underlying4
  a4 := Tryd.isAgg4
  z4 := Tryd.sizeOf4
  v4 := Tryd.zeroValue4
  t5 := Tryd.underlying5
  a5 := Tryd.isAgg5
  z5 := Tryd.sizeOf5
  v5 := Tryd.zeroValue5
  t9 := Tryd.underlying9
  a9 := Tryd.isAgg9
  z9 := Tryd.sizeOf9
  v9 := Tryd.zeroValue9
  t20 := Tryd.underlying20
  a20 := Tryd.isAgg20
  z20 := Tryd.sizeOf20
  v20 := Tryd.zeroValue20
  t37 := Tryd.underlying41
  a37 := Tryd.isAgg41
  z37 := Tryd.sizeOf41
  v37 := Tryd.zeroValue41
  t46 := Tryd.underlying67
  a46 := Tryd.isAgg67
  z46 := Tryd.sizeOf67
  v46 := Tryd.zeroValue67
  t51 := Tryd.underlying168
  a51 := Tryd.isAgg168
  z51 := Tryd.sizeOf168
  v51 := Tryd.zeroValue168
  t53 := Tryd.underlying162
  a53 := Tryd.isAgg162
  z53 := Tryd.sizeOf162
  v53 := Tryd.zeroValue162
  t171 := Tryd.underlying161
  a171 := Tryd.isAgg161
  z171 := Tryd.sizeOf161
  v171 := Tryd.zeroValue161
  t173 := Tryd.underlying165
  a173 := Tryd.isAgg165
  z173 := Tryd.sizeOf165
  v173 := Tryd.zeroValue165
  t212 := Tryd.underlying178
  a212 := Tryd.isAgg178
  z212 := Tryd.sizeOf178
  v212 := Tryd.zeroValue178
  t213 := Tryd.underlying179
  a213 := Tryd.isAgg179
  z213 := Tryd.sizeOf179
  t232 := Tryd.underlying186
  a232 := Tryd.isAgg186
  z232 := Tryd.sizeOf186
  v232 := Tryd.zeroValue186
  t233 := Tryd.underlying187
  a233 := Tryd.isAgg187
  z233 := Tryd.sizeOf187
  v233 := Tryd.zeroValue187
  g17 := by kernel_rfl
  g18 := by kernel_rfl
  g19 := by kernel_rfl
  i0 := by kernel_rfl
  i2 := by kernel_rfl
  i3 := by kernel_rfl
  i4 := by kernel_rfl
  i5 := by kernel_rfl
  i9 := by kernel_rfl
  i20 := by kernel_rfl
  i37 := by kernel_rfl
  i46 := by kernel_rfl
  i51 := by kernel_rfl
  i53 := by kernel_rfl
  i171 := by kernel_rfl
  i173 := by kernel_rfl
  i212 := by kernel_rfl
  i232 := by kernel_rfl
  i233 := by kernel_rfl
  m17 := by kernel_rfl
  m18 := by kernel_rfl
  m19 := by kernel_rfl }
open Go.RowKit Go.Sort Go.Lib in
/-- strconv.Itoa: "Itoa is equivalent to FormatInt(int64(i), 10).": i's DECIMAL NUMERAL ('Lib.itoa': a '-' where i is negative, then the digits), FOR EVERY int. The world behind the call: the world before it, new blocks behind the heap (the library's 'var a [24]byte'), draws. (LAID: no walk: one application.) -/
theorem Tryd.strconv_Itoa (n : Int) (h0 : -9223372036854775808 ≤ n) (h1 : n ≤ 9223372036854775807) (w : World) (htab : Lib.TabIs Tryd.prog w "internal/strconv.uint64pow10" .u64 Lib.pow10Tab) :
    Calls Tryd.prog 88 #[.int .i64 n] w fun e w' => e = .returned (.string ⟨(Lib.itoa n).toArray⟩) ∧ ∃ k os, w' = grow (w.drewN k) os := Any.strconv_Itoa Tryd.laysM171 n h0 h1 w htab
def Tryd.lays105_ren : Go.Shelf.Ren := ⟨fun | 105 => 121 | 212 => 140 | 99 => 64 | 165 => 141 | 166 => 87 | 170 => 142 | 169 => 63 | 263 => 156 | 264 => 157 | 206 => 98 | 240 => 114 | 241 => 158 | 276 => 135 | 277 => 175 | n => n, fun | 9 => 9 | 3 => 3 | 4 => 4 | 20 => 20 | 0 => 0 | 46 => 67 | 109 => 151 | 5 => 5 | 72 => 86 | 76 => 107 | 51 => 168 | 146 => 169 | 53 => 162 | 148 => 171 | 70 => 84 | 37 => 41 | 75 => 106 | 127 => 119 | 164 => 146 | 80 => 88 | n => n, fun | n => n⟩
theorem Tryd.lays105 : Go.Proofs.Lays.n105 Tryd.prog Tryd.lays105_ren := {
  mixed := by kernel_rfl
  f99 := Tryd.func64.trans (congrArg some (by kernel_rfl))
  f105 := Tryd.func121.trans (congrArg some (by kernel_rfl))
  f165 := Tryd.func141.trans (congrArg some (by kernel_rfl))
  f166 := Tryd.func87.trans (congrArg some (by kernel_rfl))
  f169 := Tryd.func63.trans (congrArg some (by kernel_rfl))
  f170 := Tryd.func142.trans (congrArg some (by kernel_rfl))
  f206 := Tryd.func98.trans (congrArg some (by kernel_rfl))
  f212 := Tryd.func140.trans (congrArg some (by kernel_rfl))
  f240 := Tryd.func114.trans (congrArg some (by kernel_rfl))
  f241 := Tryd.func158.trans (congrArg some (by kernel_rfl))
  f263 := Tryd.func156.trans (congrArg some (by kernel_rfl))
  f264 := Tryd.func157.trans (congrArg some (by kernel_rfl))
  f276 := Tryd.func135.trans (congrArg some (by kernel_rfl))
  f277 := Tryd.func175.trans (congrArg some (by kernel_rfl))
  t0 := Tryd.underlying0
  a0 := Tryd.isAgg0
  z0 := Tryd.sizeOf0
  v0 := Tryd.zeroValue0
  t3 := Tryd.underlying3
  a3 := Tryd.isAgg3
  z3 := Tryd.sizeOf3
  v3 := Tryd.zeroValue3
  t4 := Tryd.underlying4
  a4 := Tryd.isAgg4
  z4 := Tryd.sizeOf4
  v4 := Tryd.zeroValue4
  t5 := Tryd.underlying5
  a5 := Tryd.isAgg5
  z5 := Tryd.sizeOf5
  v5 := Tryd.zeroValue5
  t9 := Tryd.underlying9
  a9 := Tryd.isAgg9
  z9 := Tryd.sizeOf9
  v9 := Tryd.zeroValue9
  t20 := Tryd.underlying20
  a20 := Tryd.isAgg20
  z20 := Tryd.sizeOf20
  v20 := Tryd.zeroValue20
  t37 := Tryd.underlying41
  a37 := Tryd.isAgg41
  z37 := Tryd.sizeOf41
  v37 := Tryd.zeroValue41
  t46 := Tryd.underlying67
  a46 := Tryd.isAgg67
  z46 := Tryd.sizeOf67
  v46 := Tryd.zeroValue67
  t51 := Tryd.underlying168
  a51 := Tryd.isAgg168
  z51 := Tryd.sizeOf168
  v51 := Tryd.zeroValue168
  t53 := Tryd.underlying162
  a53 := Tryd.isAgg162
  z53 := Tryd.sizeOf162
  v53 := Tryd.zeroValue162
  t70 := Tryd.underlying84
  a70 := Tryd.isAgg84
  z70 := Tryd.sizeOf84
  v70 := Tryd.zeroValue84
  t72 := Tryd.underlying86
  a72 := Tryd.isAgg86
  z72 := Tryd.sizeOf86
  v72 := Tryd.zeroValue86
  t75 := Tryd.underlying106
  a75 := Tryd.isAgg106
  z75 := Tryd.sizeOf106
  v75 := Tryd.zeroValue106
  t76 := Tryd.underlying107
  a76 := Tryd.isAgg107
  z76 := Tryd.sizeOf107
  v76 := Tryd.zeroValue107
  t109 := Tryd.underlying151
  a109 := Tryd.isAgg151
  z109 := Tryd.sizeOf151
  v109 := Tryd.zeroValue151
  t127 := Tryd.underlying119
  a127 := Tryd.isAgg119
  z127 := Tryd.sizeOf119
  v127 := Tryd.zeroValue119
  t146 := Tryd.underlying169
  a146 := Tryd.isAgg169
  z146 := Tryd.sizeOf169
  v146 := Tryd.zeroValue169
  t148 := Tryd.underlying171
  a148 := Tryd.isAgg171
  z148 := Tryd.sizeOf171
  v148 := Tryd.zeroValue171
  t164 := Tryd.underlying146
  a164 := Tryd.isAgg146
  z164 := Tryd.sizeOf146
  v164 := Tryd.zeroValue146 }
theorem Tryd.Builder_Extra_105 : Builder.Extra Tryd.prog Tryd.lays105_ren := {
  sizeBuilder := by kernel_rfl
  liesBuilder := by kernel_rfl
  t5 := Tryd.underlying5
  a5 := Tryd.isAgg5
  z5 := Tryd.sizeOf5
  v5 := Tryd.zeroValue5
  infoByte := by kernel_rfl
  cellsByte := by kernel_rfl
  sizeByte := by kernel_rfl
  neB5 := by decide }
open Go.RowKit Go.Lib in
/-- **strings.Repeat: count ≥ 0, the result within one allocation: count copies of s.** (LAID: no walk: one application.) -/
theorem Tryd.strings_Repeat (s : ByteArray) (c : Nat) (w : World) (hc : c ≤ 9223372036854775807) (hlen : s.size * c ≤ 140737488355328) :
    Calls Tryd.prog 121 #[.string s, .int .i64 c] w fun e w' => e = .returned (.string ⟨(Lib.repeatL s.data.toList c).toArray⟩) ∧ Below w.heap.size w w' := Any.strings_Repeat Tryd.lays105 Tryd.Builder_Extra_105 s c w hc hlen
end Go.Proofs

namespace Ink.D
open Go Go.Proofs
set_option maxRecDepth 100000
set_option linter.unusedSimpArgs false
variable {E : Env} (hE : E.P = Tryd.prog)

/-- the table of Go's own that Itoa reads is as it was -/
def TabE (E : Env) : Prop := ∀ c, GOk E c → Lib.TabIs Tryd.prog c.w "internal/strconv.uint64pow10" .u64 Lib.pow10Tab

include hE
theorem itoa (hT : TabE E) (n : Int) : PCalls E 88 [.int .i64 n] (· = .str (Lib.itoa n)) := by
  refine PCalls.ofCalls hE Tryd.func88 rfl (by decide) fun c vs hg hl => ?_
  match vs, hl with
  | [v], hl =>
    have hv := hl.at_ 0 _ v rfl rfl
    cases hv with
    | int _ _ h =>
      refine ⟨.string ⟨(Lib.itoa n).toArray⟩, fun d => .str _ _ (by simp), ?_⟩
      refine (Tryd.strconv_Itoa n ?_ ?_ c.w (hT c hg)).mono fun e w' ⟨h1, k, os, h2⟩ => ⟨h1, h2 ▸ below_grow⟩
      · exact h.1
      · exact h.2
  | [], hl => cases hl.len
  | _ :: _ :: _, hl => cases hl.len

theorem repeat_ (s : List UInt8) (n : Nat) (hn : n < 1000) (hs : s.length < 1000) : PCalls E 121 [.str s, .int .i64 n] (· = .str (Lib.repeatL s n)) := by
  refine PCalls.ofCalls hE Tryd.func121 rfl (by decide) fun c vs hg hl => ?_
  match vs, hl with
  | [v, u], hl =>
    have hv := hl.at_ 0 _ v rfl rfl
    have hu := hl.at_ 1 _ u rfl rfl
    cases hu with
    | int _ _ h =>
      cases hv with
      | str _ b hb =>
        refine ⟨.string ⟨(Lib.repeatL s n).toArray⟩, fun d => .str _ _ (by simp), ?_⟩
        have hsz : b.size = s.length := by rw [← hb]; rfl
        have hle : b.size * n ≤ 140737488355328 := by
          rw [hsz]
          have : s.length * n ≤ 1000 * 1000 := Nat.mul_le_mul (by omega) (by omega)
          omega
        have := Tryd.strings_Repeat b n c.w (by omega) hle
        rw [hb] at this
        exact this
  | [], hl => cases hl.len
  | [_], hl => cases hl.len
  | _ :: _ :: _ :: _, hl => cases hl.len

omit hE in
def rtrim (s : List UInt8) (c : UInt8) : List UInt8 := (s.reverse.dropWhile (· == c)).reverse

omit hE in
theorem rtrim_len (s : List UInt8) (c : UInt8) : (rtrim s c).length ≤ s.length := by
  unfold rtrim
  have := (List.dropWhile_sublist (· == c) (l := s.reverse)).length_le
  simpa using this

omit hE in
theorem rtrim_snoc (l : List UInt8) (d c : UInt8) : rtrim (l ++ [d]) c = if d = c then rtrim l c else l ++ [d] := by
  unfold rtrim
  rw [List.reverse_append, List.reverse_singleton, List.singleton_append]
  by_cases h : d = c
  · subst h; rw [List.dropWhile_cons_of_pos (by simp), if_pos rfl]
  · rw [List.dropWhile_cons_of_neg (by simpa using h), if_neg h]; simp

omit hE in
theorem last_getD (y : List UInt8) (d : UInt8) : (y ++ [d]).getD (((y ++ [d]).length : Int) - 1).toNat 0 = d := by
  have : (((y ++ [d]).length : Int) - 1).toNat = y.length := by simp
  rw [this]; simp

theorem trimRightByte (s : List UInt8) (c : UInt8) (hs : s.length < big) : PCalls E 144 [.str s, .int .u8 (c.toNat : Int)] (· = .str (rtrim s c)) := by
  unfold big at hs
  refine p144 hE fun l => ?_
  conv => whnf
  repeat' (first
    | (refine And.intro ?_ ?_; (focus (first | omega | decide | (unfold inI64; omega) | (simp only [List.length_append, List.length_cons, List.length_nil] <;> omega) | (refine ⟨?_, ?_⟩ <;> omega) | (refine ⟨?_, ?_, ?_, ?_, ?_, ?_⟩ <;> first | rfl | trivial | decide | omega | (simp [bytesAV_length] <;> omega)) | (simp <;> omega) | (unfold inI64; simp only [List.length_append, List.length_cons, List.length_nil] <;> omega))); conv => whnf)
    | (refine brD (fun _ => ?_) (fun _ => ?_) <;> first | (exfalso; omega) | (conv => whnf))
    | (refine brB (fun _ => ?_) (fun _ => ?_) <;> conv => whnf))
  refine LoopG.s (fun y : List UInt8 => y.length ≤ s.length ∧ rtrim y c = rtrim s c) 23 (fun y => [(0, .str y), (1, .int .u8 (c.toNat : Int)), (4, .str [])]) (fun _ => frm l) (fun y => y.length) s ⟨Nat.le_refl _, rfl⟩ rfl ⟨rfl, rfl, rfl⟩ rfl ?_
  rintro y ⟨h1, h2⟩
  rcases List.eq_nil_or_concat y with rfl | ⟨z, d, rfl⟩
  · conv => whnf
    repeat' (first
      | (refine And.intro ?_ ?_; (focus (first | omega | decide | (unfold inI64; omega) | (simp only [List.length_append, List.length_cons, List.length_nil] <;> omega) | (refine ⟨?_, ?_⟩ <;> omega) | (refine ⟨?_, ?_, ?_, ?_, ?_, ?_⟩ <;> first | rfl | trivial | decide | omega | (simp [bytesAV_length] <;> omega)) | (simp <;> omega) | (unfold inI64; simp only [List.length_append, List.length_cons, List.length_nil] <;> omega))); conv => whnf)
      | (refine brD (fun _ => ?_) (fun _ => ?_) <;> first | (exfalso; omega) | (conv => whnf))
      | (refine brB (fun _ => ?_) (fun _ => ?_) <;> conv => whnf))
    refine RetG.q ⟨rfl, ?_, rfl⟩
    rw [← h2]; rfl
  · rw [List.concat_eq_append] at *
    have hg := last_getD z d
    rw [rtrim_snoc] at h2
    have hl : (z ++ [d]).length = z.length + 1 := by simp
    generalize hy : z ++ [d] = y at *
    conv => whnf
    repeat' (first
      | (rw [hg]; conv => whnf)
      | (refine And.intro ?_ ?_; (focus (first | omega | decide | (unfold inI64; omega) | (simp only [List.length_append, List.length_cons, List.length_nil] <;> omega) | (refine ⟨?_, ?_⟩ <;> omega) | (refine ⟨?_, ?_, ?_, ?_, ?_, ?_⟩ <;> first | rfl | trivial | decide | omega | (simp [bytesAV_length] <;> omega)) | (simp <;> omega) | (unfold inI64; simp only [List.length_append, List.length_cons, List.length_nil] <;> omega))); conv => whnf)
      | (refine brD (fun _ => ?_) (fun _ => ?_) <;> first | (exfalso; omega) | (conv => whnf))
      | (refine brB (fun _ => ?_) (fun _ => ?_) <;> conv => whnf))
    · rename_i h3
      have h3 : d = c := UInt8.toNat_inj.mp (by omega)
      rw [if_pos h3] at h2
      have e : List.take ((y.length : Int) - 1).toNat y = z := by
        have : ((y.length : Int) - 1).toNat = z.length := by omega
        rw [this, ← hy]; simp
      rw [e]
      exact ⟨z, ⟨⟨by omega, h2⟩, by omega⟩, Wk.slots rfl ⟨rfl, rfl, rfl⟩⟩
    · rename_i h3
      have h3 : ¬ d = c := fun e => h3 (by rw [e])
      rw [if_neg h3] at h2
      exact RetG.q ⟨rfl, by rw [h2], rfl⟩

theorem trimRight1 (s : List UInt8) (c : UInt8) (hs : s.length < big) (hc : c.toNat < 128) : PCalls E 123 [.str s, .str [c]] (· = .str (rtrim s c)) := by
  refine p123 hE fun l => ?_
  conv => whnf
  repeat' (first
    | (refine And.intro ?_ ?_; (focus (first | omega | decide | (unfold inI64; omega) | (simp only [List.length_append, List.length_cons, List.length_nil] <;> omega) | (refine ⟨?_, ?_⟩ <;> omega) | (refine ⟨?_, ?_, ?_, ?_, ?_, ?_⟩ <;> first | rfl | trivial | decide | omega | (simp [bytesAV_length] <;> omega)) | (simp <;> omega) | (unfold inI64; simp only [List.length_append, List.length_cons, List.length_nil] <;> omega))); conv => whnf)
    | (refine brD (fun _ => ?_) (fun _ => ?_) <;> first | (exfalso; omega) | (conv => whnf))
    | (refine brB (fun _ => ?_) (fun _ => ?_) <;> conv => whnf)
    | ((first | refine CallG.e (trimRightByte hE s c hs) ?_ | refine CallD.e (trimRightByte hE s c hs) ?_ | refine CallQ.e (trimRightByte hE s c hs) ?_); conv => whnf))
  · rename_i h; subst h; exact RetG.q ⟨rfl, rfl, rfl⟩
  · exact RetG.q ⟨rfl, rfl, rfl⟩
  · rename_i h; exact absurd (show ((c.toNat : Nat) : Int) < 128 by omega) h

omit hE in
def sufB (s t : List UInt8) : Bool := decide (t.length ≤ s.length) && decide (s.drop (s.length - t.length) = t)

theorem hasSuffix159 (s t : List UInt8) (hs : s.length < big) (ht : t.length < big) : PCalls E 159 [.str s, .str t] (· = .bool (sufB s t)) := by
  unfold big at hs ht
  refine p159 hE fun l => ?_
  conv => whnf
  repeat' (first
    | (refine And.intro ?_ ?_; (focus (first | omega | decide | (unfold inI64; omega) | (simp only [List.length_append, List.length_cons, List.length_nil] <;> omega) | (refine ⟨?_, ?_⟩ <;> omega) | (refine ⟨?_, ?_, ?_, ?_, ?_, ?_⟩ <;> first | rfl | trivial | decide | omega | (simp [bytesAV_length] <;> omega)) | (simp <;> omega) | (unfold inI64; simp only [List.length_append, List.length_cons, List.length_nil] <;> omega))); conv => whnf)
    | (refine brD (fun _ => ?_) (fun _ => ?_) <;> first | (exfalso; omega) | (conv => whnf))
    | (refine brB (fun _ => ?_) (fun _ => ?_) <;> conv => whnf))
  · rename_i h
    refine RetG.q ⟨rfl, ?_, rfl⟩
    have h' : t.length ≤ s.length := by omega
    have e : ((s.length : Int) - t.length).toNat = s.length - t.length := by omega
    unfold sufB
    rw [e, decide_eq_true h', Bool.true_and]
  · rename_i h
    refine RetG.q ⟨rfl, ?_, rfl⟩
    have h' : ¬ t.length ≤ s.length := by omega
    unfold sufB
    rw [decide_eq_false h', Bool.false_and]

theorem trimSuffix143 (s t : List UInt8) (hs : s.length < big) (ht : t.length < big) : PCalls E 143 [.str s, .str t] (· = .str (if sufB s t then s.take (s.length - t.length) else s)) := by
  have h := hasSuffix159 hE s t hs ht
  unfold big at hs ht
  have hb : sufB s t = true → t.length ≤ s.length := fun h => by unfold sufB at h; simp at h; exact h.1
  refine p143 hE fun l => ?_
  conv => whnf
  repeat' (first
    | (refine And.intro ?_ ?_; (focus (first | omega | decide | (unfold inI64; omega) | (simp only [List.length_append, List.length_cons, List.length_nil] <;> omega) | (refine ⟨?_, ?_⟩ <;> omega) | (refine ⟨?_, ?_, ?_, ?_, ?_, ?_⟩ <;> first | rfl | trivial | decide | omega | (simp [bytesAV_length] <;> omega)) | (simp <;> omega) | (unfold inI64; simp only [List.length_append, List.length_cons, List.length_nil] <;> omega))); conv => whnf)
    | (refine brD (fun _ => ?_) (fun _ => ?_) <;> first | (exfalso; omega) | (conv => whnf))
    | (refine brB (fun _ => ?_) (fun _ => ?_) <;> conv => whnf)
    | ((first | refine CallG.e (h) ?_ | refine CallD.e (h) ?_ | refine CallQ.e (h) ?_); conv => whnf))
  · rename_i h
    have := hb h
    refine ⟨by omega, ?_⟩
    conv => whnf
    repeat' (first
      | (refine And.intro ?_ ?_; (focus (first | omega | decide | (unfold inI64; omega) | (simp only [List.length_append, List.length_cons, List.length_nil] <;> omega) | (refine ⟨?_, ?_⟩ <;> omega) | (refine ⟨?_, ?_, ?_, ?_, ?_, ?_⟩ <;> first | rfl | trivial | decide | omega | (simp [bytesAV_length] <;> omega)) | (simp <;> omega) | (unfold inI64; simp only [List.length_append, List.length_cons, List.length_nil] <;> omega))); conv => whnf)
      | (refine brD (fun _ => ?_) (fun _ => ?_) <;> first | (exfalso; omega) | (conv => whnf))
      | (refine brB (fun _ => ?_) (fun _ => ?_) <;> conv => whnf))
    refine RetG.q ⟨rfl, ?_, rfl⟩
    have e : ((s.length : Int) - t.length).toNat = s.length - t.length := by omega
    rw [e, if_pos h]
  · rename_i h
    exact RetG.q ⟨rfl, by rw [if_neg (by simp [h])], rfl⟩

theorem trimSuffix (s t : List UInt8) (hs : s.length < big) (ht : t.length < big) : PCalls E 122 [.str s, .str t] (· = .str (if sufB s t then s.take (s.length - t.length) else s)) := by
  refine p122 hE fun l => ?_
  conv => whnf
  repeat' (first
    | (refine And.intro ?_ ?_; (focus (first | omega | decide | (unfold inI64; omega) | (simp only [List.length_append, List.length_cons, List.length_nil] <;> omega) | (refine ⟨?_, ?_⟩ <;> omega) | (refine ⟨?_, ?_, ?_, ?_, ?_, ?_⟩ <;> first | rfl | trivial | decide | omega | (simp [bytesAV_length] <;> omega)) | (simp <;> omega) | (unfold inI64; simp only [List.length_append, List.length_cons, List.length_nil] <;> omega))); conv => whnf)
    | (refine brD (fun _ => ?_) (fun _ => ?_) <;> first | (exfalso; omega) | (conv => whnf))
    | (refine brB (fun _ => ?_) (fun _ => ?_) <;> conv => whnf)
    | ((first | refine CallG.e (trimSuffix143 hE s t hs ht) ?_ | refine CallD.e (trimSuffix143 hE s t hs ht) ?_ | refine CallQ.e (trimSuffix143 hE s t hs ht) ?_); conv => whnf))
  exact RetG.q ⟨rfl, rfl, rfl⟩

omit hE in
theorem dec_dig (u : Nat) : (Lib.decDigits u).all isDig = true ∧ 0 < (Lib.decDigits u).length := by
  induction u using Nat.strongRecOn with
  | _ u ih =>
    have one : ∀ k, k < 10 → isDig (UInt8.ofNat (48 + k)) = true := by decide
    by_cases h : u < 10
    · rw [Lib.decDigits_one h]
      simpa using one u h
    · rw [Lib.decDigits, dif_neg h]
      obtain ⟨h1, h2⟩ := ih (u / 10) (by omega)
      simp only [List.all_append, h1, List.all_cons, List.all_nil, Bool.true_and, Bool.and_true, List.length_append, List.length_cons, List.length_nil]
      exact ⟨one _ (by omega), by omega⟩

omit hE in
theorem dec_len : ∀ (k u : Nat), u < 10 ^ (k + 1) → (Lib.decDigits u).length ≤ k + 1
  | 0, u, h => by rw [Lib.decDigits_one (by simpa using h)]; simp
  | k + 1, u, h => by
    by_cases h1 : u < 10
    · rw [Lib.decDigits_one h1]; simp
    · rw [Lib.decDigits, dif_neg h1]
      have := dec_len k (u / 10) (by rw [Nat.pow_succ] at h; omega)
      simp; omega

omit hE in
/-- a number's digits, four at least, its point, its sign; without noughts at its end -/
def fixB (f : Int) : List UInt8 := if (Lib.decDigits f.natAbs).length ≤ 3 then Lib.repeatL [48] (4 - (Lib.decDigits f.natAbs).length) ++ Lib.decDigits f.natAbs else Lib.decDigits f.natAbs
omit hE in
def fixP (b : List UInt8) : List UInt8 := rtrim (b.take (b.length - 3) ++ [46] ++ b.drop (b.length - 3)) 48
omit hE in
def fixO (b : List UInt8) : List UInt8 := if sufB b [46] then b.take (b.length - 1) else b
omit hE in
def printL (f : Int) : List UInt8 := if f < 0 then 45 :: fixO (fixP (fixB f)) else fixO (fixP (fixB f))

omit hE in
theorem fixO_len (b : List UInt8) : (fixO (fixP b)).length ≤ b.length + 1 ∧ (fixP b).length ≤ b.length + 1 := by
  have h1 : ∀ b : List UInt8, (fixO b).length ≤ b.length := fun b => by unfold fixO; split <;> simp
  have h2 : (fixP b).length ≤ b.length + 1 := by unfold fixP; refine Nat.le_trans (rtrim_len _ _) ?_; simp; omega
  exact ⟨Nat.le_trans (h1 _) h2, h2⟩

theorem trimDot (s : List UInt8) (hs : s.length < big) : PCalls E 122 [.str s, .str [46]] (· = .str (fixO s)) := trimSuffix hE s [46] hs (by decide)

theorem print (hT : TabE E) (f : Int) (hf : mayF f = true) : PCalls E 93 [.int .i64 f] (· = .str (printL f)) := by
  have hS : PCalls E 84 [.imm 1 [[.int .i64 f]]] (· = .bool true) := by simpa [hf] using sane hE [f] (by unfold big; simp)
  have hI := itoa hE hT f
  have hm : -2147483648 ≤ f ∧ f ≤ 2147483648 := by simpa [mayF] using hf
  obtain ⟨hd, hp⟩ := dec_dig f.natAbs
  have hi : Lib.itoa f = if f < 0 then 45 :: Lib.decDigits f.natAbs else Lib.decDigits f.natAbs := by
    unfold Lib.itoa
    by_cases h : f < 0
    · rw [if_pos h, if_pos h]
    · rw [if_neg h, if_neg h]; congr 1; omega
  have hpre : (if List.isPrefixOf [45] (Lib.itoa f) then (Lib.itoa f).drop ([45] : List UInt8).length else Lib.itoa f) = Lib.decDigits f.natAbs ∧ List.isPrefixOf [45] (Lib.itoa f) = decide (f < 0) := by
    rw [hi]
    by_cases h : f < 0
    · simp [h]
    · match hD : Lib.decDigits f.natAbs, hd with
      | [], _ => simp [h]
      | c :: r, hd =>
        have : c ≠ 45 := by
          simp at hd
          intro e; subst e; simp [isDig] at hd
        have e : ((45 : UInt8) == c) = false := by simpa using this.symm
        simp [h, List.isPrefixOf, e]
  have hdl : (Lib.decDigits f.natAbs).length ≤ 10 := dec_len 9 _ (by omega)
  have hlen : (Lib.itoa f).length ≤ 11 := by rw [hi]; split <;> first | (simp only [List.length_cons]; omega) | omega
  have hC := cutPrefix hE (Lib.itoa f) [45] (by unfold big; omega) (by decide)
  rw [hpre.1, hpre.2] at hC
  have hR := repeat_ hE [48] (4 - (Lib.decDigits f.natAbs).length) (by omega) (by decide)
  have hRl : (Lib.repeatL [48] (4 - (Lib.decDigits f.natAbs).length)).length = 4 - (Lib.decDigits f.natAbs).length := by rw [Lib.repeatL_length]; simp
  have hB : fixB f = if (Lib.decDigits f.natAbs).length ≤ 3 then Lib.repeatL [48] (4 - (Lib.decDigits f.natAbs).length) ++ Lib.decDigits f.natAbs else Lib.decDigits f.natAbs := rfl
  unfold printL
  refine p93 hE fun l => ?_
  generalize Lib.decDigits f.natAbs = D at *
  generalize hrr : Lib.repeatL [48] (4 - D.length) = R at *
  have h4 : ((4 - D.length : Nat) : Int) = 4 - (D.length : Int) ∨ 3 < D.length := by omega
  by_cases h3 : D.length ≤ 3
  · rw [if_pos h3] at hB
    have e4 : ((4 - D.length : Nat) : Int) = 4 - (D.length : Int) := by omega
    rw [e4] at hR
    have hbl : (R ++ D).length = 4 := by simp; omega
    have hP : rtrim (List.take (((R ++ D).length : Int) - 3).toNat (R ++ D) ++ [46] ++ List.drop (((R ++ D).length : Int) - 3).toNat (R ++ D)) 48 = fixP (fixB f) := by
      rw [hB]; unfold fixP; rw [show (((R ++ D).length : Int) - 3).toNat = (R ++ D).length - 3 by omega]
    have hO := fixO_len (fixB f)
    rw [← hB] at hbl
    conv => whnf
    repeat' (first
      | (rw [hP]; conv => whnf)
      | (refine And.intro ?_ ?_; (focus (first | omega | decide | (unfold inI64; omega) | (simp only [List.length_append, List.length_cons, List.length_nil] <;> omega) | (refine ⟨?_, ?_⟩ <;> omega) | (refine ⟨?_, ?_, ?_, ?_, ?_, ?_⟩ <;> first | rfl | trivial | decide | omega | (simp [bytesAV_length] <;> omega)) | (simp <;> omega) | (unfold inI64; simp only [List.length_append, List.length_cons, List.length_nil] <;> omega))); conv => whnf)
      | (refine brD (fun _ => ?_) (fun _ => ?_) <;> first | (exfalso; omega) | (conv => whnf))
      | (refine brB (fun _ => ?_) (fun _ => ?_) <;> conv => whnf)
      | ((first | refine CallG.e (hS) ?_ | refine CallD.e (hS) ?_ | refine CallQ.e (hS) ?_); conv => whnf)
      | ((first | refine CallG.e (hI) ?_ | refine CallD.e (hI) ?_ | refine CallQ.e (hI) ?_); conv => whnf)
      | ((first | refine CallG.e (hC) ?_ | refine CallD.e (hC) ?_ | refine CallQ.e (hC) ?_); conv => whnf)
      | ((first | refine CallG.e (hR) ?_ | refine CallD.e (hR) ?_ | refine CallQ.e (hR) ?_); conv => whnf)
      | ((first | refine CallG.e (trimRight1 hE _ 48 (by unfold big; simp; omega) (by decide)) ?_ | refine CallD.e (trimRight1 hE _ 48 (by unfold big; simp; omega) (by decide)) ?_ | refine CallQ.e (trimRight1 hE _ 48 (by unfold big; simp; omega) (by decide)) ?_); conv => whnf)
      | ((first | refine CallG.e (trimDot hE _ (by unfold big; omega)) ?_ | refine CallD.e (trimDot hE _ (by unfold big; omega)) ?_ | refine CallQ.e (trimDot hE _ (by unfold big; omega)) ?_); conv => whnf))
    · exact RetG.q ⟨rfl, by rw [if_pos (by assumption)]; rfl, rfl⟩
    · exact RetG.q ⟨rfl, by rw [if_neg (by assumption)], rfl⟩
  · rw [if_neg h3] at hB
    have hP : rtrim (List.take ((D.length : Int) - 3).toNat D ++ [46] ++ List.drop ((D.length : Int) - 3).toNat D) 48 = fixP (fixB f) := by
      rw [hB]; unfold fixP; rw [show ((D.length : Int) - 3).toNat = D.length - 3 by omega]
    have hO := fixO_len (fixB f)
    have hdl2 := hdl
    rw [← hB] at hdl2
    conv => whnf
    repeat' (first
      | (rw [hP]; conv => whnf)
      | (refine And.intro ?_ ?_; (focus (first | omega | decide | (unfold inI64; omega) | (simp only [List.length_append, List.length_cons, List.length_nil] <;> omega) | (refine ⟨?_, ?_⟩ <;> omega) | (refine ⟨?_, ?_, ?_, ?_, ?_, ?_⟩ <;> first | rfl | trivial | decide | omega | (simp [bytesAV_length] <;> omega)) | (simp <;> omega) | (unfold inI64; simp only [List.length_append, List.length_cons, List.length_nil] <;> omega))); conv => whnf)
      | (refine brD (fun _ => ?_) (fun _ => ?_) <;> first | (exfalso; omega) | (conv => whnf))
      | (refine brB (fun _ => ?_) (fun _ => ?_) <;> conv => whnf)
      | ((first | refine CallG.e (hS) ?_ | refine CallD.e (hS) ?_ | refine CallQ.e (hS) ?_); conv => whnf)
      | ((first | refine CallG.e (hI) ?_ | refine CallD.e (hI) ?_ | refine CallQ.e (hI) ?_); conv => whnf)
      | ((first | refine CallG.e (hC) ?_ | refine CallD.e (hC) ?_ | refine CallQ.e (hC) ?_); conv => whnf)
      | ((first | refine CallG.e (hR) ?_ | refine CallD.e (hR) ?_ | refine CallQ.e (hR) ?_); conv => whnf)
      | ((first | refine CallG.e (trimRight1 hE _ 48 (by unfold big; simp; omega) (by decide)) ?_ | refine CallD.e (trimRight1 hE _ 48 (by unfold big; simp; omega) (by decide)) ?_ | refine CallQ.e (trimRight1 hE _ 48 (by unfold big; simp; omega) (by decide)) ?_); conv => whnf)
      | ((first | refine CallG.e (trimDot hE _ (by unfold big; omega)) ?_ | refine CallD.e (trimDot hE _ (by unfold big; omega)) ?_ | refine CallQ.e (trimDot hE _ (by unfold big; omega)) ?_); conv => whnf))
    · exact RetG.q ⟨rfl, by rw [if_pos (by assumption)]; rfl, rfl⟩
    · exact RetG.q ⟨rfl, by rw [if_neg (by assumption)], rfl⟩
end Ink.D

namespace Ink.D
open Go Go.Proofs
set_option maxRecDepth 100000
set_option linter.unusedSimpArgs false
variable {E : Env} (hE : E.P = Tryd.prog)

include hE
theorem formatBool119 (b : Bool) : PCalls E 119 [.bool b] (· = .str (if b then [116, 114, 117, 101] else [102, 97, 108, 115, 101])) := by
  refine p119 hE fun l => ?_
  cases b
  · conv => whnf
    repeat' (first
      | (refine And.intro ?_ ?_; (focus (first | omega | decide | (unfold inI64; omega) | (simp only [List.length_append, List.length_cons, List.length_nil] <;> omega) | (refine ⟨?_, ?_⟩ <;> omega) | (refine ⟨?_, ?_, ?_, ?_, ?_, ?_⟩ <;> first | rfl | trivial | decide | omega | (simp [bytesAV_length] <;> omega)) | (simp <;> omega) | (unfold inI64; simp only [List.length_append, List.length_cons, List.length_nil] <;> omega))); conv => whnf)
      | (refine brD (fun _ => ?_) (fun _ => ?_) <;> first | (exfalso; omega) | (conv => whnf))
      | (refine brB (fun _ => ?_) (fun _ => ?_) <;> conv => whnf))
    exact RetG.q ⟨rfl, rfl, rfl⟩
  · conv => whnf
    repeat' (first
      | (refine And.intro ?_ ?_; (focus (first | omega | decide | (unfold inI64; omega) | (simp only [List.length_append, List.length_cons, List.length_nil] <;> omega) | (refine ⟨?_, ?_⟩ <;> omega) | (refine ⟨?_, ?_, ?_, ?_, ?_, ?_⟩ <;> first | rfl | trivial | decide | omega | (simp [bytesAV_length] <;> omega)) | (simp <;> omega) | (unfold inI64; simp only [List.length_append, List.length_cons, List.length_nil] <;> omega))); conv => whnf)
      | (refine brD (fun _ => ?_) (fun _ => ?_) <;> first | (exfalso; omega) | (conv => whnf))
      | (refine brB (fun _ => ?_) (fun _ => ?_) <;> conv => whnf))
    exact RetG.q ⟨rfl, rfl, rfl⟩

theorem formatBool (b : Bool) : PCalls E 91 [.bool b] (· = .str (if b then [116, 114, 117, 101] else [102, 97, 108, 115, 101])) := by
  refine p91 hE fun l => ?_
  conv => whnf
  repeat' (first
    | (refine And.intro ?_ ?_; (focus (first | omega | decide | (unfold inI64; omega) | (simp only [List.length_append, List.length_cons, List.length_nil] <;> omega) | (refine ⟨?_, ?_⟩ <;> omega) | (refine ⟨?_, ?_, ?_, ?_, ?_, ?_⟩ <;> first | rfl | trivial | decide | omega | (simp [bytesAV_length] <;> omega)) | (simp <;> omega) | (unfold inI64; simp only [List.length_append, List.length_cons, List.length_nil] <;> omega))); conv => whnf)
    | (refine brD (fun _ => ?_) (fun _ => ?_) <;> first | (exfalso; omega) | (conv => whnf))
    | (refine brB (fun _ => ?_) (fun _ => ?_) <;> conv => whnf)
    | ((first | refine CallG.e (formatBool119 hE b) ?_ | refine CallD.e (formatBool119 hE b) ?_ | refine CallQ.e (formatBool119 hE b) ?_); conv => whnf))
  exact RetG.q ⟨rfl, rfl, rfl⟩

theorem nested (k : Int) : PCalls E 138 [.int .i64 k] (· = .bool (decide (k = 5 ∨ k = 6 ∨ k = 8))) := by
  refine p138 hE fun l => ?_
  conv => whnf
  repeat' (first
    | (refine And.intro ?_ ?_; (focus (first | omega | decide | (unfold inI64; omega) | (simp only [List.length_append, List.length_cons, List.length_nil] <;> omega) | (refine ⟨?_, ?_⟩ <;> omega) | (refine ⟨?_, ?_, ?_, ?_, ?_, ?_⟩ <;> first | rfl | trivial | decide | omega | (simp [bytesAV_length] <;> omega)) | (simp <;> omega) | (unfold inI64; simp only [List.length_append, List.length_cons, List.length_nil] <;> omega))); conv => whnf)
    | (refine brD (fun _ => ?_) (fun _ => ?_) <;> first | (exfalso; omega) | (conv => whnf))
    | (refine brB (fun _ => ?_) (fun _ => ?_) <;> conv => whnf))
  all_goals
    refine RetG.q ⟨rfl, ?_, rfl⟩
    refine congrArg AV.bool ?_
    first | (rw [decide_eq_true (by omega)]; done) | (symm; rw [decide_eq_false (by omega)]; done) | (symm; rw [decide_eq_true (by omega)]; done) | (rw [decide_eq_decide]; omega)

omit hE in
def shapeL (k n f : Int) : Int :=
  if k = 0 ∨ k = 3 ∨ k = 4 ∨ k = 5 then 0
  else if k = 1 then (if bits .andNot .i64 n 1 = 0 then 0 else 1)
  else if k = 2 then (if bits .andNot .i64 n 1 = 0 ∧ ¬ (n = 1 ∧ f.tmod 1000 ≠ 0) then 0 else 1)
  else if k = 7 then (if n < 0 ∨ f < 0 ∨ f.tmod 1000 ≠ 0 then 1 else 0)
  else 1

theorem shape (k n f : Int) (s : List UInt8) (l : List Ob) (d : List (List UInt8 × Ob)) (deep : Int) (h6 : k ≠ 6) (h8 : k ≠ 8) :
    PCalls E 116 [.agg (obC (.mk k n f s l d)), .int .i64 deep] (· = .int .i64 (shapeL k n f)) := by
  refine p116 hE (fun l => ?_) (by simp [hbL, hb, obC_hb])
  unfold obC
  conv => whnf
  repeat' (first
    | (refine And.intro ?_ ?_; (focus (first | omega | decide | (unfold inI64; omega) | (simp only [List.length_append, List.length_cons, List.length_nil] <;> omega) | (refine ⟨?_, ?_⟩ <;> omega) | (refine ⟨?_, ?_, ?_, ?_, ?_, ?_⟩ <;> first | rfl | trivial | decide | omega | (simp [bytesAV_length] <;> omega)) | (simp <;> omega) | (unfold inI64; simp only [List.length_append, List.length_cons, List.length_nil] <;> omega))); conv => whnf)
    | (refine brD (fun _ => ?_) (fun _ => ?_) <;> first | (exfalso; omega) | (conv => whnf))
    | (refine brB (fun _ => ?_) (fun _ => ?_) <;> conv => whnf))
  all_goals
    refine RetG.drop rfl rfl rfl ⟨rfl, congrArg (AV.int .i64) ?_, rfl⟩
    unfold shapeL
    (repeat' split) <;> first | rfl | omega

omit hE in
def sizeL (k n f : Int) (nl nd : Nat) (deep : Int) : Int :=
  if (k = 2 ∧ mayF f = false) ∨ (k = 7 ∧ (mayF f = false ∨ n > 2147483)) then 2
  else if ¬ (k = 5 ∨ k = 6 ∨ k = 8) then 0
  else if (if k = 5 then nl else nd) > 1024 then 6
  else if deep ≥ 64 then 5 else 0

theorem size (k n f : Int) (s : List UInt8) (l_ : List Ob) (d : List (List UInt8 × Ob)) (deep : Int) (hnl : l_.length < big) (hnd : d.length < big) :
    PCalls E 117 [.agg (obC (.mk k n f s l_ d)), .int .i64 deep] (· = .int .i64 (sizeL k n f l_.length d.length deep)) := by
  have hS : PCalls E 84 [.imm 1 [[.int .i64 f]]] (· = .bool (mayF f)) := by simpa using sane hE [f] (by unfold big; simp)
  unfold big at hnl hnd
  have hl : (obL l_).length = l_.length := by rw [obL_map]; simp
  have hd : (obD d).length = d.length := by rw [obD_map]; simp
  refine p117 hE (fun l => ?_) (by simp [hbL, hb, obC_hb])
  unfold obC
  generalize obL l_ = L at *
  generalize obD d = D at *
  rw [← hl, ← hd]
  conv => whnf
  repeat' (first
    | (refine And.intro ?_ ?_; (focus (first | omega | decide | (unfold inI64; omega) | (simp only [List.length_append, List.length_cons, List.length_nil] <;> omega) | (refine ⟨?_, ?_⟩ <;> omega) | (refine ⟨?_, ?_, ?_, ?_, ?_, ?_⟩ <;> first | rfl | trivial | decide | omega | (simp [bytesAV_length] <;> omega)) | (simp <;> omega) | (unfold inI64; simp only [List.length_append, List.length_cons, List.length_nil] <;> omega))); conv => whnf)
    | (refine brD (fun _ => ?_) (fun _ => ?_) <;> first | (exfalso; omega) | (conv => whnf))
    | (refine brB (fun _ => ?_) (fun _ => ?_) <;> conv => whnf)
    | ((first | refine CallG.e (hS) ?_ | refine CallD.e (hS) ?_ | refine CallQ.e (hS) ?_); conv => whnf)
    | ((first | refine CallG.e (nested hE k) ?_ | refine CallD.e (nested hE k) ?_ | refine CallQ.e (nested hE k) ?_); conv => whnf))
  all_goals
    refine RetG.drop rfl rfl rfl ⟨rfl, congrArg (AV.int .i64) ?_, rfl⟩
    simp only [Bool.not_eq_true', Bool.not_eq_false', decide_eq_true_eq, decide_eq_false_iff_not] at *
    unfold sizeL
    (repeat' split) <;> first | rfl | omega | (exfalso; simp_all; done) | (exfalso; simp_all; omega)
end Ink.D

namespace Ink.D
open Go Go.Proofs
set_option maxRecDepth 100000
set_option linter.unusedSimpArgs false
variable {E : Env} (hE : E.P = Tryd.prog)

mutual
def saneL : Ob → Int → Int
  | .mk k n f _ l d, deep => if shapeL k n f ≠ 0 then shapeL k n f else if sizeL k n f l.length d.length deep ≠ 0 then sizeL k n f l.length d.length deep else if k = 5 then saneLs l (deep + 1) else 0
def saneLs : List Ob → Int → Int
  | [], _ => 0
  | o :: r, deep => if saneL o deep ≠ 0 then saneL o deep else saneLs r deep
end

mutual
/-- no dictionaries in it -/
def noD : Ob → Bool
  | .mk k _ _ _ l d => decide (k ≠ 6) && decide (k ≠ 8) && decide (l.length < big) && decide (d.length < big) && noDs l
def noDs : List Ob → Bool
  | [] => true
  | o :: r => noD o && noDs r
end

theorem noDs_at : ∀ {l : List Ob} {k : Nat} (h : k < l.length), noDs l = true → noD l[k] = true
  | o :: r, 0, _, h => by simp [noDs] at h; exact h.1
  | o :: r, k + 1, hk, h => by simp [noDs] at h; exact noDs_at (l := r) (by simpa using hk) h.2

theorem saneLs_append (deep : Int) : ∀ (a b : List Ob), saneLs (a ++ b) deep = if saneLs a deep ≠ 0 then saneLs a deep else saneLs b deep
  | [], b => by simp [saneLs]
  | o :: r, b => by
    simp only [List.cons_append, saneLs, saneLs_append deep r b]
    split <;> simp_all

theorem saneLs_hit {l : List Ob} {deep : Int} {x : Nat} (hx : x < l.length) (h0 : saneLs (l.take x) deep = 0) (h1 : saneL l[x] deep ≠ 0) : saneLs l deep = saneL l[x] deep := by
  conv => lhs; rw [← List.take_append_drop x l, List.drop_eq_getElem_cons hx]
  rw [saneLs_append, if_neg (by simp [h0]), saneLs, if_pos h1]

theorem saneLs_next {l : List Ob} {deep : Int} {x : Nat} (hx : x < l.length) (h0 : saneLs (l.take x) deep = 0) (h1 : saneL l[x] deep = 0) : saneLs (l.take (x + 1)) deep = 0 := by
  rw [List.take_succ_eq_append_getElem hx, saneLs_append, if_neg (by simp [h0])]
  simp [saneLs, h1]

theorem obD_len (d : List (List UInt8 × Ob)) : (obD d).length = d.length := by rw [obD_map]; simp

include hE
theorem inside (k n f : Int) (s : List UInt8) (l_ : List Ob) (d : List (List UInt8 × Ob)) (h6 : k ≠ 6) (h8 : k ≠ 8) :
    PCalls E 118 [.agg (obC (.mk k n f s l_ d))] (· = if k = 5 then .imm 6 (obL l_) else .lit (.slice none 0 0)) := by
  refine p118 hE (fun l => ?_) (by simp [hbL, hb, obC_hb])
  have hL := obL_hb (n0 := 0) l_
  have hL1 := obL_hb (n0 := 1) l_
  unfold obC
  generalize obL l_ = L at *
  generalize obD d = D at *
  conv => whnf
  repeat' (first
    | (refine And.intro ?_ ?_; (focus (first | omega | decide | (unfold inI64; omega) | (simp only [List.length_append, List.length_cons, List.length_nil] <;> omega) | (refine ⟨?_, ?_⟩ <;> omega) | (refine ⟨?_, ?_, ?_, ?_, ?_, ?_⟩ <;> first | rfl | trivial | decide | omega | (simp [bytesAV_length] <;> omega)) | (simp <;> omega) | (unfold inI64; simp only [List.length_append, List.length_cons, List.length_nil] <;> omega))); conv => whnf)
    | (refine brD (fun _ => ?_) (fun _ => ?_) <;> first | (exfalso; omega) | (conv => whnf))
    | (refine brB (fun _ => ?_) (fun _ => ?_) <;> conv => whnf))
  · refine RetG.drop hL1 rfl rfl ⟨hL, by rw [if_pos (by assumption)], rfl⟩
  · refine RetG.drop rfl rfl rfl ⟨rfl, by rw [if_neg (by assumption)], rfl⟩


set_option maxHeartbeats 1000000 in
theorem sane90 : ∀ (m : Nat) (o : Ob), sizeOf o < m → noD o = true → ∀ deep, 0 ≤ deep → deep ≤ 64 → PCalls E 90 [.agg (obC o), .int .i64 deep] (· = .int .i64 (saneL o deep))
  | 0, _, h, _, _, _, _ => absurd h (Nat.not_lt_zero _)
  | m + 1, .mk k n f s l_ d, hm, hno, deep, hd0, hd1 => by
    have hno' : ((k ≠ 6 ∧ k ≠ 8) ∧ l_.length < big) ∧ d.length < big := by simp only [noD, Bool.and_eq_true, decide_eq_true_eq] at hno; exact ⟨⟨⟨hno.1.1.1.1, hno.1.1.1.2⟩, hno.1.1.2⟩, hno.1.2⟩
    have hnos : noDs l_ = true := by simp only [noD, Bool.and_eq_true] at hno; exact hno.2
    obtain ⟨⟨⟨h6, h8⟩, hnl⟩, hnd⟩ := hno'
    have hSh := shape hE k n f s l_ d deep h6 h8
    have hSz := size hE k n f s l_ d deep hnl hnd
    have hIn := inside hE k n f s l_ d h6 h8
    have hlen := obL_len l_
    have hsz0 : k = 5 → sizeL k n f l_.length d.length deep = 0 → deep < 64 := by
      intro h5 h
      unfold sizeL at h
      (repeat' split at h) <;> omega
    have hit := fun (x : Nat) (hx : x < l_.length) => saneLs_hit (deep := deep + 1) hx
    have nxt := fun (x : Nat) (hx : x < l_.length) => saneLs_next (deep := deep + 1) hx
    have hL : ∀ n0, hbLL n0 (obL l_) = true := fun n0 => obL_hb l_
    have hD : ∀ n0, hbLL n0 (obD d) = true := fun n0 => obD_hb d
    have ih : ∀ (x : Nat) (hx : x < l_.length), 0 ≤ deep + 1 → deep + 1 ≤ 64 → PCalls E 90 [.agg (obC l_[x]), .int .i64 (deep + 1)] (· = .int .i64 (saneL l_[x] (deep + 1))) := fun x hx a b =>
      sane90 m _ (by
        have := List.sizeOf_lt_of_mem (List.getElem_mem hx)
        simp only [Ob.mk.sizeOf_spec] at hm
        omega) (noDs_at hx hnos) _ a b
    refine p90 hE (fun l => ?_) (by simp [hbL, hb, obC_hb])
    unfold saneL
    unfold obC at hSh hSz hIn ⊢
    unfold big at hnl hnd
    by_cases h5 : k = 5
    · rw [if_pos h5] at hIn
      conv => whnf
      repeat' (first
        | (refine And.intro ?_ ?_; (focus (first | omega | decide | (unfold inI64; omega) | (simp only [List.length_append, List.length_cons, List.length_nil] <;> omega) | (refine ⟨?_, ?_⟩ <;> omega) | (refine ⟨?_, ?_, ?_, ?_, ?_, ?_⟩ <;> first | rfl | trivial | decide | omega | (simp [bytesAV_length] <;> omega)) | (simp <;> omega) | (unfold inI64; simp only [List.length_append, List.length_cons, List.length_nil] <;> omega))); conv => whnf)
        | (refine brD (fun _ => ?_) (fun _ => ?_) <;> first | (exfalso; omega) | (conv => whnf))
        | (refine brB (fun _ => ?_) (fun _ => ?_) <;> conv => whnf)
        | ((first | refine CallG.e (hSh) ?_ | refine CallD.e (hSh) ?_ | refine CallQ.e (hSh) ?_ | refine CallP.e (hSh) ?_); conv => whnf)
        | ((first | refine CallG.e (hSz) ?_ | refine CallD.e (hSz) ?_ | refine CallQ.e (hSz) ?_ | refine CallP.e (hSz) ?_); conv => whnf)
        | ((first | refine CallG.e (hIn) ?_ | refine CallD.e (hIn) ?_ | refine CallQ.e (hIn) ?_ | refine CallP.e (hIn) ?_); conv => whnf))
      · exact RetG.drop rfl rfl rfl ⟨rfl, by rw [if_pos (by assumption)], rfl⟩
      · exact RetG.drop rfl rfl rfl ⟨rfl, by rw [if_neg (by assumption), if_pos (by assumption)], rfl⟩
      rename_i h1 h2
      rw [if_neg h1, if_neg h2]
      rw [if_pos h5]
      have hd := hsz0 h5 (by omega)
      refine LoopG.s (fun x : Nat => x ≤ l_.length ∧ saneLs (l_.take x) (deep + 1) = 0) 37 (fun x => [(1, .int .i64 deep), (2, .ptr 1 0 0), (4, .int .i64 0), (23, .imm 6 (obL l_)), (24, .int .i64 (obL l_).length), (25, .int .i64 x)]) (fun _ => [⟨0, true, .frame l⟩, ⟨0, true, .cells 47 [.int .i64 k, .int .i64 n, .int .i64 f, .str s, .imm 6 (obL l_), .imm 7 (obD d)]⟩]) (fun x => l_.length - x) 0 ⟨by simp, by simp [saneLs]⟩ rfl ⟨rfl, rfl, rfl, rfl, rfl, rfl⟩ rfl ?_
      rintro x ⟨i1, i2⟩
      by_cases hx : x < l_.length
      · have hg := obL_at hx
        have hC := ih x hx (by omega) (by omega)
        have hh := hit x hx i2
        have hn := nxt x hx i2
        have hcl : ∃ c0 c1 c2 c3 c4 c5, obC l_[x] = [c0, c1, c2, c3, c4, c5] := by cases l_[x]; exact ⟨_, _, _, _, _, _, rfl⟩
        obtain ⟨c0, c1, c2, c3, c4, c5, hc⟩ := hcl
        rw [hc] at hg hC
        generalize saneL l_[x] (deep + 1) = e at *
        conv => whnf
        repeat' (first
          | (rw [hg]; conv => whnf)
          | (refine And.intro ?_ ?_; (focus (first | omega | decide | (unfold inI64; omega) | (simp only [List.length_append, List.length_cons, List.length_nil] <;> omega) | (refine ⟨?_, ?_⟩ <;> omega) | (refine ⟨?_, ?_, ?_, ?_, ?_, ?_⟩ <;> first | rfl | trivial | decide | omega | (simp [bytesAV_length] <;> omega)) | (simp <;> omega) | (unfold inI64; simp only [List.length_append, List.length_cons, List.length_nil] <;> omega))); conv => whnf)
          | (refine brD (fun _ => ?_) (fun _ => ?_) <;> first | (exfalso; omega) | (conv => whnf))
          | (refine brB (fun _ => ?_) (fun _ => ?_) <;> conv => whnf)
          | ((first | refine CallG.e (hC) ?_ | refine CallD.e (hC) ?_ | refine CallQ.e (hC) ?_ | refine CallP.e (hC) ?_); conv => whnf))
        · exact RetG.drop rfl rfl rfl ⟨rfl, by rw [hh (by assumption)], rfl⟩
        · exact ⟨x + 1, ⟨⟨by omega, hn (by omega)⟩, by omega⟩, Wk.cut 2 rfl rfl rfl ⟨⟨_, rfl, .same _ rfl⟩, ⟨_, rfl, .same _ rfl⟩, ⟨_, rfl, .same _ rfl⟩, ⟨_, rfl, .same _ (hL 2)⟩, ⟨_, rfl, .same _ rfl⟩, ⟨_, rfl, .same _ rfl⟩, trivial⟩ rfl (by simp [hbH, hbB, hbL, hb, hL, hD])⟩
      · conv => whnf
        repeat' (first
          | (refine And.intro ?_ ?_; (focus (first | omega | decide | (unfold inI64; omega) | (simp only [List.length_append, List.length_cons, List.length_nil] <;> omega) | (refine ⟨?_, ?_⟩ <;> omega) | (refine ⟨?_, ?_, ?_, ?_, ?_, ?_⟩ <;> first | rfl | trivial | decide | omega | (simp [bytesAV_length] <;> omega)) | (simp <;> omega) | (unfold inI64; simp only [List.length_append, List.length_cons, List.length_nil] <;> omega))); conv => whnf)
          | (refine brD (fun _ => ?_) (fun _ => ?_) <;> first | (exfalso; omega) | (conv => whnf))
          | (refine brB (fun _ => ?_) (fun _ => ?_) <;> conv => whnf))
        have : x = l_.length := by omega
        subst this
        rw [List.take_length] at i2
        exact RetG.drop rfl rfl rfl ⟨rfl, by rw [i2], rfl⟩
    · rw [if_neg h5] at hIn
      conv => whnf
      repeat' (first
        | (refine And.intro ?_ ?_; (focus (first | omega | decide | (unfold inI64; omega) | (simp only [List.length_append, List.length_cons, List.length_nil] <;> omega) | (refine ⟨?_, ?_⟩ <;> omega) | (refine ⟨?_, ?_, ?_, ?_, ?_, ?_⟩ <;> first | rfl | trivial | decide | omega | (simp [bytesAV_length] <;> omega)) | (simp <;> omega) | (unfold inI64; simp only [List.length_append, List.length_cons, List.length_nil] <;> omega))); conv => whnf)
        | (refine brD (fun _ => ?_) (fun _ => ?_) <;> first | (exfalso; omega) | (conv => whnf))
        | (refine brB (fun _ => ?_) (fun _ => ?_) <;> conv => whnf)
        | ((first | refine CallG.e (hSh) ?_ | refine CallD.e (hSh) ?_ | refine CallQ.e (hSh) ?_ | refine CallP.e (hSh) ?_); conv => whnf)
        | ((first | refine CallG.e (hSz) ?_ | refine CallD.e (hSz) ?_ | refine CallQ.e (hSz) ?_ | refine CallP.e (hSz) ?_); conv => whnf)
        | ((first | refine CallG.e (hIn) ?_ | refine CallD.e (hIn) ?_ | refine CallQ.e (hIn) ?_ | refine CallP.e (hIn) ?_); conv => whnf))
      · exact RetG.drop rfl rfl rfl ⟨rfl, by rw [if_pos (by assumption)], rfl⟩
      · exact RetG.drop rfl rfl rfl ⟨rfl, by rw [if_neg (by assumption), if_pos (by assumption)], rfl⟩
      rename_i h1 h2
      rw [if_neg h1, if_neg h2]
      rw [if_neg h5]
      refine LoopG.s (fun x : Nat => x = 0) 37 (fun x => [(4, .int .i64 0), (23, .lit (.slice none 0 0)), (24, .int .i64 0), (25, .int .i64 0)]) (fun _ => [⟨0, true, .frame l⟩, ⟨0, true, .cells 47 [.int .i64 k, .int .i64 n, .int .i64 f, .str s, .imm 6 (obL l_), .imm 7 (obD d)]⟩]) (fun x => x) 0 rfl rfl ⟨rfl, rfl, rfl, rfl⟩ rfl ?_
      rintro x -
      conv => whnf
      repeat' (first
        | (refine And.intro ?_ ?_; (focus (first | omega | decide | (unfold inI64; omega) | (simp only [List.length_append, List.length_cons, List.length_nil] <;> omega) | (refine ⟨?_, ?_⟩ <;> omega) | (refine ⟨?_, ?_, ?_, ?_, ?_, ?_⟩ <;> first | rfl | trivial | decide | omega | (simp [bytesAV_length] <;> omega)) | (simp <;> omega) | (unfold inI64; simp only [List.length_append, List.length_cons, List.length_nil] <;> omega))); conv => whnf)
        | (refine brD (fun _ => ?_) (fun _ => ?_) <;> first | (exfalso; omega) | (conv => whnf))
        | (refine brB (fun _ => ?_) (fun _ => ?_) <;> conv => whnf))
      exact RetG.drop rfl rfl rfl ⟨rfl, rfl, rfl⟩

theorem sane60 (o : Ob) (hno : noD o = true) : PCalls E 60 [.agg (obC o)] (· = .int .i64 (saneL o 0)) := by
  have h := sane90 hE _ o (Nat.lt_succ_self _) hno 0 (by decide) (by decide)
  refine p60 hE (fun l => ?_) (by simp [hbL, hb, obC_hb])
  cases o with
  | mk k n f s l_ d =>
    unfold obC at h ⊢
    conv => whnf
    repeat' (first
      | (refine And.intro ?_ ?_; (focus (first | omega | decide | (unfold inI64; omega) | (simp only [List.length_append, List.length_cons, List.length_nil] <;> omega) | (refine ⟨?_, ?_⟩ <;> omega) | (refine ⟨?_, ?_, ?_, ?_, ?_, ?_⟩ <;> first | rfl | trivial | decide | omega | (simp [bytesAV_length] <;> omega)) | (simp <;> omega) | (unfold inI64; simp only [List.length_append, List.length_cons, List.length_nil] <;> omega))); conv => whnf)
      | (refine brD (fun _ => ?_) (fun _ => ?_) <;> first | (exfalso; omega) | (conv => whnf))
      | (refine brB (fun _ => ?_) (fun _ => ?_) <;> conv => whnf)
      | ((first | refine CallG.e (h) ?_ | refine CallD.e (h) ?_ | refine CallQ.e (h) ?_ | refine CallP.e (h) ?_); conv => whnf))
    exact RetG.drop rfl rfl rfl ⟨rfl, rfl, rfl⟩
end Ink.D
