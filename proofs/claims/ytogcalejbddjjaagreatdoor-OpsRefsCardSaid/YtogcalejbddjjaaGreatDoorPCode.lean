import Derived.Test.YtogcalejbddjjaaGreatDoorInkBB
set_option linter.all false
namespace Ink.D
open Go
abbrev aT := AOpd.tmp
abbrev aN (n : Int) : AOpd := .av (.int .i64 n)
abbrev aI (d : Nat) (o : AOp) : AO := ⟨some d, o, none, false⟩
abbrev aJ (o : AOp) : AO := ⟨none, o, none, false⟩
abbrev aM (d s : Nat) : AO := ⟨some d, .move (.tmp s), none, false⟩
abbrev aG (d g : Nat) (b : Bool) (o : AOp) : AO := ⟨some d, o, some (g, b), false⟩
abbrev aR (l : List AO) : AC := .region l false
/-- inkstand/inkstandlaw05.WriteIs -/
def ac3 : AF := ⟨73, [.tmp 6], .seq (aR [aI 5 (.box 26 (aT 2)), aI 6 (.move (.av (.bool false)))]) (.seq (aR [aI 16 (.call (.av (.fn (.func 17) [] [])) []),
 aM 7 16]) (.seq (.seq (aR [aI 17 (.load (some 6) (aT 5)), aI 18 (.call (.av (.fn (.func 18) [] [])) [(aT 17), (aN 3000)]), aI 19 (.un .not false (aT 18))])
 (.cond (aT 19) (.seq (aR [aM 20 7, aM 6 20]) (.ret)) (.skip))) (.seq (aR [aI 22 (.load (some 6) (aT 5)), aI 23 (.call (.av (.fn (.func 19) [] [])) [(aT 22)]),
 aM 21 23, aI 24 (.extract (aT 21) 0), aI 25 (.extract (aT 21) 1), aM 8 24, aM 9 25]) (.seq (aR [aI 27 (.load (some 6) (aT 5)),
 aI 28 (.call (.av (.fn (.func 20) [] [])) [(aT 27)]), aM 26 28, aI 29 (.extract (aT 26) 0), aI 30 (.extract (aT 26) 1), aM 10 29, aM 11 30]) (.seq (aR [aM 32 0,
 aM 33 1, aI 34 (.load (some 6) (aT 5)), aI 35 (.call (.av (.fn (.func 21) [] [])) [(aT 32), (aT 33), (aT 34)]), aM 31 35, aI 36 (.extract (aT 31) 0), aI 37 (.extract (aT 31) 1),
 aM 12 36, aM 13 37]) (.seq (aR [aM 39 0, aM 40 1, aI 41 (.load (some 6) (aT 5)), aI 42 (.call (.av (.fn (.func 22) [] [])) [(aT 39), (aT 40), (aT 41)]), aM 38 42,
 aI 43 (.extract (aT 38) 0), aI 44 (.extract (aT 38) 1), aM 14 43, aM 15 44]) (.seq (.region [aM 45 7, aM 46 45, aG 47 46 true (.move (aT 8)), aG 48 46 true (.move (aT 10)),
 aG 49 46 true (.bin .eql .other false (aT 47) (aT 48)), aI 50 (.pick (aT 46) (aT 49) (.av (.bool false))), aM 51 50, aG 52 51 true (.move (aT 9)), aG 53 51 true (.move (aT 11)),
 aG 54 51 true (.bin .eql .other true (aT 52) (aT 53)), aI 55 (.pick (aT 51) (aT 54) (.av (.bool false))), aM 56 55, aG 57 56 true (.move (aT 12)), aG 58 56 true (.move (aT 14)),
 aG 59 56 true (.bin .eql .other false (aT 57) (aT 58)), aI 60 (.pick (aT 56) (aT 59) (.av (.bool false))), aM 61 60, aG 62 61 true (.move (aT 13)), aG 63 61 true (.move (aT 15)),
 aG 64 61 true (.bin .eql .other true (aT 62) (aT 63)), aI 65 (.pick (aT 61) (aT 64) (.av (.bool false))), aM 66 65, aG 67 66 true (.load (some 6) (aT 5)),
 ⟨(some 68), .call (.av (.fn (.func 23) [] [])) [(aT 67)], (some (66, true)), true⟩, aG 69 66 true (.load (some 6) (aT 5)),
 aG 70 66 true (.call (.av (.fn (.func 24) [] [])) [(aT 69)]), aG 71 66 true (.bin .eql .other true (aT 68) (aT 70)), aI 72 (.pick (aT 66) (aT 71) (.av (.bool false))),
 aM 6 72] true) (.ret))))))))⟩
/-- inkstand/inkstandlaw05.WriteBack -/
def ac4 : AF := ⟨80, [.tmp 2], .seq (aR [aI 1 (.box 26 (aT 0)), aI 2 (.move (.av (.bool false)))]) (.seq (aR [aI 11 (.call (.av (.fn (.func 17) [] [])) []),
 aM 3 11]) (.seq (.seq (aR [aI 12 (.load (some 6) (aT 1)), aI 13 (.call (.av (.fn (.func 18) [] [])) [(aT 12), (aN 3000)]), aI 14 (.un .not false (aT 13)), aM 15 14,
 aG 16 15 false (.load (some 6) (aT 1)), aG 17 15 false (.call (.av (.fn (.func 25) [] [])) [(aT 16)]), aG 18 15 false (.un .not false (aT 17)),
 aI 19 (.pick (aT 15) (.av (.bool true)) (aT 18))]) (.cond (aT 19) (.seq (aR [aM 20 3, aM 2 20]) (.ret)) (.skip))) (.seq (aR [aI 22 (.load (some 6) (aT 1)),
 aI 23 (.call (.av (.fn (.func 19) [] [])) [(aT 22)]), aM 21 23, aI 24 (.extract (aT 21) 0), aI 25 (.extract (aT 21) 1), aM 4 24, aM 5 25]) (.seq (.seq (aR [aM 26 5,
 aI 27 (.bin .neq .other true (aT 26) (aN 0))]) (.cond (aT 27) (.seq (aR [aM 28 3, aM 29 28, aG 30 29 true (.move (aT 4)),
 aG 31 29 true (.bin .eql .other false (aT 30) (.av (.str []))), aI 32 (.pick (aT 29) (aT 31) (.av (.bool false))), aM 33 32, aG 34 33 true (.move (aT 5)),
 aG 35 33 true (.load (some 6) (aT 1)), aG 36 33 true (.call (.av (.fn (.func 23) [] [])) [(aT 35)]), aG 37 33 true (.bin .eql .other true (aT 34) (aT 36)),
 aG 38 33 true (.move (aT 37)), aG 39 38 false (.fieldAddr 0 (aT 1)), aG 40 38 false (.load none (aT 39)), aG 41 38 false (.bin .eql .other true (aT 40) (aN 8)),
 aG 42 33 true (.pick (aT 38) (.av (.bool true)) (aT 41)), aI 43 (.pick (aT 33) (aT 42) (.av (.bool false))), aM 2 43]) (.ret)) (.skip))) (.seq (aR [aM 45 4,
 aI 46 (.call (.av (.fn (.func 26) [] [])) [(aT 45), (aN 0)]), aM 44 46, aI 47 (.extract (aT 44) 0), aI 48 (.extract (aT 44) 1), aI 49 (.extract (aT 44) 2),
 aI 6 (.alloc 26 [(.int .i64 0), (.int .i64 0), (.int .i64 0), (.str []), (.lit (.slice none 0 0)), (.lit (.slice none 0 0))]), aJ (.store 6 (aT 6) (aT 47)), aM 7 48,
 aM 8 49]) (.seq (aR [aI 51 (.load (some 6) (aT 6)), aI 52 (.call (.av (.fn (.func 19) [] [])) [(aT 51)]), aM 50 52, aI 53 (.extract (aT 50) 0),
 aI 54 (.extract (aT 50) 1), aM 9 53, aM 10 54]) (.seq (aR [aM 55 3, aM 56 55, aG 57 56 true (.move (aT 8)), aG 58 56 true (.bin .eql .other true (aT 57) (aN 0)),
 aI 59 (.pick (aT 56) (aT 58) (.av (.bool false))), aM 60 59, aG 61 60 true (.move (aT 7)), aG 62 60 true (.move (aT 4)), aG 63 60 true (.len .str (aT 62)),
 aG 64 60 true (.bin .eql .other true (aT 61) (aT 63)), aI 65 (.pick (aT 60) (aT 64) (.av (.bool false))), aM 66 65, aG 67 66 true (.load (some 6) (aT 6)),
 aG 68 66 true (.load (some 6) (aT 1)), aG 69 66 true (.call (.av (.fn (.func 27) [] [])) [(aT 67), (aT 68)]), aI 70 (.pick (aT 66) (aT 69) (.av (.bool false))), aM 71 70,
 aG 72 71 true (.move (aT 9)), aG 73 71 true (.move (aT 4)), aG 74 71 true (.bin .eql .other false (aT 72) (aT 73)), aI 75 (.pick (aT 71) (aT 74) (.av (.bool false))), aM 76 75,
 aG 77 76 true (.move (aT 10)), aG 78 76 true (.bin .eql .other true (aT 77) (aN 0)), aI 79 (.pick (aT 76) (aT 78) (.av (.bool false))), aM 2 79]) (.ret))))))))⟩
/-- inkstand/inkstandlaw17.AppearFrames -/
def ac5 : AF := ⟨95, [.tmp 10], .seq (aR [aI 10 (.move (.av (.bool false)))]) (.seq (aR [aI 16 (.call (.av (.fn (.func 28) [] [])) []), aM 11 16])
 (.seq (aR [aM 17 0, aI 18 (.bin .and .other true (aT 17) (aN 1023)), aI 19 (.bin .mul .other true (aN 1000) (aT 18)), aI 20 (.bin .add .other true (aN 1000) (aT 19)),
 aM 21 1, aI 22 (.bin .and .other true (aT 21) (aN 1023)), aI 23 (.bin .mul .other true (aN 1000) (aT 22)), aI 24 (.bin .add .other true (aN 1000) (aT 23)), aM 25 4,
 aI 26 (.bin .and .other true (aT 25) (aN 3)), aI 27 (.bin .mul .other true (aN 1000) (aT 26)),
 aI 28 (.build [(.int .i64 0), (.int .i64 0), (.int .i64 0), (.lit (.slice none 0 0)), (.lit (.slice none 0 0))] [(0, 1, (aT 20)), (1, 1, (aT 24)), (2, 1, (aT 27))]),
 aI 12 (.alloc 41 [(.int .i64 0), (.int .i64 0), (.int .i64 0), (.lit (.slice none 0 0)), (.lit (.slice none 0 0))]), aJ (.store 5 (aT 12) (aT 28))])
 (.seq (aR [aI 13 (.move (aN 0))]) (.seq (.seq (aR [aM 29 2]) (.cond (aT 29)
 (.seq (aR [aI 30 (.buildSlice false 22 1 1 [(.int .i64 0)] [(0, (aN 500))]), aI 31 (.fieldAddr 3 (aT 12)), aJ (.store 1 (aT 31) (aT 30))]) (aR [aM 32 13,
 aI 33 (.bin .add .other true (aT 32) (aN 5)), aM 13 33])) (.skip))) (.seq (.seq (aR [aM 34 3]) (.cond (aT 34)
 (aR [aI 35 (.buildSlice false 22 1 3 [(.int .i64 0)] [(0, (aN 0)), (1, (aN 0)), (2, (aN 0))]), aI 36 (.fieldAddr 4 (aT 12)), aJ (.store 1 (aT 36) (aT 35))]) (.skip)))
 (.seq (.seq (aR [aM 37 3, aM 38 37, aG 39 38 true (.move (aT 4)), aG 40 38 true (.bin .and .other true (aT 39) (aN 3)), aG 41 38 true (.bin .gtr .other true (aT 40) (aN 0)),
 aI 42 (.pick (aT 38) (aT 41) (.av (.bool false)))]) (.cond (aT 42) (aR [aM 43 13, aI 44 (.bin .add .other true (aT 43) (aN 6)), aM 13 44]) (.skip)))
 (.seq (aR [aI 46 (.load (some 5) (aT 12)), aI 47 (.call (.av (.fn (.func 29) [] [])) [(aT 46)]), aM 45 47, aI 48 (.extract (aT 45) 0), aI 49 (.extract (aT 45) 1), aM 14 48,
 aM 15 49]) (.seq (.seq (aR [aM 50 15, aI 51 (.bin .neq .other true (aT 50) (aN 0)), aM 52 51, aG 53 52 false (.move (aT 14)), aG 54 52 false (.len (.slice 2) (aT 53)),
 aG 55 52 false (.move (aT 13)), aG 56 52 false (.bin .neq .other true (aT 54) (aT 55)), aI 57 (.pick (aT 52) (.av (.bool true)) (aT 56)), aM 58 57,
 aG 59 58 false (.move (aT 14)), aG 60 58 false (.call (.av (.fn (.func 30) [] [])) [(aT 59)]), aG 61 58 false (.un .not false (aT 60)),
 aI 62 (.pick (aT 58) (.av (.bool true)) (aT 61))]) (.cond (aT 62) (.seq (aR [aI 10 (.move (.av (.bool false)))]) (.ret)) (.skip))) (.seq (aR [aM 63 11,
 aM 64 63, aG 65 64 true (.move (aT 13)), aG 66 64 true (.bin .eql .other true (aT 65) (aN 0)), aG 67 64 true (.move (aT 66)), aG 68 67 false (.move (aT 14)),
 aG 69 67 false (.indexAddr none 2 (aT 68) (aN 0)), aG 70 67 false (.fieldAddr 0 (aT 69)), aG 71 67 false (.load none (aT 70)),
 aG 72 67 false (.bin .eql .other false (aT 71) (.av (.str [113]))), aG 73 67 false (.move (aT 72)), aG 74 73 true (.move (aT 14)), aG 75 73 true (.move (aT 13)),
 aG 76 73 true (.bin .sub .other true (aT 75) (aN 1)), aG 77 73 true (.indexAddr none 2 (aT 74) (aT 76)), aG 78 73 true (.fieldAddr 0 (aT 77)), aG 79 73 true (.load none (aT 78)),
 aG 80 73 true (.bin .eql .other false (aT 79) (.av (.str [81]))), aG 81 67 false (.pick (aT 73) (aT 80) (.av (.bool false))), aG 82 67 false (.move (aT 81)),
 aG 83 82 true (.move (aT 2)), aG 84 82 true (.un .not false (aT 83)), aG 85 82 true (.move (aT 84)), aG 86 85 false (.move (aT 14)),
 aG 87 85 false (.indexAddr none 2 (aT 86) (aN 3)), aG 88 85 false (.fieldAddr 0 (aT 87)), aG 89 85 false (.load none (aT 88)),
 aG 90 85 false (.bin .eql .other false (aT 89) (.av (.str [102]))), aG 91 82 true (.pick (aT 85) (.av (.bool true)) (aT 90)),
 aG 92 67 false (.pick (aT 82) (aT 91) (.av (.bool false))), aG 93 64 true (.pick (aT 67) (.av (.bool true)) (aT 92)), aI 94 (.pick (aT 64) (aT 93) (.av (.bool false))),
 aM 10 94]) (.ret))))))))))⟩
/-- inkstand/inkstandlaw17.AppearStyled -/
def ac6 : AF := ⟨116, [.tmp 6], .seq (aR [aI 6 (.move (.av (.bool false)))]) (.seq (aR [aI 17 (.call (.av (.fn (.func 28) [] [])) []), aM 7 17])
 (.seq (aR [aM 18 0, aI 19 (.bin .and .other true (aT 18) (aN 7)), aM 20 0, aI 21 (.bin .and .other true (aT 20) (aN 7)), aI 22 (.bin .add .other true (aT 21) (aN 1)),
 aI 23 (.slice .str (.av (.str [65, 66, 67, 68, 69, 70, 71, 72])) (some (aT 19)) (some (aT 22))), aM 8 23]) (.seq (aR [aM 24 1,
 aI 25 (.bin .and .other true (aT 24) (aN 63)), aI 26 (.bin .mul .other true (aN 500) (aT 25)), aM 9 26]) (.seq (aR [aM 27 2,
 aI 28 (.bin .and .other true (aT 27) (aN 7)), aI 29 (.bin .mul .other true (aN 100) (aT 28)), aM 10 29]) (.seq (aR [aM 30 9,
 aI 31 (.build [(.int .i64 0), (.int .i64 0), (.int .i64 0), (.str []), (.lit (.slice none 0 0)), (.lit (.slice none 0 0))] [(0, 1, (aN 2)), (2, 1, (aT 30))]),
 aI 11 (.alloc 26 [(.int .i64 0), (.int .i64 0), (.int .i64 0), (.str []), (.lit (.slice none 0 0)), (.lit (.slice none 0 0))]), aJ (.store 6 (aT 11) (aT 31))])
 (.seq (aR [aM 32 10,
 aI 33 (.build [(.int .i64 0), (.int .i64 0), (.int .i64 0), (.str []), (.lit (.slice none 0 0)), (.lit (.slice none 0 0))] [(0, 1, (aN 2)), (2, 1, (aT 32))]),
 aI 12 (.alloc 26 [(.int .i64 0), (.int .i64 0), (.int .i64 0), (.str []), (.lit (.slice none 0 0)), (.lit (.slice none 0 0))]), aJ (.store 6 (aT 12) (aT 33))])
 (.seq (aR [aI 35 (.load (some 6) (aT 11)),
 aI 36 (.buildSlice false 26 6 1 [(.int .i64 0), (.int .i64 0), (.int .i64 0), (.str []), (.lit (.slice none 0 0)), (.lit (.slice none 0 0))] [(0, (aT 35))]),
 aI 37 (.build [(.str []), (.lit (.slice none 0 0))] [(0, 1, (.av (.str [103]))), (1, 1, (aT 36))]),
 aI 38 (.build [(.int .i64 0), (.int .i64 0), (.int .i64 0), (.str []), (.lit (.slice none 0 0)), (.lit (.slice none 0 0))] [(0, 1, (aN 3)), (3, 1, (.av (.str [90])))]),
 aI 39 (.load (some 6) (aT 11)),
 aI 40 (.buildSlice false 26 6 2 [(.int .i64 0), (.int .i64 0), (.int .i64 0), (.str []), (.lit (.slice none 0 0)), (.lit (.slice none 0 0))] [(0, (aT 38)), (1, (aT 39))]),
 aI 41 (.build [(.str []), (.lit (.slice none 0 0))] [(0, 1, (.av (.str [84, 102]))), (1, 1, (aT 40))]),
 aI 42 (.build [(.str []), (.lit (.slice none 0 0))] [(0, 1, (.av (.str [120])))]), aM 43 8,
 aI 44 (.build [(.int .i64 0), (.int .i64 0), (.int .i64 0), (.str []), (.lit (.slice none 0 0)), (.lit (.slice none 0 0))] [(0, 1, (aN 3)), (3, 1, (aT 43))]),
 aI 45 (.load (some 6) (aT 11)),
 aI 46 (.buildSlice false 26 6 2 [(.int .i64 0), (.int .i64 0), (.int .i64 0), (.str []), (.lit (.slice none 0 0)), (.lit (.slice none 0 0))] [(0, (aT 44)), (1, (aT 45))]),
 aI 47 (.build [(.str []), (.lit (.slice none 0 0))] [(0, 1, (.av (.str [84, 102]))), (1, 1, (aT 46))]), aI 48 (.load (some 6) (aT 12)),
 aI 49 (.buildSlice false 26 6 1 [(.int .i64 0), (.int .i64 0), (.int .i64 0), (.str []), (.lit (.slice none 0 0)), (.lit (.slice none 0 0))] [(0, (aT 48))]),
 aI 50 (.build [(.str []), (.lit (.slice none 0 0))] [(0, 1, (.av (.str [103]))), (1, 1, (aT 49))]),
 aI 51 (.buildSlice false 47 2 5 [(.str []), (.lit (.slice none 0 0))] [(0, (aT 37)), (1, (aT 41)), (2, (aT 42)), (3, (aT 47)), (4, (aT 50))]),
 aI 52 (.call (.av (.fn (.func 31) [] [])) [(aT 51)]), aM 34 52, aI 53 (.extract (aT 34) 0), aI 54 (.extract (aT 34) 1), aM 13 53, aM 14 54]) (.seq (aR [aM 56 13,
 aI 57 (.call (.av (.fn (.func 32) [] [])) [(aT 56)]), aM 55 57, aI 58 (.extract (aT 55) 0), aI 59 (.extract (aT 55) 1),
 aI 15 (.alloc 51 [(.str []), (.int .i64 0), (.lit (.slice none 0 0))]), aJ (.store 3 (aT 15) (aT 58)), aM 16 59]) (.seq (aR [aM 60 7, aM 61 60,
 aG 62 61 true (.move (aT 14)), aG 63 61 true (.bin .eql .other true (aT 62) (aN 0)), aI 64 (.pick (aT 61) (aT 63) (.av (.bool false))), aM 65 64, aG 66 65 true (.move (aT 16)),
 aG 67 65 true (.bin .eql .other true (aT 66) (aN 0)), aI 68 (.pick (aT 65) (aT 67) (.av (.bool false))), aM 69 68, aG 70 69 true (.fieldAddr 0 (aT 15)),
 aG 71 69 true (.load none (aT 70)), aG 72 69 true (.move (aT 8)), aG 73 69 true (.bin .eql .other false (aT 71) (aT 72)), aI 74 (.pick (aT 69) (aT 73) (.av (.bool false))),
 aM 75 74, aG 76 75 true (.fieldAddr 1 (aT 15)), aG 77 75 true (.load none (aT 76)), aG 78 75 true (.move (aT 9)), aG 79 75 true (.bin .eql .other true (aT 77) (aT 78)),
 aI 80 (.pick (aT 75) (aT 79) (.av (.bool false))), aM 81 80, aG 82 81 true (.fieldAddr 2 (aT 15)), aG 83 81 true (.load none (aT 82)), aG 84 81 true (.len (.slice 2) (aT 83)),
 aG 85 81 true (.bin .eql .other true (aT 84) (aN 1)), aI 86 (.pick (aT 81) (aT 85) (.av (.bool false))), aM 87 86, aG 88 87 true (.fieldAddr 2 (aT 15)),
 aG 89 87 true (.load none (aT 88)), aG 90 87 true (.indexAddr none 2 (aT 89) (aN 0)), aG 91 87 true (.fieldAddr 0 (aT 90)), aG 92 87 true (.load none (aT 91)),
 aG 93 87 true (.bin .eql .other false (aT 92) (.av (.str [103]))), aI 94 (.pick (aT 87) (aT 93) (.av (.bool false))), aM 95 94, aG 96 95 true (.fieldAddr 2 (aT 15)),
 aG 97 95 true (.load none (aT 96)), aG 98 95 true (.indexAddr none 2 (aT 97) (aN 0)), aG 99 95 true (.fieldAddr 1 (aT 98)), aG 100 95 true (.load none (aT 99)),
 aG 101 95 true (.len (.slice 6) (aT 100)), aG 102 95 true (.bin .eql .other true (aT 101) (aN 1)), aI 103 (.pick (aT 95) (aT 102) (.av (.bool false))), aM 104 103,
 aG 105 104 true (.fieldAddr 2 (aT 15)), aG 106 104 true (.load none (aT 105)), aG 107 104 true (.indexAddr none 2 (aT 106) (aN 0)), aG 108 104 true (.fieldAddr 1 (aT 107)),
 aG 109 104 true (.load none (aT 108)), aG 110 104 true (.indexAddr none 6 (aT 109) (aN 0)), aG 111 104 true (.fieldAddr 2 (aT 110)), aG 112 104 true (.load none (aT 111)),
 aG 113 104 true (.move (aT 10)), aG 114 104 true (.bin .eql .other true (aT 112) (aT 113)), aI 115 (.pick (aT 104) (aT 114) (.av (.bool false))), aM 6 115])
 (.ret))))))))))⟩
/-- inkstand/inkstandlaw08.XrefWrites -/
def ac7 : AF := ⟨54, [.tmp 4], .seq (aR [aI 4 (.move (.av (.bool false)))]) (.seq (aR [aI 10 (.call (.av (.fn (.func 33) [] [])) []), aM 5 10])
 (.seq (.seq (aR [aM 11 0, aI 12 (.len (.slice 4) (aT 11)), aI 13 (.bin .gtr .other true (aT 12) (aN 60)), aM 14 13, aG 15 14 false (.move (aT 1)),
 aG 16 14 false (.len (.slice 4) (aT 15)), aG 17 14 false (.bin .gtr .other true (aT 16) (aN 60)), aI 18 (.pick (aT 14) (.av (.bool true)) (aT 17))]) (.cond (aT 18)
 (.seq (aR [aM 19 5, aM 4 19]) (.ret)) (.skip))) (.seq (aR [aM 21 0, aI 22 (.call (.av (.fn (.func 34) [] [])) [(aT 21)]), aM 20 22, aI 23 (.extract (aT 20) 0),
 aI 24 (.extract (aT 20) 1), aM 6 23, aM 7 24]) (.seq (aR [aM 26 0, aI 27 (.call (.av (.fn (.func 36) [] [])) [(aT 26)]),
 aI 28 (.call (.av (.fn (.func 35) [] [])) [(aT 27)]), aM 25 28, aI 29 (.extract (aT 25) 0), aI 30 (.extract (aT 25) 1), aM 8 29, aM 9 30]) (.seq (aR [aM 31 5,
 aM 32 31, aG 33 32 true (.move (aT 6)), aG 34 32 true (.move (aT 8)), aG 35 32 true (.bin .eql .other false (aT 33) (aT 34)), aI 36 (.pick (aT 32) (aT 35) (.av (.bool false))),
 aM 37 36, aG 38 37 true (.move (aT 7)), aG 39 37 true (.move (aT 9)), aG 40 37 true (.bin .eql .other true (aT 38) (aT 39)), aI 41 (.pick (aT 37) (aT 40) (.av (.bool false))),
 aM 42 41, aG 43 42 true (.move (aT 0)), aG 44 42 true (.move (aT 1)), aG 45 42 true (.call (.av (.fn (.func 38) [] [])) [(aT 43), (aT 44)]),
 aG 46 42 true (.call (.av (.fn (.func 36) [] [])) [(aT 45)]), aG 47 42 true (.move (aT 0)), aG 48 42 true (.call (.av (.fn (.func 36) [] [])) [(aT 47)]),
 aG 49 42 true (.move (aT 1)), aG 50 42 true (.call (.av (.fn (.func 36) [] [])) [(aT 49)]), aG 51 42 true (.call (.av (.fn (.func 39) [] [])) [(aT 48), (aT 50)]),
 aG 52 42 true (.call (.av (.fn (.func 37) [] [])) [(aT 46), (aT 51)]), aI 53 (.pick (aT 42) (aT 52) (.av (.bool false))), aM 4 53]) (.ret))))))⟩
/-- inkstand/inkstandlaw08.XrefStarts -/
def ac9 : AF := ⟨58, [.tmp 4], .seq (aR [aI 4 (.move (.av (.bool false)))]) (.seq (aR [aI 10 (.call (.av (.fn (.func 33) [] [])) []), aM 5 10])
 (.seq (.seq (aR [aM 11 0, aI 12 (.len .str (aT 11)), aI 13 (.bin .gtr .other true (aT 12) (aN 1000))]) (.cond (aT 13) (.seq (aR [aM 14 5, aM 4 14]) (.ret))
 (.skip))) (.seq (aR [aM 15 1, aI 16 (.bin .and .other true (aT 15) (aN 63)), aM 6 16]) (.seq (.region [aM 17 0,
 aI 18 (.bin .add .other false (aT 17) (.av (.str [10, 115, 116, 97, 114, 116, 120, 114, 101, 102, 10]))), aM 19 6, aI 20 (.bin .quo .other true (aT 19) (aN 10)), aM 21 6,
 aI 22 (.bin .quo .other true (aT 21) (aN 10)), aI 23 (.bin .add .other true (aT 22) (aN 1)),
 aI 24 (.slice .str (.av (.str [48, 49, 50, 51, 52, 53, 54, 55, 56, 57])) (some (aT 20)) (some (aT 23))), aI 25 (.bin .add .other false (aT 18) (aT 24)), aM 26 6,
 aI 27 (.bin .rem .other true (aT 26) (aN 10)), aM 28 6, aI 29 (.bin .rem .other true (aT 28) (aN 10)), aI 30 (.bin .add .other true (aT 29) (aN 1)),
 aI 31 (.slice .str (.av (.str [48, 49, 50, 51, 52, 53, 54, 55, 56, 57])) (some (aT 27)) (some (aT 30))), aI 32 (.bin .add .other false (aT 25) (aT 31)),
 aI 33 (.bin .add .other false (aT 32) (.av (.str [10, 37, 37, 69, 79, 70]))), aM 7 33] true) (.seq (aR [aM 35 7, aI 36 (.call (.av (.fn (.func 40) [] [])) [(aT 35)]),
 aM 34 36, aI 37 (.extract (aT 34) 0), aI 38 (.extract (aT 34) 1), aM 8 37, aM 9 38]) (.seq (.seq (aR [aM 39 6, aM 40 7, aI 41 (.len .str (aT 40)),
 aI 42 (.bin .gtr .other true (aT 39) (aT 41))]) (.cond (aT 42) (.seq (aR [aM 43 5, aM 44 43, aG 45 44 true (.move (aT 9)),
 aG 46 44 true (.bin .eql .other true (aT 45) (aN 2)), aI 47 (.pick (aT 44) (aT 46) (.av (.bool false))), aM 4 47]) (.ret)) (.skip))) (.seq (aR [aM 48 5, aM 49 48,
 aG 50 49 true (.move (aT 9)), aG 51 49 true (.bin .eql .other true (aT 50) (aN 0)), aI 52 (.pick (aT 49) (aT 51) (.av (.bool false))), aM 53 52, aG 54 53 true (.move (aT 8)),
 aG 55 53 true (.move (aT 6)), aG 56 53 true (.bin .eql .other true (aT 54) (aT 55)), aI 57 (.pick (aT 53) (aT 56) (.av (.bool false))), aM 4 57]) (.ret))))))))⟩
/-- inkstand/inkstandlaw11.OpsRefs -/
def ac12 : AF := ⟨141, [.tmp 4], .seq (aR [aI 4 (.move (.av (.bool false)))]) (.seq (aR [aI 14 (.call (.av (.fn (.func 42) [] [])) []), aM 5 14])
 (.seq (aR [aM 15 0, aI 16 (.bin .and .other true (aT 15) (aN 7)), aM 6 16]) (.seq (aR [aM 17 1, aI 18 (.bin .and .other true (aT 17) (aN 7)), aM 7 18])
 (.seq (.region [aM 19 6, aM 20 6, aI 21 (.bin .add .other true (aT 20) (aN 1)), aI 22 (.slice .str (.av (.str [48, 49, 50, 51, 52, 53, 54, 55])) (some (aT 19)) (some (aT 21))),
 aI 23 (.bin .add .other false (aT 22) (.av (.str [32]))), aM 24 7, aM 25 7, aI 26 (.bin .add .other true (aT 25) (aN 1)),
 aI 27 (.slice .str (.av (.str [48, 49, 50, 51, 52, 53, 54, 55])) (some (aT 24)) (some (aT 26))), aI 28 (.bin .add .other false (aT 23) (aT 27)),
 aI 29 (.bin .add .other false (aT 28) (.av (.str [32, 82]))), aM 8 29] true) (.seq (aR [aM 31 8, aI 32 (.bin .add .other false (aT 31) (.av (.str [32, 91]))), aM 33 8,
 aI 34 (.bin .add .other false (aT 32) (aT 33)), aI 35 (.bin .add .other false (aT 34) (.av (.str [93, 32, 120]))), aI 36 (.call (.av (.fn (.func 43) [] [])) [(aT 35)]), aM 30 36,
 aI 37 (.extract (aT 30) 0), aI 38 (.extract (aT 30) 1), aM 9 37, aM 10 38]) (.seq (.seq (aR [aM 39 10, aI 40 (.bin .neq .other true (aT 39) (aN 0)), aM 41 40,
 aG 42 41 false (.move (aT 9)), aG 43 41 false (.len (.slice 2) (aT 42)), aG 44 41 false (.bin .neq .other true (aT 43) (aN 2)), aI 45 (.pick (aT 41) (.av (.bool true)) (aT 44)),
 aM 46 45, aG 47 46 false (.move (aT 9)), aG 48 46 false (.indexAddr none 2 (aT 47) (aN 0)), aG 49 46 false (.fieldAddr 1 (aT 48)), aG 50 46 false (.load none (aT 49)),
 aG 51 46 false (.len (.slice 6) (aT 50)), aG 52 46 false (.bin .neq .other true (aT 51) (aN 2)), aI 53 (.pick (aT 46) (.av (.bool true)) (aT 52)), aM 54 53,
 aG 55 54 false (.move (aT 9)), aG 56 54 false (.indexAddr none 2 (aT 55) (aN 1)), aG 57 54 false (.fieldAddr 1 (aT 56)), aG 58 54 false (.load none (aT 57)),
 aG 59 54 false (.len (.slice 6) (aT 58)), aG 60 54 false (.bin .neq .other true (aT 59) (aN 1)), aI 61 (.pick (aT 54) (.av (.bool true)) (aT 60)), aM 62 61,
 aG 63 62 false (.move (aT 9)), aG 64 62 false (.indexAddr none 2 (aT 63) (aN 1)), aG 65 62 false (.fieldAddr 1 (aT 64)), aG 66 62 false (.load none (aT 65)),
 aG 67 62 false (.indexAddr none 6 (aT 66) (aN 0)), aG 68 62 false (.fieldAddr 4 (aT 67)), aG 69 62 false (.load none (aT 68)), aG 70 62 false (.len (.slice 6) (aT 69)),
 aG 71 62 false (.bin .neq .other true (aT 70) (aN 1)), aI 72 (.pick (aT 62) (.av (.bool true)) (aT 71))]) (.cond (aT 72)
 (.seq (aR [aI 4 (.move (.av (.bool false)))]) (.ret)) (.skip))) (.seq (aR [aM 73 9, aI 74 (.indexAddr none 2 (aT 73) (aN 1)), aI 75 (.fieldAddr 1 (aT 74)),
 aI 76 (.load none (aT 75)), aI 77 (.indexAddr none 6 (aT 76) (aN 0)), aI 78 (.fieldAddr 4 (aT 77)), aI 79 (.load none (aT 78)), aI 80 (.indexAddr none 6 (aT 79) (aN 0)),
 aI 81 (.load (some 6) (aT 80)), aI 11 (.alloc 26 [(.int .i64 0), (.int .i64 0), (.int .i64 0), (.str []), (.lit (.slice none 0 0)), (.lit (.slice none 0 0))]),
 aJ (.store 6 (aT 11) (aT 81))]) (.seq (aR [aM 83 9, aI 84 (.call (.av (.fn (.func 31) [] [])) [(aT 83)]), aM 82 84, aI 85 (.extract (aT 82) 0),
 aI 86 (.extract (aT 82) 1), aM 12 85, aM 13 86]) (.seq (aR [aM 87 5, aM 88 87, aG 89 88 true (.move (aT 9)), aG 90 88 true (.indexAddr none 2 (aT 89) (aN 0)),
 aG 91 88 true (.fieldAddr 0 (aT 90)), aG 92 88 true (.load none (aT 91)), aG 93 88 true (.bin .eql .other false (aT 92) (.av (.str [82]))),
 aI 94 (.pick (aT 88) (aT 93) (.av (.bool false))), aM 95 94, aG 96 95 true (.move (aT 9)), aG 97 95 true (.indexAddr none 2 (aT 96) (aN 0)), aG 98 95 true (.fieldAddr 1 (aT 97)),
 aG 99 95 true (.load none (aT 98)), aG 100 95 true (.indexAddr none 6 (aT 99) (aN 0)), aG 101 95 true (.fieldAddr 2 (aT 100)), aG 102 95 true (.load none (aT 101)),
 aG 103 95 true (.move (aT 6)), aG 104 95 true (.bin .mul .other true (aN 1000) (aT 103)), aG 105 95 true (.bin .eql .other true (aT 102) (aT 104)),
 aI 106 (.pick (aT 95) (aT 105) (.av (.bool false))), aM 107 106, aG 108 107 true (.move (aT 9)), aG 109 107 true (.indexAddr none 2 (aT 108) (aN 0)),
 aG 110 107 true (.fieldAddr 1 (aT 109)), aG 111 107 true (.load none (aT 110)), aG 112 107 true (.indexAddr none 6 (aT 111) (aN 1)), aG 113 107 true (.fieldAddr 2 (aT 112)),
 aG 114 107 true (.load none (aT 113)), aG 115 107 true (.move (aT 7)), aG 116 107 true (.bin .mul .other true (aN 1000) (aT 115)),
 aG 117 107 true (.bin .eql .other true (aT 114) (aT 116)), aI 118 (.pick (aT 107) (aT 117) (.av (.bool false))), aM 119 118, aG 120 119 true (.fieldAddr 0 (aT 11)),
 aG 121 119 true (.load none (aT 120)), aG 122 119 true (.bin .eql .other true (aT 121) (aN 7)), aI 123 (.pick (aT 119) (aT 122) (.av (.bool false))), aM 124 123,
 aG 125 124 true (.fieldAddr 1 (aT 11)), aG 126 124 true (.load none (aT 125)), aG 127 124 true (.move (aT 6)), aG 128 124 true (.bin .eql .other true (aT 126) (aT 127)),
 aI 129 (.pick (aT 124) (aT 128) (.av (.bool false))), aM 130 129, aG 131 130 true (.fieldAddr 2 (aT 11)), aG 132 130 true (.load none (aT 131)), aG 133 130 true (.move (aT 7)),
 aG 134 130 true (.bin .mul .other true (aN 1000) (aT 133)), aG 135 130 true (.bin .eql .other true (aT 132) (aT 134)), aI 136 (.pick (aT 130) (aT 135) (.av (.bool false))),
 aM 137 136, aG 138 137 true (.move (aT 13)), aG 139 137 true (.bin .eql .other true (aT 138) (aN 1)), aI 140 (.pick (aT 137) (aT 139) (.av (.bool false))), aM 4 140])
 (.ret))))))))))⟩
/-- inkstand/inkstandlaw11.OpsCounts -/
def ac13 : AF := ⟨81, [.tmp 2], .seq (aR [aI 2 (.move (.av (.bool false)))]) (.seq (aR [aI 12 (.call (.av (.fn (.func 42) [] [])) []), aM 3 12])
 (.seq (aR [aM 13 0, aI 14 (.bin .and .other true (aT 13) (aN 127)), aM 4 14]) (.seq (aR [aI 5 (.move (.av (.str [])))])
 (.seq (aR [aI 15 (.build [(.str []), (.lit (.slice none 0 0))] [(0, 1, (.av (.str [120])))]), aI 6 (.alloc 47 [(.str []), (.lit (.slice none 0 0))]),
 aJ (.store 2 (aT 6) (aT 15))]) (.seq (.seq (aR [aI 7 (.move (aN 0))]) (.block 0 (.loop (.seq (.seq (aR [aM 16 7, aM 17 4,
 aI 18 (.bin .lss .other true (aT 16) (aT 17))]) (.cond (aT 18) (.skip) (.exit 0))) (.seq (.block 1 (.seq (aR [aM 21 5,
 aI 22 (.bin .add .other false (aT 21) (.av (.str [49, 32]))), aM 5 22]) (aR [aI 23 (.fieldAddr 1 (aT 6)), aI 24 (.load none (aT 23)),
 aI 25 (.build [(.int .i64 0), (.int .i64 0), (.int .i64 0), (.str []), (.lit (.slice none 0 0)), (.lit (.slice none 0 0))] [(0, 1, (aN 2)), (2, 1, (aN 1000)), (1, 1, (aN 1))]),
 aI 26 (.buildSlice false 26 6 1 [(.int .i64 0), (.int .i64 0), (.int .i64 0), (.str []), (.lit (.slice none 0 0)), (.lit (.slice none 0 0))] [(0, (aT 25))]),
 aI 27 (.append 26 6 88 [(.int .i64 0), (.int .i64 0), (.int .i64 0), (.str []), (.lit (.slice none 0 0)), (.lit (.slice none 0 0))] (aT 24) (aT 26)), aI 28 (.fieldAddr 1 (aT 6)),
 aJ (.store 1 (aT 28) (aT 27))]))) (aR [aM 19 7, aI 20 (.bin .add .other true (aT 19) (aN 1)), aM 7 20])))))) (.seq (aR [aM 30 5,
 aI 31 (.bin .add .other false (aT 30) (.av (.str [120]))), aI 32 (.call (.av (.fn (.func 43) [] [])) [(aT 31)]), aM 29 32, aI 33 (.extract (aT 29) 0), aI 34 (.extract (aT 29) 1),
 aM 8 33, aM 9 34]) (.seq (aR [aI 36 (.load (some 2) (aT 6)), aI 37 (.buildSlice false 47 2 1 [(.str []), (.lit (.slice none 0 0))] [(0, (aT 36))]),
 aI 38 (.call (.av (.fn (.func 31) [] [])) [(aT 37)]), aM 35 38, aI 39 (.extract (aT 35) 0), aI 40 (.extract (aT 35) 1), aM 10 39, aM 11 40]) (.seq (.seq (aR [aM 41 4,
 aI 42 (.bin .gtr .other true (aT 41) (aN 64))]) (.cond (aT 42) (.seq (aR [aM 43 3, aM 44 43, aG 45 44 true (.move (aT 9)),
 aG 46 44 true (.bin .eql .other true (aT 45) (aN 6)), aI 47 (.pick (aT 44) (aT 46) (.av (.bool false))), aM 48 47, aG 49 48 true (.move (aT 11)),
 aG 50 48 true (.bin .eql .other true (aT 49) (aN 6)), aI 51 (.pick (aT 48) (aT 50) (.av (.bool false))), aM 2 51]) (.ret)) (.skip))) (.seq (aR [aM 52 3, aM 53 52,
 aG 54 53 true (.move (aT 9)), aG 55 53 true (.bin .eql .other true (aT 54) (aN 0)), aI 56 (.pick (aT 53) (aT 55) (.av (.bool false))), aM 57 56, aG 58 57 true (.move (aT 8)),
 aG 59 57 true (.len (.slice 2) (aT 58)), aG 60 57 true (.bin .eql .other true (aT 59) (aN 1)), aI 61 (.pick (aT 57) (aT 60) (.av (.bool false))), aM 62 61,
 aG 63 62 true (.move (aT 8)), aG 64 62 true (.indexAddr none 2 (aT 63) (aN 0)), aG 65 62 true (.fieldAddr 1 (aT 64)), aG 66 62 true (.load none (aT 65)),
 aG 67 62 true (.len (.slice 6) (aT 66)), aG 68 62 true (.move (aT 4)), aG 69 62 true (.bin .eql .other true (aT 67) (aT 68)), aI 70 (.pick (aT 62) (aT 69) (.av (.bool false))),
 aM 71 70, aG 72 71 true (.move (aT 11)), aG 73 71 true (.bin .eql .other true (aT 72) (aN 0)), aI 74 (.pick (aT 71) (aT 73) (.av (.bool false))), aM 75 74,
 aG 76 75 true (.move (aT 10)), aG 77 75 true (.move (aT 5)), aG 78 75 true (.bin .add .other false (aT 77) (.av (.str [120, 10]))),
 aG 79 75 true (.bin .eql .other false (aT 76) (aT 78)), aI 80 (.pick (aT 75) (aT 79) (.av (.bool false))), aM 2 80]) (.ret))))))))))⟩
/-- inkstand/write.Object -/
def ac19 : AF := ⟨21, [.tmp 2, .tmp 3], .seq (aR [aI 1 (.box 26 (aT 0)), aI 2 (.move (.av (.str []))), aI 3 (.move (aN 0))]) (.seq (aR [aI 6 (.load (some 6) (aT 1)),
 aI 7 (.call (.av (.fn (.func 23) [] [])) [(aT 6)]), aM 4 7]) (.seq (.seq (aR [aM 8 4, aI 9 (.bin .eql .other true (aT 8) (aN 0)), aM 10 9,
 aG 11 10 true (.fieldAddr 0 (aT 1)), aG 12 10 true (.load none (aT 11)), aG 13 10 true (.bin .eql .other true (aT 12) (aN 8)),
 aI 14 (.pick (aT 10) (aT 13) (.av (.bool false)))]) (.cond (aT 14) (aR [aI 4 (.move (aN 1))]) (.skip))) (.seq (.seq (aR [aM 15 4,
 aI 16 (.bin .neq .other true (aT 15) (aN 0))]) (.cond (aT 16) (.seq (aR [aM 17 4, aI 2 (.move (.av (.str []))), aM 3 17]) (.ret)) (.skip)))
 (.seq (aR [aI 5 (.bld 90 5)]) (.seq (aR [aI 18 (.load (some 6) (aT 1)), aI 19 (.call (.av (.fn (.func 52) [] [])) [(aT 5), (aT 18)])])
 (.seq (aR [aI 20 (.call (.av (.fn (.func 53) [] [])) [(aT 5)]), aM 2 20, aI 3 (.move (aN 0))]) (.ret)))))))⟩
/-- inkstand/inkstandref05.Object -/
def ac20 : AF := ⟨19, [.tmp 2, .tmp 3], .seq (aR [aI 1 (.box 26 (aT 0)), aI 2 (.move (.av (.str []))), aI 3 (.move (aN 0))]) (.seq (aR [aI 5 (.load (some 6) (aT 1)),
 aI 6 (.call (.av (.fn (.func 24) [] [])) [(aT 5)]), aM 4 6]) (.seq (.seq (aR [aM 7 4, aI 8 (.bin .eql .other true (aT 7) (aN 0)), aM 9 8,
 aG 10 9 true (.fieldAddr 0 (aT 1)), aG 11 9 true (.load none (aT 10)), aG 12 9 true (.bin .eql .other true (aT 11) (aN 8)),
 aI 13 (.pick (aT 9) (aT 12) (.av (.bool false)))]) (.cond (aT 13) (aR [aI 4 (.move (aN 1))]) (.skip))) (.seq (.seq (aR [aM 14 4,
 aI 15 (.bin .neq .other true (aT 14) (aN 0))]) (.cond (aT 15) (.seq (aR [aM 16 4, aI 2 (.move (.av (.str []))), aM 3 16]) (.ret)) (.skip)))
 (.seq (aR [aI 17 (.load (some 6) (aT 1)), aI 18 (.call (.av (.fn (.func 54) [] [])) [(aT 17)]), aM 2 18, aI 3 (.move (aN 0))]) (.ret)))))⟩
/-- inkstand/write.Sane -/
def ac23 : AF := ⟨5, [.tmp 2], .seq (aR [aI 1 (.box 26 (aT 0)), aI 2 (.move (aN 0))]) (.seq (aR [aI 3 (.load (some 6) (aT 1)),
 aI 4 (.call (.av (.fn (.func 62) [] [])) [(aT 3), (aN 0)]), aM 2 4]) (.ret))⟩
/-- inkstand/cos.Parse -/
def ac26 : AF := ⟨28, [.cell 4 (some 6), .tmp 5, .tmp 6],
 .seq (aR [aI 4 (.alloc 26 [(.int .i64 0), (.int .i64 0), (.int .i64 0), (.str []), (.lit (.slice none 0 0)), (.lit (.slice none 0 0))]), aI 5 (.move (aN 0)),
 aI 6 (.move (aN 0))]) (.seq (aR [aM 10 0, aM 11 1, aI 12 (.build [(.str []), (.int .i64 0), (.int .i64 0)] [(0, 1, (aT 10)), (1, 1, (aT 11))]),
 aI 13 (.box 109 (aT 12)), aM 7 13]) (.seq (aR [aM 15 7, aI 16 (.call (.av (.fn (.func 64) [] [])) [(aT 15)]), aM 14 16, aI 17 (.extract (aT 14) 0),
 aI 18 (.extract (aT 14) 1), aI 8 (.alloc 26 [(.int .i64 0), (.int .i64 0), (.int .i64 0), (.str []), (.lit (.slice none 0 0)), (.lit (.slice none 0 0))]),
 aJ (.store 6 (aT 8) (aT 17)), aM 9 18]) (.seq (.seq (aR [aM 19 9, aI 20 (.bin .neq .other true (aT 19) (aN 0))]) (.cond (aT 20)
 (.seq (aR [aI 21 (.build [(.int .i64 0), (.int .i64 0), (.int .i64 0), (.str []), (.lit (.slice none 0 0)), (.lit (.slice none 0 0))] []), aM 22 9,
 aJ (.store 6 (aT 4) (aT 21)), aI 5 (.move (aN 0)), aM 6 22]) (.ret)) (.skip))) (.seq (.region [aI 23 (.load (some 6) (aT 8)), aM 24 7, aI 25 (.nilCheck (aT 24)),
 aI 26 (.fieldAddr 1 (aT 25)), aI 27 (.loadA none (aT 26) [(aT 4)]), aJ (.storeA 6 (aT 4) (aT 23) (aT 4) []), aM 5 27, aI 6 (.move (aN 0))] true) (.ret)))))⟩
/-- inkstand/ops.Balanced -/
def ac30 : AF := ⟨70, [.tmp 2], .seq (aR [aI 2 (.move (.av (.bool false)))]) (.seq (aR [aI 3 (.move (aN 0)), aI 4 (.move (.av (.bool false)))])
 (.seq (.seq (aR [aM 7 0, aI 8 (.len (.slice 2) (aT 7)), aI 9 (.move (aN 0))]) (.block 0 (.loop (.seq (aR [aI 10 (.bin .lss .other true (aT 9) (aT 8))])
 (.seq (.cond (aT 10) (.skip) (.exit 0)) (.seq (.block 1 (.seq (aR [aI 11 (.indexAddr none 2 (aT 7) (aT 9)), aI 12 (.load (some 2) (aT 11)),
 aI 6 (.alloc 47 [(.str []), (.lit (.slice none 0 0))]), aJ (.store 2 (aT 6) (aT 12))]) (.seq (.block 2 (.seq (.seq (aR [aM 14 4, aM 15 14,
 aG 16 15 true (.fieldAddr 0 (aT 6)), aG 17 15 true (.load none (aT 16)), aG 18 15 true (.bin .eql .other false (aT 17) (.av (.str [113]))), aG 19 15 true (.move (aT 18)),
 aG 20 19 false (.fieldAddr 0 (aT 6)), aG 21 19 false (.load none (aT 20)), aG 22 19 false (.bin .eql .other false (aT 21) (.av (.str [81]))),
 aG 23 15 true (.pick (aT 19) (.av (.bool true)) (aT 22)), aI 24 (.pick (aT 15) (aT 23) (.av (.bool false))), aM 13 24]) (.cond (aT 13) (.skip)
 (.seq (aR [aI 25 (.fieldAddr 0 (aT 6)), aI 26 (.load none (aT 25)), aI 27 (.bin .eql .other false (aT 26) (.av (.str [66, 84]))), aM 28 27, aG 29 28 true (.move (aT 4)),
 aI 30 (.pick (aT 28) (aT 29) (.av (.bool false))), aM 13 30]) (.cond (aT 13) (.skip) (aR [aI 31 (.fieldAddr 0 (aT 6)), aI 32 (.load none (aT 31)),
 aI 33 (.bin .eql .other false (aT 32) (.av (.str [69, 84]))), aM 34 33, aG 35 34 true (.move (aT 4)), aG 36 34 true (.un .not false (aT 35)),
 aI 37 (.pick (aT 34) (aT 36) (.av (.bool false))), aM 13 37]))))) (.cond (aT 13) (.seq (aR [aI 2 (.move (.av (.bool false)))]) (.ret))
 (.seq (aR [aI 39 (.fieldAddr 0 (aT 6)), aI 40 (.load none (aT 39)), aI 41 (.bin .eql .other false (aT 40) (.av (.str [113]))), aM 38 41]) (.cond (aT 38)
 (aR [aM 42 3, aI 43 (.bin .add .other true (aT 42) (aN 1)), aM 3 43]) (.seq (aR [aI 45 (.fieldAddr 0 (aT 6)), aI 46 (.load none (aT 45)),
 aI 47 (.bin .eql .other false (aT 46) (.av (.str [81]))), aM 44 47]) (.cond (aT 44) (aR [aM 48 3, aI 49 (.bin .sub .other true (aT 48) (aN 1)), aM 3 49])
 (.seq (aR [aI 51 (.fieldAddr 0 (aT 6)), aI 52 (.load none (aT 51)), aI 53 (.bin .eql .other false (aT 52) (.av (.str [66, 84]))), aM 54 53,
 aG 55 54 false (.fieldAddr 0 (aT 6)), aG 56 54 false (.load none (aT 55)), aG 57 54 false (.bin .eql .other false (aT 56) (.av (.str [69, 84]))),
 aI 58 (.pick (aT 54) (.av (.bool true)) (aT 57)), aM 50 58]) (.cond (aT 50) (aR [aM 59 4, aI 60 (.un .not false (aT 59)), aM 4 60]) (.skip))))))))))
 (.seq (aR [aM 61 3, aI 62 (.bin .lss .other true (aT 61) (aN 0))]) (.cond (aT 62) (.seq (aR [aI 2 (.move (.av (.bool false)))]) (.ret)) (.skip))))))
 (aR [aI 63 (.bin .add .other true (aT 9) (aN 1)), aM 9 63]))))))) (.seq (aR [aM 64 3, aI 65 (.bin .eql .other true (aT 64) (aN 0)), aM 66 65,
 aG 67 66 true (.move (aT 4)), aG 68 66 true (.un .not false (aT 67)), aI 69 (.pick (aT 66) (aT 68) (.av (.bool false))), aM 2 69]) (.ret))))⟩
/-- inkstand/ops.Write -/
def ac31 : AF := ⟨24, [.tmp 2, .tmp 3], .seq (aR [aI 2 (.move (.av (.str []))), aI 3 (.move (aN 0))]) (.seq (.seq (aR [aM 8 0, aI 9 (.len (.slice 2) (aT 8)),
 aI 10 (.bin .gtr .other true (aT 9) (aN 65536))]) (.cond (aT 10) (.seq (aR [aI 2 (.move (.av (.str []))), aI 3 (.move (aN 6))]) (.ret)) (.skip)))
 (.seq (aR [aI 4 (.bld 90 5)]) (.seq (.seq (aR [aM 11 0, aI 12 (.len (.slice 2) (aT 11)), aI 13 (.move (aN 0))]) (.block 0 (.loop
 (.seq (aR [aI 14 (.bin .lss .other true (aT 13) (aT 12))]) (.seq (.cond (aT 14) (.skip) (.exit 0)) (.seq (.block 1
 (.seq (aR [aI 15 (.indexAddr none 2 (aT 11) (aT 13)), aI 16 (.load (some 2) (aT 15)), aI 6 (.alloc 47 [(.str []), (.lit (.slice none 0 0))]),
 aJ (.store 2 (aT 6) (aT 16))]) (.seq (aR [aI 17 (.load (some 2) (aT 6)), aI 18 (.call (.av (.fn (.func 69) [] [])) [(aT 4), (aT 17)]), aM 7 18])
 (.seq (aR [aM 19 7, aI 20 (.bin .neq .other true (aT 19) (aN 0))]) (.cond (aT 20) (.seq (aR [aM 21 7, aI 2 (.move (.av (.str []))), aM 3 21]) (.ret))
 (.skip)))))) (aR [aI 22 (.bin .add .other true (aT 13) (aN 1)), aM 13 22]))))))) (.seq (aR [aI 23 (.call (.av (.fn (.func 53) [] [])) [(aT 4)]), aM 2 23,
 aI 3 (.move (aN 0))]) (.ret)))))⟩
/-- inkstand/inkstandref08.Same -/
def ac37 : AF := ⟨67, [.tmp 4], .seq (aR [aI 4 (.move (.av (.bool false)))]) (.seq (.seq (aR [aM 6 0, aI 7 (.len (.slice 4) (aT 6)), aM 8 1,
 aI 9 (.len (.slice 4) (aT 8)), aI 10 (.bin .neq .other true (aT 7) (aT 9))]) (.cond (aT 10) (.seq (aR [aI 4 (.move (.av (.bool false)))]) (.ret)) (.skip)))
 (.seq (.seq (aR [aI 5 (.move (aN 0))]) (.block 0 (.loop (.seq (.seq (aR [aM 11 5, aM 12 0, aI 13 (.len (.slice 4) (aT 12)),
 aI 14 (.bin .lss .other true (aT 11) (aT 13))]) (.cond (aT 14) (.skip) (.exit 0))) (.seq (.block 1 (.seq (.region [aM 17 0, aM 18 5,
 aI 19 (.indexAddr none 4 (aT 17) (aT 18)), aI 20 (.fieldAddr 0 (aT 19)), aI 21 (.load none (aT 20)), aM 22 1, aM 23 5, aI 24 (.indexAddr none 4 (aT 22) (aT 23)),
 aI 25 (.fieldAddr 0 (aT 24)), aI 26 (.load none (aT 25)), aI 27 (.bin .neq .other true (aT 21) (aT 26)), aM 28 27, aG 29 28 false (.move (aT 0)), aG 30 28 false (.move (aT 5)),
 aG 31 28 false (.indexAddr none 4 (aT 29) (aT 30)), aG 32 28 false (.fieldAddr 1 (aT 31)), aG 33 28 false (.load none (aT 32)), aG 34 28 false (.move (aT 1)),
 aG 35 28 false (.move (aT 5)), aG 36 28 false (.indexAddr none 4 (aT 34) (aT 35)), aG 37 28 false (.fieldAddr 1 (aT 36)), aG 38 28 false (.load none (aT 37)),
 aG 39 28 false (.bin .neq .other true (aT 33) (aT 38)), aI 40 (.pick (aT 28) (.av (.bool true)) (aT 39)), aM 41 40, aG 42 41 false (.move (aT 0)), aG 43 41 false (.move (aT 5)),
 aG 44 41 false (.indexAddr none 4 (aT 42) (aT 43)), aG 45 41 false (.fieldAddr 2 (aT 44)), aG 46 41 false (.load none (aT 45)), aG 47 41 false (.move (aT 1)),
 aG 48 41 false (.move (aT 5)), aG 49 41 false (.indexAddr none 4 (aT 47) (aT 48)), aG 50 41 false (.fieldAddr 2 (aT 49)), aG 51 41 false (.load none (aT 50)),
 aG 52 41 false (.bin .neq .other true (aT 46) (aT 51)), aI 53 (.pick (aT 41) (.av (.bool true)) (aT 52)), aM 54 53, aG 55 54 false (.move (aT 0)), aG 56 54 false (.move (aT 5)),
 aG 57 54 false (.indexAddr none 4 (aT 55) (aT 56)), aG 58 54 false (.fieldAddr 3 (aT 57)), aG 59 54 false (.load none (aT 58)), aG 60 54 false (.move (aT 1)),
 aG 61 54 false (.move (aT 5)), aG 62 54 false (.indexAddr none 4 (aT 60) (aT 61)), aG 63 54 false (.fieldAddr 3 (aT 62)), aG 64 54 false (.load none (aT 63)),
 aG 65 54 false (.bin .neq .bool false (aT 59) (aT 64)), aI 66 (.pick (aT 54) (.av (.bool true)) (aT 65))] true) (.cond (aT 66)
 (.seq (aR [aI 4 (.move (.av (.bool false)))]) (.ret)) (.skip)))) (aR [aM 15 5, aI 16 (.bin .add .other true (aT 15) (aN 1)), aM 5 16]))))))
 (.seq (aR [aI 4 (.move (.av (.bool true)))]) (.ret))))⟩
/-- inkstand/inkstandlaw11.awake -/
def ac42 : AF := ⟨49, [.tmp 0], .seq (aR [aI 0 (.move (.av (.bool false)))])
 (.seq (aR [aI 6 (.call (.av (.fn (.func 43) [] [])) [(.av (.str [49, 32, 48, 32, 48, 32, 114, 103, 32, 47, 70, 32, 84, 102]))]), aM 5 6, aI 7 (.extract (aT 5) 0),
 aI 8 (.extract (aT 5) 1), aM 1 7, aM 2 8]) (.seq (aR [aI 10 (.build [(.str []), (.lit (.slice none 0 0))] [(0, 1, (.av (.str [113])))]),
 aI 11 (.buildSlice false 47 2 1 [(.str []), (.lit (.slice none 0 0))] [(0, (aT 10))]), aI 12 (.call (.av (.fn (.func 31) [] [])) [(aT 11)]), aM 9 12, aI 13 (.extract (aT 9) 0),
 aI 14 (.extract (aT 9) 1), aM 3 13, aM 4 14]) (.seq (aR [aM 15 2, aI 16 (.bin .eql .other true (aT 15) (aN 0)), aM 17 16, aG 18 17 true (.move (aT 1)),
 aG 19 17 true (.len (.slice 2) (aT 18)), aG 20 17 true (.bin .eql .other true (aT 19) (aN 2)), aI 21 (.pick (aT 17) (aT 20) (.av (.bool false))), aM 22 21,
 aG 23 22 true (.move (aT 1)), aG 24 22 true (.indexAddr none 2 (aT 23) (aN 0)), aG 25 22 true (.fieldAddr 0 (aT 24)), aG 26 22 true (.load none (aT 25)),
 aG 27 22 true (.bin .eql .other false (aT 26) (.av (.str [114, 103]))), aI 28 (.pick (aT 22) (aT 27) (.av (.bool false))), aM 29 28, aG 30 29 true (.move (aT 1)),
 aG 31 29 true (.indexAddr none 2 (aT 30) (aN 0)), aG 32 29 true (.fieldAddr 1 (aT 31)), aG 33 29 true (.load none (aT 32)), aG 34 29 true (.len (.slice 6) (aT 33)),
 aG 35 29 true (.bin .eql .other true (aT 34) (aN 3)), aI 36 (.pick (aT 29) (aT 35) (.av (.bool false))), aM 37 36, aG 38 37 true (.move (aT 3)),
 aG 39 37 true (.bin .eql .other false (aT 38) (.av (.str [113, 10]))), aI 40 (.pick (aT 37) (aT 39) (.av (.bool false))), aM 41 40, aG 42 41 true (.move (aT 4)),
 aG 43 41 true (.bin .eql .other true (aT 42) (aN 0)), aI 44 (.pick (aT 41) (aT 43) (.av (.bool false))), aM 45 44,
 aG 46 45 true (.call (.av (.fn (.func 50) [] [])) [(.av (.lit (.slice none 0 0)))]), aG 47 45 true (.call (.av (.fn (.func 30) [] [])) [(aT 46)]),
 aI 48 (.pick (aT 45) (aT 47) (.av (.bool false))), aM 0 48]) (.ret))))⟩
/-- inkstand/ops.Parse -/
def ac43 : AF := ⟨90, [.tmp 2, .tmp 3], .seq (aR [aI 2 (.move (.av (.lit (.slice none 0 0)))), aI 3 (.move (aN 0))]) (.scope 0
 (.seq (aR [aI 4 (.move (.av (.lit (.slice none 0 0))))]) (.seq (aR [aI 5 (.alloc 47 [(.str []), (.lit (.slice none 0 0))])])
 (.seq (aR [aI 6 (.move (aN 0))]) (.skip)))) (.seq (aR [aM 12 0, aM 13 6, aI 14 (.call (.av (.fn (.func 85) [] [])) [(aT 12), (aT 13)]), aM 11 14,
 aI 15 (.extract (aT 11) 0), aI 16 (.extract (aT 11) 1), aI 7 (.alloc 138 [(.int .i64 0), (.int .i64 0), (.str []), (.bool false), (.int .i64 0), (.int .i64 0)]),
 aJ (.store 6 (aT 7) (aT 15)), aM 8 16]) (.seq (.block 0 (.seq (aR [aM 18 8, aI 19 (.bin .neq .other true (aT 18) (aN 0)), aM 17 19]) (.cond (aT 17)
 (.seq (aR [aM 20 8, aI 2 (.move (.av (.lit (.slice none 0 0)))), aM 3 20]) (.ret)) (.seq (aR [aI 22 (.fieldAddr 0 (aT 7)), aI 23 (.load none (aT 22)),
 aI 24 (.bin .eql .other true (aT 23) (aN 0)), aM 25 24, aG 26 25 true (.fieldAddr 1 (aT 5)), aG 27 25 true (.load none (aT 26)), aG 28 25 true (.len (.slice 6) (aT 27)),
 aG 29 25 true (.bin .eql .other true (aT 28) (aN 0)), aI 30 (.pick (aT 25) (aT 29) (.av (.bool false))), aM 21 30]) (.cond (aT 21) (.seq (aR [aM 31 4, aM 2 31,
 aI 3 (.move (aN 0))]) (.ret)) (.seq (.seq (aR [aI 33 (.fieldAddr 0 (aT 7)), aI 34 (.load none (aT 33)), aI 35 (.bin .eql .other true (aT 34) (aN 0)), aM 32 35])
 (.cond (aT 32) (.skip) (aR [aI 36 (.load (some 6) (aT 7)), aI 37 (.call (.av (.fn (.func 86) [] [])) [(aT 36)]), aM 38 37, aG 39 38 true (.fieldAddr 2 (aT 7)),
 aG 40 38 true (.load none (aT 39)), aG 41 38 true (.bin .eql .other false (aT 40) (.av (.str [66, 73]))), aI 42 (.pick (aT 38) (aT 41) (.av (.bool false))), aM 32 42])))
 (.cond (aT 32) (.seq (aR [aI 2 (.move (.av (.lit (.slice none 0 0)))), aI 3 (.move (aN 3))]) (.ret)) (.seq (.seq (aR [aI 44 (.load (some 6) (aT 7)),
 aI 45 (.call (.av (.fn (.func 86) [] [])) [(aT 44)]), aM 46 45, aG 47 46 true (.move (aT 4)), aG 48 46 true (.len (.slice 2) (aT 47)),
 aG 49 46 true (.bin .eql .other true (aT 48) (aN 65536)), aI 50 (.pick (aT 46) (aT 49) (.av (.bool false))), aM 43 50]) (.cond (aT 43) (.skip)
 (aR [aI 51 (.load (some 6) (aT 7)), aI 52 (.call (.av (.fn (.func 86) [] [])) [(aT 51)]), aI 53 (.un .not false (aT 52)), aM 54 53, aG 55 54 true (.fieldAddr 1 (aT 5)),
 aG 56 54 true (.load none (aT 55)), aG 57 54 true (.len (.slice 6) (aT 56)), aG 58 54 true (.bin .eql .other true (aT 57) (aN 64)),
 aI 59 (.pick (aT 54) (aT 58) (.av (.bool false))), aM 43 59]))) (.cond (aT 43) (.seq (aR [aI 2 (.move (.av (.lit (.slice none 0 0)))), aI 3 (.move (aN 6))])
 (.ret)) (.seq (aR [aI 61 (.load (some 6) (aT 7)), aI 62 (.call (.av (.fn (.func 86) [] [])) [(aT 61)]), aM 60 62]) (.cond (aT 60)
 (.seq (.region [aI 63 (.fieldAddr 2 (aT 7)), aI 64 (.load none (aT 63)), aI 65 (.fieldAddr 5 (aT 7)), aI 66 (.loadA none (aT 65) [(aT 5)]), aI 67 (.fieldAddr 0 (aT 5)),
 aJ (.storeA 1 (aT 67) (aT 64) (aT 5) []), aM 6 66] true) (.seq (aR [aM 68 4, aI 69 (.load (some 2) (aT 5)),
 aI 70 (.buildSlice false 47 2 1 [(.str []), (.lit (.slice none 0 0))] [(0, (aT 69))]), aI 71 (.append 47 2 40 [(.str []), (.lit (.slice none 0 0))] (aT 68) (aT 70)),
 aI 72 (.build [(.str []), (.lit (.slice none 0 0))] []), aM 4 71, aJ (.store 2 (aT 5) (aT 72))]) (.goto 0))) (.skip)))))))))))) (.seq (aR [aM 74 0,
 aI 75 (.load (some 6) (aT 7)), aI 76 (.call (.av (.fn (.func 87) [] [])) [(aT 74), (aT 75)]), aM 73 76, aI 77 (.extract (aT 73) 0), aI 78 (.extract (aT 73) 1),
 aI 79 (.extract (aT 73) 2), aI 9 (.alloc 26 [(.int .i64 0), (.int .i64 0), (.int .i64 0), (.str []), (.lit (.slice none 0 0)), (.lit (.slice none 0 0))]),
 aJ (.store 6 (aT 9) (aT 77)), aM 10 78, aM 8 79]) (.seq (.seq (aR [aM 80 8, aI 81 (.bin .neq .other true (aT 80) (aN 0))]) (.cond (aT 81)
 (.seq (aR [aM 82 8, aI 2 (.move (.av (.lit (.slice none 0 0)))), aM 3 82]) (.ret)) (.skip))) (.seq (aR [aI 83 (.fieldAddr 1 (aT 5)), aI 84 (.load none (aT 83)),
 aI 85 (.load (some 6) (aT 9)),
 aI 86 (.buildSlice false 26 6 1 [(.int .i64 0), (.int .i64 0), (.int .i64 0), (.str []), (.lit (.slice none 0 0)), (.lit (.slice none 0 0))] [(0, (aT 85))]),
 aI 87 (.append 26 6 88 [(.int .i64 0), (.int .i64 0), (.int .i64 0), (.str []), (.lit (.slice none 0 0)), (.lit (.slice none 0 0))] (aT 84) (aT 86)), aM 88 10,
 aI 89 (.fieldAddr 1 (aT 5)), aJ (.store 1 (aT 89) (aT 87)), aM 6 88]) (.goto 0)))))))⟩
/-- inkstand/inkstandlaw11.theirs -/
def ac46 : AF := ⟨26, [.tmp 2], .seq (aR [aI 2 (.move (.av (.lit (.slice none 0 0))))]) (.seq (aR [aI 3 (.move (.av (.lit (.slice none 0 0))))])
 (.seq (.seq (aR [aI 4 (.move (aN 0))]) (.block 0 (.loop (.seq (.seq (aR [aM 5 4, aM 6 0, aI 7 (.len (.slice 2) (aT 6)),
 aI 8 (.bin .lss .other true (aT 5) (aT 7))]) (.cond (aT 8) (.skip) (.exit 0))) (.seq (.block 1 (.region [aM 11 3, aM 12 0, aM 13 4,
 aI 14 (.indexAddr none 2 (aT 12) (aT 13)), aI 15 (.fieldAddr 0 (aT 14)), aI 16 (.load none (aT 15)), aM 17 0, aM 18 4, aI 19 (.indexAddr none 2 (aT 17) (aT 18)),
 aI 20 (.fieldAddr 1 (aT 19)), aI 21 (.load none (aT 20)), aI 22 (.build [(.str []), (.lit (.slice none 0 0))] [(0, 1, (aT 16)), (1, 1, (aT 21))]),
 aI 23 (.buildSlice false 82 2 1 [(.str []), (.lit (.slice none 0 0))] [(0, (aT 22))]), aI 24 (.append 82 2 40 [(.str []), (.lit (.slice none 0 0))] (aT 11) (aT 23)),
 aM 3 24] true)) (aR [aM 9 4, aI 10 (.bin .add .other true (aT 9) (aN 1)), aM 4 10])))))) (.seq (aR [aM 25 3, aM 2 25]) (.ret))))⟩
/-- inkstand/ops.Wrap -/
def ac50 : AF := ⟨46, [.tmp 2], .seq (aR [aI 2 (.move (.av (.lit (.slice none 0 0))))]) (.seq (aR [aI 3 (.move (aN 0)), aI 4 (.move (aN 0))])
 (.seq (.seq (aR [aM 9 0, aI 10 (.len (.slice 2) (aT 9)), aI 11 (.move (aN 0))]) (.block 0 (.loop (.seq (aR [aI 12 (.bin .lss .other true (aT 11) (aT 10))])
 (.seq (.cond (aT 12) (.skip) (.exit 0)) (.seq (.block 1 (.seq (aR [aI 13 (.indexAddr none 2 (aT 9) (aT 11)), aI 14 (.load (some 2) (aT 13)),
 aI 6 (.alloc 47 [(.str []), (.lit (.slice none 0 0))]), aJ (.store 2 (aT 6) (aT 14))]) (.seq (.seq (aR [aI 15 (.fieldAddr 0 (aT 6)), aI 16 (.load none (aT 15))])
 (.block 2 (.seq (aR [aI 18 (.bin .eql .other false (aT 16) (.av (.str [113]))), aM 17 18]) (.cond (aT 17) (aR [aM 19 3,
 aI 20 (.bin .add .other true (aT 19) (aN 1)), aM 3 20]) (.seq (aR [aI 22 (.bin .eql .other false (aT 16) (.av (.str [81]))), aM 21 22]) (.cond (aT 21)
 (aR [aM 23 3, aI 24 (.bin .sub .other true (aT 23) (aN 1)), aM 3 24]) (.skip))))))) (aR [aM 25 4, aM 26 3, aI 27 (.minmax false [(aT 25), (aT 26)]),
 aM 4 27])))) (aR [aI 28 (.bin .add .other true (aT 11) (aN 1)), aM 11 28])))))))
 (.seq (aR [aI 29 (.build [(.str []), (.lit (.slice none 0 0))] [(0, 1, (.av (.str [113])))]),
 aI 30 (.buildSlice false 47 2 1 [(.str []), (.lit (.slice none 0 0))] [(0, (aT 29))]), aM 31 4, aI 32 (.bin .sub .other true (aN 1) (aT 31)),
 aI 33 (.call (.av (.fn (.func 91) [] [])) [(aT 30), (aT 32)]), aM 7 33]) (.seq (aR [aI 34 (.build [(.str []), (.lit (.slice none 0 0))] [(0, 1, (.av (.str [81])))]),
 aI 35 (.buildSlice false 47 2 1 [(.str []), (.lit (.slice none 0 0))] [(0, (aT 34))]), aM 36 3, aI 37 (.bin .add .other true (aN 1) (aT 36)), aM 38 4,
 aI 39 (.bin .sub .other true (aT 37) (aT 38)), aI 40 (.call (.av (.fn (.func 91) [] [])) [(aT 35), (aT 39)]), aM 8 40]) (.seq (aR [aM 41 7, aM 42 0, aM 43 8,
 aI 44 (.buildSlice false 42 1 3 [(.lit (.slice none 0 0))] [(0, (aT 41)), (1, (aT 42)), (2, (aT 43))]), aI 45 (.call (.av (.fn (.func 92) [] [])) [(aT 44)]), aM 2 45])
 (.ret))))))⟩
/-- inkstand/inkstandref04.few -/
def ac51 : AF := ⟨67, [.tmp 6], .seq (aR [aI 3 (.box 26 (aT 0)), aI 6 (.move (aN 0))]) (.seq (.seq (aR [aM 9 2, aI 10 (.bin .gtr .other true (aT 9) (aN 200))])
 (.cond (aT 10) (.seq (aR [aI 6 (.move (aN (-1)))]) (.ret)) (.skip))) (.seq (aR [aM 11 1, aI 12 (.bin .sub .other true (aT 11) (aN 1)),
 aI 13 (.fieldAddr 3 (aT 3)), aI 14 (.load none (aT 13)), aI 15 (.len .str (aT 14)), aI 16 (.bin .sub .other true (aT 12) (aT 15)), aM 1 16])
 (.seq (.seq (aR [aI 7 (.move (aN 0))]) (.block 0 (.loop (.seq (.seq (aR [aM 17 7, aI 18 (.fieldAddr 4 (aT 3)), aI 19 (.load none (aT 18)),
 aI 20 (.len (.slice 6) (aT 19)), aI 21 (.bin .lss .other true (aT 17) (aT 20)), aM 22 21, aG 23 22 true (.move (aT 1)), aG 24 22 true (.bin .geq .other true (aT 23) (aN 0)),
 aI 25 (.pick (aT 22) (aT 24) (.av (.bool false)))]) (.cond (aT 25) (.skip) (.exit 0))) (.seq (.block 1 (aR [aI 28 (.fieldAddr 4 (aT 3)), aI 29 (.load none (aT 28)),
 aM 30 7, aI 31 (.indexAddr none 6 (aT 29) (aT 30)), aI 32 (.load (some 6) (aT 31)), aM 33 1, aM 34 2, aI 35 (.bin .add .other true (aT 34) (aN 1)),
 aI 36 (.call (.av (.fn (.func 51) [] [])) [(aT 32), (aT 33), (aT 35)]), aM 1 36])) (aR [aM 26 7, aI 27 (.bin .add .other true (aT 26) (aN 1)), aM 7 27]))))))
 (.seq (.seq (aR [aI 8 (.move (aN 0))]) (.block 2 (.loop (.seq (.seq (aR [aM 37 8, aI 38 (.fieldAddr 5 (aT 3)), aI 39 (.load none (aT 38)),
 aI 40 (.len (.slice 7) (aT 39)), aI 41 (.bin .lss .other true (aT 37) (aT 40)), aM 42 41, aG 43 42 true (.move (aT 1)), aG 44 42 true (.bin .geq .other true (aT 43) (aN 0)),
 aI 45 (.pick (aT 42) (aT 44) (.av (.bool false)))]) (.cond (aT 45) (.skip) (.exit 2))) (.seq (.block 3 (.region [aI 48 (.fieldAddr 5 (aT 3)), aI 49 (.load none (aT 48)),
 aM 50 8, aI 51 (.indexAddr none 7 (aT 49) (aT 50)), aI 52 (.fieldAddr 1 (aT 51)), aI 53 (.load (some 6) (aT 52)), aM 54 1, aI 55 (.fieldAddr 5 (aT 3)),
 aI 56 (.load none (aT 55)), aM 57 8, aI 58 (.indexAddr none 7 (aT 56) (aT 57)), aI 59 (.fieldAddr 0 (aT 58)), aI 60 (.load none (aT 59)), aI 61 (.len .str (aT 60)),
 aI 62 (.bin .sub .other true (aT 54) (aT 61)), aM 63 2, aI 64 (.bin .add .other true (aT 63) (aN 1)), aI 65 (.call (.av (.fn (.func 51) [] [])) [(aT 53), (aT 62), (aT 64)]),
 aM 1 65] true)) (aR [aM 46 8, aI 47 (.bin .add .other true (aT 46) (aN 1)), aM 8 47])))))) (.seq (aR [aM 66 1, aM 6 66]) (.ret))))))⟩
/-- inkstand/write.put -/
def ac52 : AF := ⟨75, [], .seq (aR [aI 2 (.box 87 (aT 0)), aI 3 (.box 26 (aT 1))]) (.seq (aR [aI 4 (.fieldAddr 0 (aT 3)), aI 5 (.load none (aT 4))])
 (.block 0 (.seq (aR [aI 18 (.bin .eql .other true (aT 5) (aN 0)), aM 17 18]) (.cond (aT 17) (aR [aI 19 (.load none (aT 2)),
 aI 20 (.call (.av (.fn (.func 56) [] [])) [(aT 19), (.av (.str [110, 117, 108, 108]))])]) (.seq (aR [aI 22 (.bin .eql .other true (aT 5) (aN 1)), aM 21 22])
 (.cond (aT 21) (.region [aI 23 (.load none (aT 2)), aI 24 (.fieldAddr 1 (aT 3)), aI 25 (.load none (aT 24)), aI 26 (.bin .eql .other true (aT 25) (aN 1)),
 ⟨(some 27), .call (.av (.fn (.func 93) [] [])) [(aT 26)], none, true⟩, aI 28 (.call (.av (.fn (.func 56) [] [])) [(aT 23), (aT 27)])] true)
 (.seq (aR [aI 30 (.bin .eql .other true (aT 5) (aN 2)), aM 29 30]) (.cond (aT 29) (.region [aI 31 (.load none (aT 2)), aI 32 (.load (some 6) (aT 3)),
 ⟨(some 33), .call (.av (.fn (.func 94) [] [])) [(aT 32)], none, true⟩, aI 34 (.call (.av (.fn (.func 56) [] [])) [(aT 31), (aT 33)])] true)
 (.seq (aR [aI 36 (.bin .eql .other true (aT 5) (aN 3)), aM 35 36]) (.cond (aT 35) (.region [aI 37 (.load none (aT 2)), aI 38 (.fieldAddr 3 (aT 3)),
 aI 39 (.load none (aT 38)), ⟨(some 40), .call (.av (.fn (.func 95) [] [])) [(aT 39)], none, true⟩, aI 41 (.call (.av (.fn (.func 56) [] [])) [(aT 37), (aT 40)])] true)
 (.seq (aR [aI 43 (.bin .eql .other true (aT 5) (aN 4)), aM 42 43]) (.cond (aT 42) (.region [aI 44 (.load none (aT 2)), aI 45 (.fieldAddr 3 (aT 3)),
 aI 46 (.load none (aT 45)), ⟨(some 47), .call (.av (.fn (.func 96) [] [])) [(aT 46)], none, true⟩, aI 48 (.call (.av (.fn (.func 56) [] [])) [(aT 44), (aT 47)])] true)
 (.seq (aR [aI 50 (.bin .eql .other true (aT 5) (aN 7)), aM 49 50]) (.cond (aT 49) (.region [aI 51 (.load none (aT 2)), aI 52 (.fieldAddr 1 (aT 3)),
 aI 53 (.load none (aT 52)), ⟨(some 54), .call (.av (.fn (.func 57) [] [])) [(aT 53)], none, true⟩, aI 55 (.bin .add .other false (aT 54) (.av (.str [32]))),
 aI 56 (.fieldAddr 2 (aT 3)), aI 57 (.load none (aT 56)), ⟨(some 58), .call (.av (.fn (.func 97) [] [])) [(aT 57)], none, true⟩, aI 59 (.bin .add .other false (aT 55) (aT 58)),
 aI 60 (.bin .add .other false (aT 59) (.av (.str [32, 82]))), aI 61 (.call (.av (.fn (.func 56) [] [])) [(aT 51), (aT 60)])] true)
 (.seq (aR [aI 63 (.bin .eql .other true (aT 5) (aN 5)), aM 62 63]) (.cond (aT 62) (.seq (aR [aI 64 (.load none (aT 2)),
 aI 65 (.call (.av (.fn (.func 98) [] [])) [(aT 64), (.av (.int .u8 91))])]) (.seq (.region [aI 66 (.fieldAddr 4 (aT 3)), aI 67 (.load none (aT 66)),
 aI 68 (.len (.slice 6) (aT 67)), aI 69 (.mkFunc (.func 100) [] [(aT 2), (aT 3)]), ⟨(some 70), .call (.av (.fn (.func 99) [] [])) [(aT 68), (aT 69)], none, true⟩,
 aI 71 (.load none (aT 2)), aI 72 (.call (aT 70) [(aT 71)])] true) (aR [aI 73 (.load none (aT 2)),
 aI 74 (.call (.av (.fn (.func 98) [] [])) [(aT 73), (.av (.int .u8 93))])]))) (.seq (aR [aI 6 (.load none (aT 2)),
 aI 7 (.call (.av (.fn (.func 56) [] [])) [(aT 6), (.av (.str [60, 60]))])]) (.seq (.region [aI 8 (.fieldAddr 5 (aT 3)), aI 9 (.load none (aT 8)),
 aI 10 (.len (.slice 7) (aT 9)), aI 11 (.mkFunc (.func 101) [] [(aT 2), (aT 3)]), ⟨(some 12), .call (.av (.fn (.func 99) [] [])) [(aT 10), (aT 11)], none, true⟩,
 aI 13 (.load none (aT 2)), aI 14 (.call (aT 12) [(aT 13)])] true) (aR [aI 15 (.load none (aT 2)),
 aI 16 (.call (.av (.fn (.func 56) [] [])) [(aT 15), (.av (.str [62, 62]))])])))))))))))))))))))⟩
/-- (*strings.Builder).WriteString -/
def ac56 : AF := ⟨19, [.tmp 4, .tmp 5], .seq (aR [aI 4 (.move (aN 0)), aI 5 (.move (.av (.lit .nilIface)))]) (.seq (aR [aM 6 0,
 aI 7 (.call (.av (.fn (.func 104) [] [])) [(aT 6)])]) (.seq (aR [aM 8 0, aM 9 0, aI 10 (.nilCheck (aT 9)), aI 11 (.fieldAddr 1 (aT 10)), aI 12 (.load none (aT 11)),
 aM 13 1, aI 14 (.append 5 1 1 [(.int .u8 0)] (aT 12) (aT 13)), aI 15 (.nilCheck (aT 8)), aI 16 (.fieldAddr 1 (aT 15)), aJ (.store 1 (aT 16) (aT 14))])
 (.seq (aR [aM 17 1, aI 18 (.len .str (aT 17)), aM 4 18, aI 5 (.move (.av (.lit .nilIface)))]) (.ret))))⟩
/-- inkstand/write.sane -/
def ac62 : AF := ⟨37, [.tmp 4], .seq (aR [aI 2 (.box 26 (aT 0)), aI 4 (.move (aN 0))]) (.seq (.seq (aR [aI 10 (.load (some 6) (aT 2)), aM 11 1,
 aI 12 (.call (.av (.fn (.func 111) [] [])) [(aT 10), (aT 11)]), aM 5 12]) (.seq (aR [aM 13 5, aI 14 (.bin .neq .other true (aT 13) (aN 0))]) (.cond (aT 14)
 (.seq (aR [aM 15 5, aM 4 15]) (.ret)) (.skip)))) (.seq (.seq (aR [aI 16 (.load (some 6) (aT 2)), aM 17 1,
 aI 18 (.call (.av (.fn (.func 112) [] [])) [(aT 16), (aT 17)]), aM 6 18]) (.seq (aR [aM 19 6, aI 20 (.bin .neq .other true (aT 19) (aN 0))]) (.cond (aT 20)
 (.seq (aR [aM 21 6, aM 4 21]) (.ret)) (.skip)))) (.seq (.seq (aR [aI 22 (.load (some 6) (aT 2)), aI 23 (.call (.av (.fn (.func 113) [] [])) [(aT 22)]),
 aI 24 (.len (.slice 6) (aT 23)), aI 25 (.move (aN 0))]) (.block 0 (.loop (.seq (aR [aI 26 (.bin .lss .other true (aT 25) (aT 24))]) (.seq (.cond (aT 26) (.skip)
 (.exit 0)) (.seq (.block 1 (.seq (aR [aI 27 (.indexAddr none 6 (aT 23) (aT 25)), aI 28 (.load (some 6) (aT 27)),
 aI 8 (.alloc 26 [(.int .i64 0), (.int .i64 0), (.int .i64 0), (.str []), (.lit (.slice none 0 0)), (.lit (.slice none 0 0))]), aJ (.store 6 (aT 8) (aT 28))])
 (.seq (aR [aI 29 (.load (some 6) (aT 8)), aM 30 1, aI 31 (.bin .add .other true (aT 30) (aN 1)), aI 32 (.call (.av (.fn (.func 62) [] [])) [(aT 29), (aT 31)]),
 aM 9 32]) (.seq (aR [aM 33 9, aI 34 (.bin .neq .other true (aT 33) (aN 0))]) (.cond (aT 34) (.seq (aR [aM 35 9, aM 4 35]) (.ret)) (.skip))))))
 (aR [aI 36 (.bin .add .other true (aT 25) (aN 1)), aM 25 36]))))))) (.seq (aR [aI 4 (.move (aN 0))]) (.ret)))))⟩
/-- (*inkstand/cos.parser).object -/
def ac64 : AF := ⟨20, [.cell 2 (some 6), .tmp 3],
 .seq (aR [aI 2 (.alloc 26 [(.int .i64 0), (.int .i64 0), (.int .i64 0), (.str []), (.lit (.slice none 0 0)), (.lit (.slice none 0 0))]), aI 3 (.move (aN 0))])
 (.seq (aR [aM 7 0, aI 8 (.call (.av (.fn (.func 115) [] [])) [(aT 7)]), aM 6 8, aI 9 (.extract (aT 6) 0), aI 10 (.extract (aT 6) 1),
 aI 4 (.alloc 138 [(.int .i64 0), (.int .i64 0), (.str []), (.bool false), (.int .i64 0), (.int .i64 0)]), aJ (.store 6 (aT 4) (aT 9)), aM 5 10])
 (.seq (.seq (aR [aM 11 5, aI 12 (.bin .neq .other true (aT 11) (aN 0))]) (.cond (aT 12)
 (.seq (aR [aI 13 (.build [(.int .i64 0), (.int .i64 0), (.int .i64 0), (.str []), (.lit (.slice none 0 0)), (.lit (.slice none 0 0))] []), aM 14 5,
 aJ (.store 6 (aT 2) (aT 13)), aM 3 14]) (.ret)) (.skip))) (.seq (aR [aM 15 0, aI 16 (.load (some 6) (aT 4)),
 aI 17 (.call (.av (.fn (.func 116) [] [])) [(aT 15), (aT 16)]), aI 18 (.extract (aT 17) 0), aI 19 (.extract (aT 17) 1), aJ (.store 6 (aT 2) (aT 18)), aM 3 19]) (.ret))))⟩
/-- inkstand/ops.put -/
def ac69 : AF := ⟨46, [.tmp 4], .seq (aR [aI 3 (.box 47 (aT 1)), aI 4 (.move (aN 0))]) (.seq (.block 0 (.seq (aR [aI 10 (.fieldAddr 0 (aT 3)),
 aI 11 (.load none (aT 10)), aI 12 (.call (.av (.fn (.func 122) [] [])) [(aT 11)]), aI 13 (.un .not false (aT 12)), aM 9 13]) (.cond (aT 9)
 (.seq (aR [aI 4 (.move (aN 1))]) (.ret)) (.seq (aR [aI 15 (.fieldAddr 1 (aT 3)), aI 16 (.load none (aT 15)), aI 17 (.len (.slice 6) (aT 16)),
 aI 18 (.bin .gtr .other true (aT 17) (aN 64)), aM 14 18]) (.cond (aT 14) (.seq (aR [aI 4 (.move (aN 6))]) (.ret)) (.skip))))))
 (.seq (.seq (aR [aI 19 (.fieldAddr 1 (aT 3)), aI 20 (.load none (aT 19)), aI 21 (.len (.slice 6) (aT 20)), aI 22 (.move (aN 0))]) (.block 1 (.loop
 (.seq (aR [aI 23 (.bin .lss .other true (aT 22) (aT 21))]) (.seq (.cond (aT 23) (.skip) (.exit 1)) (.seq (.block 2
 (.seq (aR [aI 24 (.indexAddr none 6 (aT 20) (aT 22)), aI 25 (.load (some 6) (aT 24)),
 aI 6 (.alloc 26 [(.int .i64 0), (.int .i64 0), (.int .i64 0), (.str []), (.lit (.slice none 0 0)), (.lit (.slice none 0 0))]), aJ (.store 6 (aT 6) (aT 25))])
 (.seq (.seq (aR [aI 26 (.load (some 6) (aT 6)), aI 27 (.call (.av (.fn (.func 123) [] [])) [(aT 26)])]) (.cond (aT 27) (.seq (aR [aI 4 (.move (aN 1))])
 (.ret)) (.skip))) (.seq (aR [aI 29 (.load (some 6) (aT 6)), aI 30 (.call (.av (.fn (.func 19) [] [])) [(aT 29)]), aM 28 30, aI 31 (.extract (aT 28) 0),
 aI 32 (.extract (aT 28) 1), aM 7 31, aM 8 32]) (.seq (.seq (aR [aM 33 8, aI 34 (.bin .neq .other true (aT 33) (aN 0))]) (.cond (aT 34) (.seq (aR [aM 35 8,
 aM 4 35]) (.ret)) (.skip))) (aR [aM 36 0, aM 37 7, aI 38 (.bin .add .other false (aT 37) (.av (.str [32]))),
 aI 39 (.call (.av (.fn (.func 56) [] [])) [(aT 36), (aT 38)])])))))) (aR [aI 40 (.bin .add .other true (aT 22) (aN 1)), aM 22 40]))))))) (.seq (aR [aM 41 0,
 aI 42 (.fieldAddr 0 (aT 3)), aI 43 (.load none (aT 42)), aI 44 (.bin .add .other false (aT 43) (.av (.str [10]))),
 aI 45 (.call (.av (.fn (.func 56) [] [])) [(aT 41), (aT 44)])]) (.seq (aR [aI 4 (.move (aN 0))]) (.ret)))))⟩
/-- (*inkstand/appear.Style).take -/
def ac70 : AF := ⟨61, [.tmp 4], .seq (aR [aI 3 (.box 47 (aT 1)), aI 4 (.move (.av (.bool false)))]) (.seq (.seq (aR [aI 5 (.fieldAddr 0 (aT 3)),
 aI 6 (.load none (aT 5))]) (.block 0 (.seq (aR [aI 8 (.bin .eql .other false (aT 6) (.av (.str [84, 102]))), aM 7 8]) (.cond (aT 7)
 (.seq (.seq (aR [aI 9 (.fieldAddr 1 (aT 3)), aI 10 (.load none (aT 9)), aI 11 (.len (.slice 6) (aT 10)), aI 12 (.bin .neq .other true (aT 11) (aN 2)), aM 13 12,
 aG 14 13 false (.fieldAddr 1 (aT 3)), aG 15 13 false (.load none (aT 14)), aG 16 13 false (.indexAddr none 6 (aT 15) (aN 0)), aG 17 13 false (.fieldAddr 0 (aT 16)),
 aG 18 13 false (.load none (aT 17)), aG 19 13 false (.bin .neq .other true (aT 18) (aN 3)), aI 20 (.pick (aT 13) (.av (.bool true)) (aT 19)), aM 21 20,
 aG 22 21 false (.fieldAddr 1 (aT 3)), aG 23 21 false (.load none (aT 22)), aG 24 21 false (.indexAddr none 6 (aT 23) (aN 1)), aG 25 21 false (.fieldAddr 0 (aT 24)),
 aG 26 21 false (.load none (aT 25)), aG 27 21 false (.bin .neq .other true (aT 26) (aN 2)), aI 28 (.pick (aT 21) (.av (.bool true)) (aT 27))]) (.cond (aT 28)
 (.seq (aR [aI 4 (.move (.av (.bool false)))]) (.ret)) (.skip))) (.region [aM 29 0, aM 30 0, aI 31 (.fieldAddr 1 (aT 3)), aI 32 (.load none (aT 31)),
 aI 33 (.indexAddr none 6 (aT 32) (aN 0)), aI 34 (.fieldAddr 3 (aT 33)), aI 35 (.load none (aT 34)), aI 36 (.fieldAddr 1 (aT 3)), aI 37 (.load none (aT 36)),
 aI 38 (.indexAddr none 6 (aT 37) (aN 1)), aI 39 (.fieldAddr 2 (aT 38)), aI 40 (.load none (aT 39)), aI 41 (.nilCheck (aT 29)), aI 42 (.fieldAddr 0 (aT 41)),
 aJ (.store 1 (aT 42) (aT 35)), aI 43 (.nilCheck (aT 30)), aI 44 (.fieldAddr 1 (aT 43)), aJ (.store 1 (aT 44) (aT 40))] true))
 (.seq (.seq (aR [aI 46 (.bin .eql .other false (aT 6) (.av (.str [103]))), aM 45 46]) (.cond (aT 45) (.skip)
 (aR [aI 47 (.bin .eql .other false (aT 6) (.av (.str [114, 103]))), aM 45 47]))) (.cond (aT 45) (.seq (.seq (aR [aI 48 (.load (some 2) (aT 3)),
 aI 49 (.fieldAddr 0 (aT 3)), aI 50 (.load none (aT 49)), aI 51 (.len .str (aT 50)), aI 52 (.bin .mul .other true (aN 2) (aT 51)), aI 53 (.bin .sub .other true (aT 52) (aN 1)),
 aI 54 (.call (.av (.fn (.func 124) [] [])) [(aT 48), (aT 53)]), aI 55 (.un .not false (aT 54))]) (.cond (aT 55) (.seq (aR [aI 4 (.move (.av (.bool false)))])
 (.ret)) (.skip))) (aR [aM 56 0, aI 57 (.load (some 2) (aT 3)), aI 58 (.buildSlice false 47 2 1 [(.str []), (.lit (.slice none 0 0))] [(0, (aT 57))]),
 aI 59 (.nilCheck (aT 56)), aI 60 (.fieldAddr 2 (aT 59)), aJ (.store 1 (aT 60) (aT 58))])) (.skip))))))) (.seq (aR [aI 4 (.move (.av (.bool true)))]) (.ret)))⟩
/-- inkstand/xref.run -/
def ac72 : AF := ⟨25, [.tmp 2], .seq (aR [aI 2 (.move (aN 0))]) (.seq (aR [aI 3 (.move (aN 1))]) (.seq (.block 0 (.loop (.seq (.seq (.region [aM 4 3, aM 5 0,
 aI 6 (.len (.slice 4) (aT 5)), aI 7 (.bin .lss .other true (aT 4) (aT 6)), aM 8 7, aG 9 8 true (.move (aT 0)), aG 10 8 true (.move (aT 3)),
 aG 11 8 true (.indexAddr none 4 (aT 9) (aT 10)), aG 12 8 true (.fieldAddr 0 (aT 11)), aG 13 8 true (.load none (aT 12)), aG 14 8 true (.move (aT 0)),
 aG 15 8 true (.indexAddr none 4 (aT 14) (aN 0)), aG 16 8 true (.fieldAddr 0 (aT 15)), aG 17 8 true (.load none (aT 16)), aG 18 8 true (.move (aT 3)),
 aG 19 8 true (.bin .add .other true (aT 17) (aT 18)), aG 20 8 true (.bin .eql .other true (aT 13) (aT 19)), aI 21 (.pick (aT 8) (aT 20) (.av (.bool false)))] true) (.cond (aT 21)
 (.skip) (.exit 0))) (.block 1 (aR [aM 22 3, aI 23 (.bin .add .other true (aT 22) (aN 1)), aM 3 23]))))) (.seq (aR [aM 24 3, aM 2 24]) (.ret))))⟩
/-- inkstand/inkstandref08.digits -/
def ac75 : AF := ⟨23, [.tmp 4], .seq (aR [aI 4 (.move (.av (.str [])))]) (.seq (aR [aI 5 (.move (.av (.str [])))])
 (.seq (.seq (aR [aI 6 (.move (aN 0))]) (.block 0 (.loop (.seq (.seq (aR [aM 7 6, aM 8 1, aI 9 (.bin .lss .other true (aT 7) (aT 8))]) (.cond (aT 9) (.skip)
 (.exit 0))) (.seq (.block 1 (.seq (aR [aM 12 0, aI 13 (.bin .rem .other true (aT 12) (aN 10)), aM 14 0, aI 15 (.bin .rem .other true (aT 14) (aN 10)),
 aI 16 (.bin .add .other true (aT 15) (aN 1)), aI 17 (.slice .str (.av (.str [48, 49, 50, 51, 52, 53, 54, 55, 56, 57])) (some (aT 13)) (some (aT 16))), aM 18 5,
 aI 19 (.bin .add .other false (aT 17) (aT 18)), aM 5 19]) (aR [aM 20 0, aI 21 (.bin .quo .other true (aT 20) (aN 10)), aM 0 21]))) (aR [aM 10 6,
 aI 11 (.bin .add .other true (aT 10) (aN 1)), aM 6 11])))))) (.seq (aR [aM 22 5, aM 4 22]) (.ret))))⟩
/-- slices.Concat[[]inkstand/xref.Entry,inkstand/xref.Entry] -/
def ac76 : AF := ⟨36, [.tmp 2], .seq (aR [aI 2 (.move (.av (.lit (.slice none 0 0))))]) (.seq (aR [aI 3 (.move (aN 0))]) (.seq (.seq (aR [aM 9 0,
 aI 10 (.len (.slice 1) (aT 9)), aI 11 (.move (aN 0))]) (.block 0 (.loop (.seq (aR [aI 12 (.bin .lss .other true (aT 11) (aT 10))]) (.seq (.cond (aT 12) (.skip)
 (.exit 0)) (.seq (.block 1 (.seq (aR [aI 13 (.indexAddr none 1 (aT 9) (aT 11)), aI 14 (.load none (aT 13)), aM 5 14]) (.seq (aR [aM 15 3, aM 16 5,
 aI 17 (.len (.slice 4) (aT 16)), aI 18 (.bin .add .other true (aT 15) (aT 17)), aM 3 18]) (.seq (aR [aM 19 3, aI 20 (.bin .lss .other true (aT 19) (aN 0))])
 (.cond (aT 20) (aR [aI 21 (.mkIface 9 (.av (.str [108, 101, 110, 32, 111, 117, 116, 32, 111, 102, 32, 114, 97, 110, 103, 101]))), aJ (.xop .bad [])]) (.skip))))))
 (aR [aI 22 (.bin .add .other true (aT 11) (aN 1)), aM 11 22]))))))) (.seq (aR [aM 23 3,
 aI 24 (.call (.av (.fn (.func 128) [] [])) [(.av (.lit (.slice none 0 0))), (aT 23)]), aM 6 24]) (.seq (.seq (aR [aM 25 0, aI 26 (.len (.slice 1) (aT 25)),
 aI 27 (.move (aN 0))]) (.block 2 (.loop (.seq (aR [aI 28 (.bin .lss .other true (aT 27) (aT 26))]) (.seq (.cond (aT 28) (.skip) (.exit 2)) (.seq (.block 3
 (.seq (aR [aI 29 (.indexAddr none 1 (aT 25) (aT 27)), aI 30 (.load none (aT 29)), aM 8 30]) (aR [aM 31 6, aM 32 8,
 aI 33 (.append 65 4 32 [(.int .i64 0), (.int .i64 0), (.int .i64 0), (.bool false)] (aT 31) (aT 32)), aM 6 33]))) (aR [aI 34 (.bin .add .other true (aT 27) (aN 1)),
 aM 27 34]))))))) (.seq (aR [aM 35 6, aM 2 35]) (.ret))))))⟩
/-- inkstand/lex.Next -/
def ac85 : AF := ⟨41, [.cell 4 (some 6), .tmp 5], .seq (aR [aI 4 (.alloc 138 [(.int .i64 0), (.int .i64 0), (.str []), (.bool false), (.int .i64 0), (.int .i64 0)]),
 aI 5 (.move (aN 0))]) (.seq (.seq (aR [aM 8 1, aI 9 (.bin .lss .other true (aT 8) (aN 0)), aM 10 9, aG 11 10 false (.move (aT 1)), aG 12 10 false (.move (aT 0)),
 aG 13 10 false (.len .str (aT 12)), aG 14 10 false (.bin .gtr .other true (aT 11) (aT 13)), aI 15 (.pick (aT 10) (.av (.bool true)) (aT 14))]) (.cond (aT 15)
 (.seq (aR [aI 16 (.build [(.int .i64 0), (.int .i64 0), (.str []), (.bool false), (.int .i64 0), (.int .i64 0)] []), aJ (.store 6 (aT 4) (aT 16)),
 aI 5 (.move (aN 1))]) (.ret)) (.skip))) (.seq (aR [aM 17 0, aM 18 1, aI 19 (.call (.av (.fn (.func 136) [] [])) [(aT 17), (aT 18)]),
 aI 20 (.build [(.int .i64 0), (.int .i64 0), (.str []), (.bool false), (.int .i64 0), (.int .i64 0)] [(4, 1, (aT 19))]),
 aI 6 (.alloc 138 [(.int .i64 0), (.int .i64 0), (.str []), (.bool false), (.int .i64 0), (.int .i64 0)]), aJ (.store 6 (aT 6) (aT 20))])
 (.seq (.seq (aR [aI 21 (.fieldAddr 4 (aT 6)), aI 22 (.load none (aT 21)), aM 23 0, aI 24 (.len .str (aT 23)), aI 25 (.bin .eql .other true (aT 22) (aT 24))])
 (.cond (aT 25) (.seq (aR [aI 26 (.fieldAddr 4 (aT 6)), aI 27 (.load none (aT 26)), aI 28 (.fieldAddr 5 (aT 6)), aJ (.store 1 (aT 28) (aT 27))])
 (.seq (aR [aI 29 (.load (some 6) (aT 6)), aJ (.store 6 (aT 4) (aT 29)), aI 5 (.move (aN 0))]) (.ret))) (.skip))) (.seq (aR [aM 31 0,
 aI 32 (.load (some 6) (aT 6)), aI 33 (.call (.av (.fn (.func 137) [] [])) [(aT 31), (aT 32)]), aM 30 33, aI 34 (.extract (aT 30) 0), aI 35 (.extract (aT 30) 1),
 aJ (.store 6 (aT 6) (aT 34)), aM 7 35]) (.seq (.seq (aR [aM 36 7, aI 37 (.bin .neq .other true (aT 36) (aN 0))]) (.cond (aT 37)
 (.seq (aR [aI 38 (.build [(.int .i64 0), (.int .i64 0), (.str []), (.bool false), (.int .i64 0), (.int .i64 0)] []), aM 39 7, aJ (.store 6 (aT 4) (aT 38)), aM 5 39])
 (.ret)) (.skip))) (.seq (aR [aI 40 (.load (some 6) (aT 6)), aJ (.store 6 (aT 4) (aT 40)), aI 5 (.move (aN 0))]) (.ret)))))))⟩
/-- inkstand/ops.operator -/
def ac86 : AF := ⟨12, [.tmp 2], .seq (aR [aI 1 (.box 138 (aT 0)), aI 2 (.move (.av (.bool false)))]) (.seq (aR [aI 3 (.fieldAddr 0 (aT 1)), aI 4 (.load none (aT 3)),
 aI 5 (.bin .eql .other true (aT 4) (aN 8)), aM 6 5, aG 7 6 true (.fieldAddr 2 (aT 1)), aG 8 6 true (.load none (aT 7)),
 aG 9 6 true (.call (.av (.fn (.func 138) [] [])) [(aT 8)]), aG 10 6 true (.un .not false (aT 9)), aI 11 (.pick (aT 6) (aT 10) (.av (.bool false))), aM 2 11]) (.ret))⟩
/-- inkstand/ops.object -/
def ac87 : AF := ⟨27, [.cell 4 (some 6), .tmp 5, .tmp 6], .seq (aR [aI 3 (.box 138 (aT 1)),
 aI 4 (.alloc 26 [(.int .i64 0), (.int .i64 0), (.int .i64 0), (.str []), (.lit (.slice none 0 0)), (.lit (.slice none 0 0))]), aI 5 (.move (aN 0)), aI 6 (.move (aN 0))])
 (.seq (.seq (aR [aI 8 (.fieldAddr 0 (aT 3)), aI 9 (.load none (aT 8)), aI 10 (.bin .neq .other true (aT 9) (aN 1))]) (.cond (aT 10) (.seq (aR [aM 11 0,
 aI 12 (.fieldAddr 4 (aT 3)), aI 13 (.load none (aT 12)), aI 14 (.call (.av (.fn (.func 26) [] [])) [(aT 11), (aT 13)]), aI 15 (.extract (aT 14) 0), aI 16 (.extract (aT 14) 1),
 aI 17 (.extract (aT 14) 2), aJ (.store 6 (aT 4) (aT 15)), aM 5 16, aM 6 17]) (.ret)) (.skip))) (.seq (aR [aI 18 (.fieldAddr 1 (aT 3)), aI 19 (.load none (aT 18)),
 aI 20 (.build [(.int .i64 0), (.int .i64 0), (.int .i64 0), (.str []), (.lit (.slice none 0 0)), (.lit (.slice none 0 0))] [(0, 1, (aN 2)), (2, 1, (aT 19))]),
 aI 7 (.alloc 26 [(.int .i64 0), (.int .i64 0), (.int .i64 0), (.str []), (.lit (.slice none 0 0)), (.lit (.slice none 0 0))]), aJ (.store 6 (aT 7) (aT 20))])
 (.seq (.seq (aR [aI 21 (.fieldAddr 3 (aT 3)), aI 22 (.load none (aT 21))]) (.cond (aT 22) (aR [aI 23 (.fieldAddr 1 (aT 7)), aJ (.store 1 (aT 23) (aN 1))])
 (.skip))) (.seq (.region [aI 24 (.load (some 6) (aT 7)), aI 25 (.fieldAddr 5 (aT 3)), aI 26 (.loadA none (aT 25) [(aT 4)]), aJ (.storeA 6 (aT 4) (aT 24) (aT 4) []), aM 5 26,
 aI 6 (.move (aN 0))] true) (.ret)))))⟩
/-- slices.Repeat[[]inkstand/ops.Op,inkstand/ops.Op] -/
def ac91 : AF := ⟨48, [.tmp 4], .seq (aR [aI 4 (.move (.av (.lit (.slice none 0 0))))]) (.seq (.seq (aR [aM 9 1, aI 10 (.bin .lss .other true (aT 9) (aN 0))])
 (.cond (aT 10) (aR [aI 11 (.mkIface 9 (.av (.str [99, 97, 110, 110, 111, 116, 32, 98, 101, 32, 110, 101, 103, 97, 116, 105, 118, 101]))), aJ (.xop .bad [])]) (.skip)))
 (.seq (aR [aM 13 0, aI 14 (.len (.slice 2) (aT 13)), aI 15 (.conv (.int .u64) (aT 14)), aM 16 1, aI 17 (.conv (.int .u64) (aT 16)),
 aI 18 (.call (.av (.fn (.func 147) [] [])) [(aT 15), (aT 17)]), aM 12 18, aI 19 (.extract (aT 12) 0), aI 20 (.extract (aT 12) 1), aM 5 19, aM 6 20])
 (.seq (.seq (aR [aM 21 5, aI 22 (.bin .gtr .other false (aT 21) (.av (.int .u64 0))), aM 23 22, aG 24 23 false (.move (aT 6)),
 aG 25 23 false (.bin .gtr .other false (aT 24) (.av (.int .u64 9223372036854775807))), aI 26 (.pick (aT 23) (.av (.bool true)) (aT 25))]) (.cond (aT 26)
 (aR [aI 27 (.mkIface 9 (.av (.str [116, 104, 101, 32, 114, 101, 115, 117, 108, 116, 32, 111, 102, 32, 40, 108, 101, 110, 40, 120, 41, 32, 42, 32, 99, 111, 117, 110, 116, 41, 32, 111, 118, 101, 114, 102, 108, 111, 119, 115]))),
 aJ (.xop .bad [])]) (.skip))) (.seq (aR [aM 28 6, aI 29 (.conv (.int .i64) (aT 28)), aI 30 (.makeSlice 47 2 40 [(.str []), (.lit (.slice none 0 0))] (aT 29) (aT 29)),
 aM 7 30]) (.seq (aR [aM 31 7, aM 32 0, aI 33 (.xop (.copy 2) [(aT 31), (aT 32)]), aM 8 33]) (.seq (.block 0 (.loop (.seq (.seq (aR [aM 34 8, aM 35 7,
 aI 36 (.len (.slice 2) (aT 35)), aI 37 (.bin .lss .other true (aT 34) (aT 36))]) (.cond (aT 37) (.skip) (.exit 0))) (.block 1 (.region [aM 38 8, aM 39 7, aM 40 8,
 aI 41 (.slice (.slice 2) (aT 39) (some (aT 40)) none), aM 42 7, aM 43 8, aI 44 (.slice (.slice 2) (aT 42) none (some (aT 43))), aI 45 (.xop (.copy 2) [(aT 41), (aT 44)]),
 aI 46 (.bin .add .other true (aT 38) (aT 45)), aM 8 46] true))))) (.seq (aR [aM 47 7, aM 4 47]) (.ret))))))))⟩
/-- slices.Concat[[]inkstand/ops.Op,inkstand/ops.Op] -/
def ac92 : AF := ⟨36, [.tmp 2], .seq (aR [aI 2 (.move (.av (.lit (.slice none 0 0))))]) (.seq (aR [aI 3 (.move (aN 0))]) (.seq (.seq (aR [aM 9 0,
 aI 10 (.len (.slice 1) (aT 9)), aI 11 (.move (aN 0))]) (.block 0 (.loop (.seq (aR [aI 12 (.bin .lss .other true (aT 11) (aT 10))]) (.seq (.cond (aT 12) (.skip)
 (.exit 0)) (.seq (.block 1 (.seq (aR [aI 13 (.indexAddr none 1 (aT 9) (aT 11)), aI 14 (.load none (aT 13)), aM 5 14]) (.seq (aR [aM 15 3, aM 16 5,
 aI 17 (.len (.slice 2) (aT 16)), aI 18 (.bin .add .other true (aT 15) (aT 17)), aM 3 18]) (.seq (aR [aM 19 3, aI 20 (.bin .lss .other true (aT 19) (aN 0))])
 (.cond (aT 20) (aR [aI 21 (.mkIface 9 (.av (.str [108, 101, 110, 32, 111, 117, 116, 32, 111, 102, 32, 114, 97, 110, 103, 101]))), aJ (.xop .bad [])]) (.skip))))))
 (aR [aI 22 (.bin .add .other true (aT 11) (aN 1)), aM 11 22]))))))) (.seq (aR [aM 23 3,
 aI 24 (.call (.av (.fn (.func 148) [] [])) [(.av (.lit (.slice none 0 0))), (aT 23)]), aM 6 24]) (.seq (.seq (aR [aM 25 0, aI 26 (.len (.slice 1) (aT 25)),
 aI 27 (.move (aN 0))]) (.block 2 (.loop (.seq (aR [aI 28 (.bin .lss .other true (aT 27) (aT 26))]) (.seq (.cond (aT 28) (.skip) (.exit 2)) (.seq (.block 3
 (.seq (aR [aI 29 (.indexAddr none 1 (aT 25) (aT 27)), aI 30 (.load none (aT 29)), aM 8 30]) (aR [aM 31 6, aM 32 8,
 aI 33 (.append 47 2 40 [(.str []), (.lit (.slice none 0 0))] (aT 31) (aT 32)), aM 6 33]))) (aR [aI 34 (.bin .add .other true (aT 27) (aN 1)), aM 27 34])))))))
 (.seq (aR [aM 35 6, aM 2 35]) (.ret))))))⟩
/-- strconv.FormatBool -/
def ac93 : AF := ⟨5, [.tmp 2], .seq (aR [aI 2 (.move (.av (.str [])))]) (.seq (aR [aM 3 0, aI 4 (.call (.av (.fn (.func 149) [] [])) [(aT 3)]), aM 2 4])
 (.ret))⟩
/-- inkstand/write.number -/
def ac94 : AF := ⟨19, [.tmp 2], .seq (aR [aI 1 (.box 26 (aT 0)), aI 2 (.move (.av (.str [])))]) (.seq (aR [aI 4 (.fieldAddr 2 (aT 1)), aI 5 (.load none (aT 4)),
 aI 6 (.call (.av (.fn (.func 97) [] [])) [(aT 5)]), aM 3 6]) (.seq (.seq (aR [aI 7 (.fieldAddr 1 (aT 1)), aI 8 (.load none (aT 7)),
 aI 9 (.bin .eql .other true (aT 8) (aN 0)), aM 10 9, aG 11 10 true (.fieldAddr 2 (aT 1)), aG 12 10 true (.load none (aT 11)),
 aG 13 10 true (.bin .rem .other true (aT 12) (aN 1000)), aG 14 10 true (.bin .eql .other true (aT 13) (aN 0)), aI 15 (.pick (aT 10) (aT 14) (.av (.bool false)))])
 (.cond (aT 15) (aR [aM 16 3, aI 17 (.bin .add .other false (aT 16) (.av (.str [46, 48]))), aM 3 17]) (.skip))) (.seq (aR [aM 18 3, aM 2 18]) (.ret))))⟩
/-- inkstand/lex.NameOf -/
def ac95 : AF := ⟨45, [.tmp 2], .seq (aR [aI 2 (.move (.av (.str [])))]) (.seq (aR [aI 6 (.buildSlice true 5 1 1 [(.int .u8 0)] [(0, (.av (.int .u8 47)))]),
 aM 3 6]) (.seq (.seq (aR [aM 7 0, aI 8 (.len .str (aT 7)), aI 9 (.move (aN 0))]) (.block 0 (.loop
 (.seq (aR [aI 10 (.bin .lss .other true (aT 9) (aT 8))]) (.seq (.cond (aT 10) (.skip) (.exit 0)) (.seq (.block 1 (.seq (aR [aM 11 9, aM 4 11])
 (.seq (aR [aM 12 0, aM 13 4, aI 14 (.indexStr (aT 12) (aT 13)), aM 5 14]) (.seq (.seq (aR [aM 15 5, aI 16 (.call (.av (.fn (.func 150) [] [])) [(aT 15)]),
 aM 17 16, aG 18 17 true (.move (aT 5)), aG 19 17 true (.bin .neq .other false (aT 18) (.av (.int .u8 35))), aI 20 (.pick (aT 17) (aT 19) (.av (.bool false))), aM 21 20,
 aG 22 21 true (.move (aT 5)), aG 23 21 true (.bin .gtr .other false (aT 22) (.av (.int .u8 32))), aI 24 (.pick (aT 21) (aT 23) (.av (.bool false))), aM 25 24,
 aG 26 25 true (.move (aT 5)), aG 27 25 true (.bin .leq .other false (aT 26) (.av (.int .u8 126))), aI 28 (.pick (aT 25) (aT 27) (.av (.bool false)))]) (.cond (aT 28)
 (.seq (aR [aM 29 3, aM 30 5, aI 31 (.buildSlice false 5 1 1 [(.int .u8 0)] [(0, (aT 30))]), aI 32 (.append 5 1 1 [(.int .u8 0)] (aT 29) (aT 31)), aM 3 32]) (.exit 1))
 (.skip))) (.region [aM 33 3, aM 34 5, aI 35 (.bin .shr .other false (aT 34) (.av (.int .u64 4))),
 aI 36 (.indexStr (.av (.str [48, 49, 50, 51, 52, 53, 54, 55, 56, 57, 65, 66, 67, 68, 69, 70])) (aT 35)), aM 37 5, aI 38 (.bin .and .other false (aT 37) (.av (.int .u8 15))),
 aI 39 (.indexStr (.av (.str [48, 49, 50, 51, 52, 53, 54, 55, 56, 57, 65, 66, 67, 68, 69, 70])) (aT 38)),
 aI 40 (.buildSlice false 5 1 3 [(.int .u8 0)] [(0, (.av (.int .u8 35))), (1, (aT 36)), (2, (aT 39))]), aI 41 (.append 5 1 1 [(.int .u8 0)] (aT 33) (aT 40)), aM 3 41] true)))))
 (aR [aI 42 (.bin .add .other true (aT 9) (aN 1)), aM 9 42]))))))) (.seq (aR [aM 43 3, aI 44 (.conv .ofBytes (aT 43)), aM 2 44]) (.ret))))⟩
/-- inkstand/lex.Quote -/
def ac96 : AF := ⟨55, [.tmp 2], .seq (aR [aI 2 (.move (.av (.str [])))]) (.seq (aR [aI 7 (.buildSlice true 5 1 1 [(.int .u8 0)] [(0, (.av (.int .u8 40)))]),
 aM 3 7]) (.seq (.seq (aR [aM 8 0, aI 9 (.len .str (aT 8)), aI 10 (.move (aN 0))]) (.block 0 (.loop
 (.seq (aR [aI 11 (.bin .lss .other true (aT 10) (aT 9))]) (.seq (.cond (aT 11) (.skip) (.exit 0)) (.seq (.block 1 (.seq (aR [aM 12 10, aM 4 12])
 (.seq (aR [aM 13 0, aM 14 4, aI 15 (.indexStr (aT 13) (aT 14)), aM 5 15]) (.seq (aR [aM 16 5,
 aI 17 (.call (.av (.fn (.func 151) [] [])) [(.av (.str [10, 13, 9, 8, 12, 40, 41, 92])), (aT 16)]), aM 6 17]) (.block 2 (.seq (aR [aM 23 6,
 aI 24 (.bin .geq .other true (aT 23) (aN 0)), aM 22 24]) (.cond (aT 22) (aR [aM 25 3, aM 26 6,
 aI 27 (.indexStr (.av (.str [110, 114, 116, 98, 102, 40, 41, 92])) (aT 26)), aI 28 (.buildSlice false 5 1 2 [(.int .u8 0)] [(0, (.av (.int .u8 92))), (1, (aT 27))]),
 aI 29 (.append 5 1 1 [(.int .u8 0)] (aT 25) (aT 28)), aM 3 29]) (.seq (aR [aM 31 5, aI 32 (.bin .lss .other false (aT 31) (.av (.int .u8 32))), aM 33 32,
 aG 34 33 false (.move (aT 5)), aG 35 33 false (.bin .gtr .other false (aT 34) (.av (.int .u8 126))), aI 36 (.pick (aT 33) (.av (.bool true)) (aT 35)), aM 30 36])
 (.cond (aT 30) (aR [aM 37 3, aM 38 5, aI 39 (.bin .shr .other false (aT 38) (.av (.int .u64 6))), aI 40 (.bin .add .other false (.av (.int .u8 48)) (aT 39)), aM 41 5,
 aI 42 (.bin .shr .other false (aT 41) (.av (.int .u64 3))), aI 43 (.bin .and .other false (aT 42) (.av (.int .u8 7))), aI 44 (.bin .add .other false (.av (.int .u8 48)) (aT 43)),
 aM 45 5, aI 46 (.bin .and .other false (aT 45) (.av (.int .u8 7))), aI 47 (.bin .add .other false (.av (.int .u8 48)) (aT 46)),
 aI 48 (.buildSlice false 5 1 4 [(.int .u8 0)] [(0, (.av (.int .u8 92))), (1, (aT 40)), (2, (aT 44)), (3, (aT 47))]), aI 49 (.append 5 1 1 [(.int .u8 0)] (aT 37) (aT 48)),
 aM 3 49]) (aR [aM 18 3, aM 19 5, aI 20 (.buildSlice false 5 1 1 [(.int .u8 0)] [(0, (aT 19))]), aI 21 (.append 5 1 1 [(.int .u8 0)] (aT 18) (aT 20)),
 aM 3 21])))))))))) (aR [aI 50 (.bin .add .other true (aT 10) (aN 1)), aM 10 50]))))))) (.seq (aR [aM 51 3,
 aI 52 (.buildSlice false 5 1 1 [(.int .u8 0)] [(0, (.av (.int .u8 41)))]), aI 53 (.append 5 1 1 [(.int .u8 0)] (aT 51) (aT 52)), aI 54 (.conv .ofBytes (aT 53)), aM 2 54])
 (.ret))))⟩
/-- inkstand/fix.Print -/
def ac97 : AF := ⟨43, [.tmp 2], .seq (aR [aI 2 (.move (.av (.str [])))]) (.seq (.seq (aR [aM 7 0, aI 8 (.buildSlice false 22 1 1 [(.int .i64 0)] [(0, (aT 7))]),
 aI 9 (.call (.av (.fn (.func 117) [] [])) [(aT 8)]), aI 10 (.un .not false (aT 9))]) (.cond (aT 10) (.seq (aR [aI 2 (.move (.av (.str [])))]) (.ret)) (.skip)))
 (.seq (aR [aM 12 0, aI 13 (.call (.av (.fn (.func 57) [] [])) [(aT 12)]), aI 14 (.call (.av (.fn (.func 152) [] [])) [(aT 13), (.av (.str [45]))]), aM 11 14,
 aI 15 (.extract (aT 11) 0), aI 16 (.extract (aT 11) 1), aM 3 15, aM 4 16]) (.seq (.seq (aR [aM 17 3, aI 18 (.len .str (aT 17)),
 aI 19 (.bin .leq .other true (aT 18) (aN 3))]) (.cond (aT 19) (aR [aM 20 3, aI 21 (.len .str (aT 20)), aI 22 (.bin .sub .other true (aN 4) (aT 21)),
 aI 23 (.call (.av (.fn (.func 127) [] [])) [(.av (.str [48])), (aT 22)]), aM 24 3, aI 25 (.bin .add .other false (aT 23) (aT 24)), aM 3 25]) (.skip)))
 (.seq (aR [aM 26 3, aI 27 (.len .str (aT 26)), aI 28 (.bin .sub .other true (aT 27) (aN 3)), aM 5 28]) (.seq (.region [aM 29 3, aM 30 5,
 aI 31 (.slice .str (aT 29) none (some (aT 30))), aI 32 (.bin .add .other false (aT 31) (.av (.str [46]))), aM 33 3, aM 34 5, aI 35 (.slice .str (aT 33) (some (aT 34)) none),
 aI 36 (.bin .add .other false (aT 32) (aT 35)), aI 37 (.call (.av (.fn (.func 154) [] [])) [(aT 36), (.av (.str [48]))]),
 aI 38 (.call (.av (.fn (.func 153) [] [])) [(aT 37), (.av (.str [46]))]), aM 6 38] true) (.seq (.seq (aR [aM 39 4]) (.cond (aT 39) (.seq (aR [aM 40 6,
 aI 41 (.bin .add .other false (.av (.str [45])) (aT 40)), aM 2 41]) (.ret)) (.skip))) (.seq (aR [aM 42 6, aM 2 42]) (.ret))))))))⟩
/-- (*strings.Builder).WriteByte -/
def ac98 : AF := ⟨17, [.tmp 4], .seq (aR [aI 4 (.move (.av (.lit .nilIface)))]) (.seq (aR [aM 5 0, aI 6 (.call (.av (.fn (.func 104) [] [])) [(aT 5)])])
 (.seq (aR [aM 7 0, aM 8 0, aI 9 (.nilCheck (aT 8)), aI 10 (.fieldAddr 1 (aT 9)), aI 11 (.load none (aT 10)), aM 12 1,
 aI 13 (.buildSlice false 5 1 1 [(.int .u8 0)] [(0, (aT 12))]), aI 14 (.append 5 1 1 [(.int .u8 0)] (aT 11) (aT 13)), aI 15 (.nilCheck (aT 7)), aI 16 (.fieldAddr 1 (aT 15)),
 aJ (.store 1 (aT 16) (aT 14))]) (.seq (aR [aI 4 (.move (.av (.lit .nilIface)))]) (.ret))))⟩
/-- inkstand/write.join -/
def ac99 : AF := ⟨6, [.tmp 4], .seq (aR [aI 2 (.box 3 (aT 0)), aI 3 (.box 155 (aT 1)), aI 4 (.move (.av (.lit .nilFunc)))])
 (.seq (aR [aI 5 (.mkFunc (.func 155) [] [(aT 2), (aT 3)]), aM 4 5]) (.ret))⟩
/-- inkstand/write.put$1 -/
def ac100 : AF := ⟨11, [], .region [aI 4 (.load none (aT 1)), aI 5 (.fieldAddr 4 (aT 2)), aI 6 (.load none (aT 5)), aM 7 0, aI 8 (.indexAddr none 6 (aT 6) (aT 7)),
 aI 9 (.load (some 6) (aT 8)), aI 10 (.call (.av (.fn (.func 52) [] [])) [(aT 4), (aT 9)])] true⟩
/-- inkstand/write.put$2 -/
def ac101 : AF := ⟨22, [], .seq (.region [aI 4 (.load none (aT 1)), aI 5 (.fieldAddr 5 (aT 2)), aI 6 (.load none (aT 5)), aM 7 0, aI 8 (.indexAddr none 7 (aT 6) (aT 7)),
 aI 9 (.fieldAddr 0 (aT 8)), aI 10 (.load none (aT 9)), ⟨(some 11), .call (.av (.fn (.func 95) [] [])) [(aT 10)], none, true⟩,
 aI 12 (.bin .add .other false (aT 11) (.av (.str [32]))), aI 13 (.call (.av (.fn (.func 56) [] [])) [(aT 4), (aT 12)])] true) (.region [aI 14 (.load none (aT 1)),
 aI 15 (.fieldAddr 5 (aT 2)), aI 16 (.load none (aT 15)), aM 17 0, aI 18 (.indexAddr none 7 (aT 16) (aT 17)), aI 19 (.fieldAddr 1 (aT 18)), aI 20 (.load (some 6) (aT 19)),
 aI 21 (.call (.av (.fn (.func 52) [] [])) [(aT 14), (aT 20)])] true)⟩
/-- inkstand/cos.Set -/
def ac106 : AF := ⟨45, [.cell 6 (some 6)], .seq (aR [aI 3 (.box 26 (aT 0)), aI 4 (.box 9 (aT 1)), aI 5 (.box 26 (aT 2)),
 aI 6 (.alloc 26 [(.int .i64 0), (.int .i64 0), (.int .i64 0), (.str []), (.lit (.slice none 0 0)), (.lit (.slice none 0 0))])])
 (.seq (.seq (aR [aI 9 (.load (some 6) (aT 3)), aI 10 (.call (.av (.fn (.func 159) [] [])) [(aT 9)]), aI 11 (.un .not false (aT 10))]) (.cond (aT 11)
 (.seq (aR [aI 12 (.load (some 6) (aT 3)), aJ (.store 6 (aT 6) (aT 12))]) (.ret)) (.skip))) (.seq (aR [aI 13 (.fieldAddr 5 (aT 3)), aI 14 (.load none (aT 13)),
 aI 15 (.load none (aT 4)), aI 16 (.call (.av (.fn (.func 160) [] [])) [(aT 14), (aT 15)]), aM 7 16]) (.seq (aR [aI 17 (.fieldAddr 5 (aT 3)),
 aI 18 (.load none (aT 17)), aI 19 (.call (.av (.fn (.func 162) [] [])) [(aT 18)]), aI 20 (.mkFunc (.func 163) [] [(aT 4)]),
 aI 21 (.call (.av (.fn (.func 161) [] [])) [(aT 19), (aT 20)]), aM 8 21]) (.seq (.block 0 (.seq (aR [aI 30 (.fieldAddr 0 (aT 5)), aI 31 (.load none (aT 30)),
 aI 32 (.bin .eql .other true (aT 31) (aN 0)), aM 29 32]) (.cond (aT 29) (.skip) (.seq (aR [aM 34 7, aI 35 (.bin .lss .other true (aT 34) (aN 0)), aM 33 35])
 (.cond (aT 33) (aR [aM 36 8, aI 37 (.load none (aT 4)), aI 38 (.load (some 6) (aT 5)),
 aI 39 (.build [(.str []), (.int .i64 0), (.int .i64 0), (.int .i64 0), (.str []), (.lit (.slice none 0 0)), (.lit (.slice none 0 0))] [(0, 1, (aT 37)), (1, 6, (aT 38))]),
 aI 40 (.buildSlice false 106 7 1 [(.str []), (.int .i64 0), (.int .i64 0), (.int .i64 0), (.str []), (.lit (.slice none 0 0)), (.lit (.slice none 0 0))] [(0, (aT 39))]),
 aI 41 (.append 106 7 104 [(.str []), (.int .i64 0), (.int .i64 0), (.int .i64 0), (.str []), (.lit (.slice none 0 0)), (.lit (.slice none 0 0))] (aT 36) (aT 40)), aM 8 41])
 (aR [aM 22 8, aM 23 7, aI 24 (.load none (aT 4)), aI 25 (.load (some 6) (aT 5)),
 aI 26 (.build [(.str []), (.int .i64 0), (.int .i64 0), (.int .i64 0), (.str []), (.lit (.slice none 0 0)), (.lit (.slice none 0 0))] [(0, 1, (aT 24)), (1, 6, (aT 25))]),
 aI 27 (.buildSlice false 106 7 1 [(.str []), (.int .i64 0), (.int .i64 0), (.int .i64 0), (.str []), (.lit (.slice none 0 0)), (.lit (.slice none 0 0))] [(0, (aT 26))]),
 aI 28 (.call (.av (.fn (.func 164) [] [])) [(aT 22), (aT 23), (aT 27)]), aM 8 28])))))) (.seq (aR [aM 42 8, aI 43 (.fieldAddr 5 (aT 3)),
 aJ (.store 1 (aT 43) (aT 42))]) (.seq (aR [aI 44 (.load (some 6) (aT 3)), aJ (.store 6 (aT 6) (aT 44))]) (.ret)))))))⟩
/-- inkstand/inkstandref01.May -/
def ac109 : AF := ⟨9, [.tmp 2], .seq (aR [aI 2 (.move (.av (.bool false)))]) (.seq (aR [aM 3 0, aI 4 (.bin .geq .other true (aT 3) (aN (-2147483648))), aM 5 4,
 aG 6 5 true (.move (aT 0)), aG 7 5 true (.bin .leq .other true (aT 6) (aN 2147483648)), aI 8 (.pick (aT 5) (aT 7) (.av (.bool false))), aM 2 8]) (.ret))⟩
/-- inkstand/write.shape -/
def ac111 : AF := ⟨64, [.tmp 4], .seq (aR [aI 2 (.box 26 (aT 0)), aI 4 (.move (aN 0))]) (.seq (aR [aI 7 (.fieldAddr 2 (aT 2)), aI 8 (.load none (aT 7)),
 aI 9 (.bin .rem .other true (aT 8) (aN 1000)), aI 10 (.bin .neq .other true (aT 9) (aN 0)), aM 5 10]) (.seq (aR [aI 6 (.move (.av (.bool false)))])
 (.seq (.seq (aR [aI 11 (.fieldAddr 0 (aT 2)), aI 12 (.load none (aT 11))]) (.block 0 (.seq (.seq (aR [aI 14 (.bin .eql .other true (aT 12) (aN 0)),
 aM 13 14]) (.cond (aT 13) (.skip) (.seq (aR [aI 15 (.bin .eql .other true (aT 12) (aN 3)), aM 13 15]) (.cond (aT 13) (.skip)
 (.seq (aR [aI 16 (.bin .eql .other true (aT 12) (aN 4)), aM 13 16]) (.cond (aT 13) (.skip) (aR [aI 17 (.bin .eql .other true (aT 12) (aN 5)),
 aM 13 17]))))))) (.cond (aT 13) (.skip) (.seq (aR [aI 19 (.bin .eql .other true (aT 12) (aN 1)), aM 18 19]) (.cond (aT 18) (aR [aI 20 (.fieldAddr 1 (aT 2)),
 aI 21 (.load none (aT 20)), aI 22 (.bin .andNot .other true (aT 21) (aN 1)), aI 23 (.bin .neq .other true (aT 22) (aN 0)), aM 6 23])
 (.seq (aR [aI 25 (.bin .eql .other true (aT 12) (aN 2)), aM 24 25]) (.cond (aT 24) (aR [aI 26 (.fieldAddr 1 (aT 2)), aI 27 (.load none (aT 26)),
 aI 28 (.bin .andNot .other true (aT 27) (aN 1)), aI 29 (.bin .neq .other true (aT 28) (aN 0)), aM 30 29, aG 31 30 false (.fieldAddr 1 (aT 2)),
 aG 32 30 false (.load none (aT 31)), aG 33 30 false (.bin .eql .other true (aT 32) (aN 1)), aG 34 30 false (.move (aT 33)), aG 35 34 true (.move (aT 5)),
 aG 36 30 false (.pick (aT 34) (aT 35) (.av (.bool false))), aI 37 (.pick (aT 30) (.av (.bool true)) (aT 36)), aM 6 37])
 (.seq (aR [aI 39 (.bin .eql .other true (aT 12) (aN 7)), aM 38 39]) (.cond (aT 38) (aR [aI 40 (.fieldAddr 1 (aT 2)), aI 41 (.load none (aT 40)),
 aI 42 (.bin .lss .other true (aT 41) (aN 0)), aM 43 42, aG 44 43 false (.fieldAddr 2 (aT 2)), aG 45 43 false (.load none (aT 44)),
 aG 46 43 false (.bin .lss .other true (aT 45) (aN 0)), aI 47 (.pick (aT 43) (.av (.bool true)) (aT 46)), aM 48 47, aG 49 48 false (.move (aT 5)),
 aI 50 (.pick (aT 48) (.av (.bool true)) (aT 49)), aM 6 50]) (.seq (aR [aI 52 (.bin .eql .other true (aT 12) (aN 8)), aM 51 52]) (.cond (aT 51)
 (.seq (.seq (aR [aM 53 1, aI 54 (.bin .gtr .other true (aT 53) (aN 0))]) (.cond (aT 54) (.seq (aR [aI 4 (.move (aN 1))]) (.ret)) (.skip)))
 (.seq (aR [aI 55 (.fieldAddr 5 (aT 2)), aI 56 (.load none (aT 55)), aI 57 (.call (.av (.fn (.func 167) [] [])) [(aT 56)]), aM 4 57]) (.ret)))
 (.seq (aR [aI 59 (.bin .eql .other true (aT 12) (aN 6)), aM 58 59]) (.cond (aT 58) (.seq (aR [aI 60 (.fieldAddr 5 (aT 2)), aI 61 (.load none (aT 60)),
 aI 62 (.call (.av (.fn (.func 167) [] [])) [(aT 61)]), aM 4 62]) (.ret)) (aR [aI 6 (.move (.av (.bool true)))])))))))))))))))
 (.seq (.seq (aR [aM 63 6]) (.cond (aT 63) (.seq (aR [aI 4 (.move (aN 1))]) (.ret)) (.skip))) (.seq (aR [aI 4 (.move (aN 0))]) (.ret))))))⟩
/-- inkstand/write.size -/
def ac112 : AF := ⟨52, [.tmp 4], .seq (aR [aI 2 (.box 26 (aT 0)), aI 4 (.move (aN 0))]) (.seq (aR [aI 6 (.fieldAddr 5 (aT 2)), aI 7 (.load none (aT 6)),
 aI 8 (.len (.slice 7) (aT 7)), aM 5 8]) (.seq (.seq (aR [aI 9 (.fieldAddr 0 (aT 2)), aI 10 (.load none (aT 9)), aI 11 (.bin .eql .other true (aT 10) (aN 5))])
 (.cond (aT 11) (aR [aI 12 (.fieldAddr 4 (aT 2)), aI 13 (.load none (aT 12)), aI 14 (.len (.slice 6) (aT 13)), aM 5 14]) (.skip))) (.seq (.block 0
 (.seq (.seq (aR [aI 16 (.fieldAddr 0 (aT 2)), aI 17 (.load none (aT 16)), aI 18 (.bin .eql .other true (aT 17) (aN 2)), aM 19 18, aG 20 19 true (.fieldAddr 2 (aT 2)),
 aG 21 19 true (.load none (aT 20)), aG 22 19 true (.buildSlice false 22 1 1 [(.int .i64 0)] [(0, (aT 21))]), aG 23 19 true (.call (.av (.fn (.func 117) [] [])) [(aT 22)]),
 aG 24 19 true (.un .not false (aT 23)), aI 25 (.pick (aT 19) (aT 24) (.av (.bool false))), aM 15 25]) (.cond (aT 15) (.skip) (aR [aI 26 (.fieldAddr 0 (aT 2)),
 aI 27 (.load none (aT 26)), aI 28 (.bin .eql .other true (aT 27) (aN 7)), aM 29 28, aG 30 29 true (.fieldAddr 2 (aT 2)), aG 31 29 true (.load none (aT 30)),
 aG 32 29 true (.buildSlice false 22 1 1 [(.int .i64 0)] [(0, (aT 31))]), aG 33 29 true (.call (.av (.fn (.func 117) [] [])) [(aT 32)]), aG 34 29 true (.un .not false (aT 33)),
 aG 35 29 true (.move (aT 34)), aG 36 35 false (.fieldAddr 1 (aT 2)), aG 37 35 false (.load none (aT 36)), aG 38 35 false (.bin .gtr .other true (aT 37) (aN 2147483)),
 aG 39 29 true (.pick (aT 35) (.av (.bool true)) (aT 38)), aI 40 (.pick (aT 29) (aT 39) (.av (.bool false))), aM 15 40]))) (.cond (aT 15)
 (.seq (aR [aI 4 (.move (aN 2))]) (.ret)) (.seq (aR [aI 42 (.fieldAddr 0 (aT 2)), aI 43 (.load none (aT 42)),
 aI 44 (.call (.av (.fn (.func 168) [] [])) [(aT 43)]), aI 45 (.un .not false (aT 44)), aM 41 45]) (.cond (aT 41) (.seq (aR [aI 4 (.move (aN 0))]) (.ret))
 (.seq (aR [aM 47 5, aI 48 (.bin .gtr .other true (aT 47) (aN 1024)), aM 46 48]) (.cond (aT 46) (.seq (aR [aI 4 (.move (aN 6))]) (.ret))
 (.seq (aR [aM 50 1, aI 51 (.bin .geq .other true (aT 50) (aN 64)), aM 49 51]) (.cond (aT 49) (.seq (aR [aI 4 (.move (aN 5))]) (.ret)) (.skip))))))))))
 (.seq (aR [aI 4 (.move (aN 0))]) (.ret)))))⟩
/-- inkstand/write.inside -/
def ac113 : AF := ⟨29, [.tmp 2], .seq (aR [aI 1 (.box 26 (aT 0)), aI 2 (.move (.av (.lit (.slice none 0 0))))]) (.seq (.seq (aR [aI 6 (.fieldAddr 0 (aT 1)),
 aI 7 (.load none (aT 6))]) (.block 0 (.seq (aR [aI 9 (.bin .eql .other true (aT 7) (aN 5)), aM 8 9]) (.cond (aT 8) (.seq (aR [aI 10 (.fieldAddr 4 (aT 1)),
 aI 11 (.load none (aT 10)), aM 2 11]) (.ret)) (.seq (.seq (aR [aI 13 (.bin .eql .other true (aT 7) (aN 6)), aM 12 13]) (.cond (aT 12) (.skip)
 (aR [aI 14 (.bin .eql .other true (aT 7) (aN 8)), aM 12 14]))) (.cond (aT 12) (.seq (aR [aI 3 (.move (.av (.lit (.slice none 0 0))))])
 (.seq (.seq (aR [aI 15 (.fieldAddr 5 (aT 1)), aI 16 (.load none (aT 15)), aI 17 (.len (.slice 7) (aT 16)), aI 18 (.move (aN 0))]) (.block 1 (.loop
 (.seq (aR [aI 19 (.bin .lss .other true (aT 18) (aT 17))]) (.seq (.cond (aT 19) (.skip) (.exit 1)) (.seq (.block 2
 (.seq (aR [aI 20 (.indexAddr none 7 (aT 16) (aT 18)), aI 21 (.load (some 7) (aT 20)),
 aI 5 (.alloc 106 [(.str []), (.int .i64 0), (.int .i64 0), (.int .i64 0), (.str []), (.lit (.slice none 0 0)), (.lit (.slice none 0 0))]), aJ (.store 7 (aT 5) (aT 21))])
 (aR [aM 22 3, aI 23 (.fieldAddr 1 (aT 5)), aI 24 (.load (some 6) (aT 23)),
 aI 25 (.buildSlice false 26 6 1 [(.int .i64 0), (.int .i64 0), (.int .i64 0), (.str []), (.lit (.slice none 0 0)), (.lit (.slice none 0 0))] [(0, (aT 24))]),
 aI 26 (.append 26 6 88 [(.int .i64 0), (.int .i64 0), (.int .i64 0), (.str []), (.lit (.slice none 0 0)), (.lit (.slice none 0 0))] (aT 22) (aT 25)), aM 3 26])))
 (aR [aI 27 (.bin .add .other true (aT 18) (aN 1)), aM 18 27]))))))) (.seq (aR [aM 28 3, aM 2 28]) (.ret)))) (.skip)))))))
 (.seq (aR [aI 2 (.move (.av (.lit (.slice none 0 0))))]) (.ret)))⟩
/-- (*inkstand/cos.parser).next -/
def ac115 : AF := ⟨27, [.cell 2 (some 6), .tmp 3], .seq (aR [aI 2 (.alloc 138 [(.int .i64 0), (.int .i64 0), (.str []), (.bool false), (.int .i64 0), (.int .i64 0)]),
 aI 3 (.move (aN 0))]) (.seq (.region [aM 7 0, aI 8 (.nilCheck (aT 7)), aI 9 (.fieldAddr 0 (aT 8)), aI 10 (.load none (aT 9)), aM 11 0, aI 12 (.nilCheck (aT 11)),
 aI 13 (.fieldAddr 1 (aT 12)), aI 14 (.load none (aT 13)), ⟨(some 15), .call (.av (.fn (.func 85) [] [])) [(aT 10), (aT 14)], none, true⟩, aM 6 15, aI 16 (.extract (aT 6) 0),
 aI 17 (.extract (aT 6) 1), aI 4 (.alloc 138 [(.int .i64 0), (.int .i64 0), (.str []), (.bool false), (.int .i64 0), (.int .i64 0)]), aJ (.store 6 (aT 4) (aT 16)), aM 5 17] true)
 (.seq (.seq (aR [aM 18 5, aI 19 (.bin .eql .other true (aT 18) (aN 0))]) (.cond (aT 19) (aR [aM 20 0, aI 21 (.fieldAddr 5 (aT 4)), aI 22 (.load none (aT 21)),
 aI 23 (.nilCheck (aT 20)), aI 24 (.fieldAddr 1 (aT 23)), aJ (.store 1 (aT 24) (aT 22))]) (.skip))) (.seq (aR [aI 25 (.load (some 6) (aT 4)), aM 26 5,
 aJ (.store 6 (aT 2) (aT 25)), aM 3 26]) (.ret))))⟩
/-- (*inkstand/cos.parser).of -/
def ac116 : AF := ⟨50, [.cell 4 (some 6), .tmp 5], .seq (aR [aI 3 (.box 138 (aT 1)),
 aI 4 (.alloc 26 [(.int .i64 0), (.int .i64 0), (.int .i64 0), (.str []), (.lit (.slice none 0 0)), (.lit (.slice none 0 0))]), aI 5 (.move (aN 0))])
 (.seq (.seq (aR [aI 6 (.fieldAddr 0 (aT 3)), aI 7 (.load none (aT 6))]) (.block 0 (.seq (aR [aI 9 (.bin .eql .other true (aT 7) (aN 0)), aM 8 9])
 (.cond (aT 8) (.seq (aR [aI 10 (.build [(.int .i64 0), (.int .i64 0), (.int .i64 0), (.str []), (.lit (.slice none 0 0)), (.lit (.slice none 0 0))] []),
 aJ (.store 6 (aT 4) (aT 10)), aI 5 (.move (aN 4))]) (.ret)) (.seq (aR [aI 12 (.bin .eql .other true (aT 7) (aN 1)), aM 11 12]) (.cond (aT 11)
 (.seq (aR [aM 13 0, aI 14 (.load (some 6) (aT 3)), aI 15 (.call (.av (.fn (.func 169) [] [])) [(aT 13), (aT 14)]), aJ (.store 6 (aT 4) (aT 15)), aI 5 (.move (aN 0))])
 (.ret)) (.seq (aR [aI 17 (.bin .eql .other true (aT 7) (aN 2)), aM 16 17]) (.cond (aT 16) (.seq (aR [aI 18 (.fieldAddr 2 (aT 3)), aI 19 (.load none (aT 18)),
 aI 20 (.call (.av (.fn (.func 170) [] [])) [(aT 19)]), aJ (.store 6 (aT 4) (aT 20)), aI 5 (.move (aN 0))]) (.ret))
 (.seq (aR [aI 22 (.bin .eql .other true (aT 7) (aN 3)), aM 21 22]) (.cond (aT 21) (.seq (aR [aI 23 (.fieldAddr 2 (aT 3)), aI 24 (.load none (aT 23)),
 aI 25 (.build [(.int .i64 0), (.int .i64 0), (.int .i64 0), (.str []), (.lit (.slice none 0 0)), (.lit (.slice none 0 0))] [(0, 1, (aN 4)), (3, 1, (aT 24))]),
 aJ (.store 6 (aT 4) (aT 25)), aI 5 (.move (aN 0))]) (.ret)) (.seq (aR [aI 27 (.bin .eql .other true (aT 7) (aN 4)), aM 26 27]) (.cond (aT 26)
 (.seq (aR [aM 28 0, aM 29 0, aI 30 (.mkFunc (.func 172) [(aT 29)] []), aI 31 (.call (.av (.fn (.func 171) [] [])) [(aT 28), (aT 30)]), aI 32 (.extract (aT 31) 0),
 aI 33 (.extract (aT 31) 1), aJ (.store 6 (aT 4) (aT 32)), aM 5 33]) (.ret)) (.seq (aR [aI 35 (.bin .eql .other true (aT 7) (aN 6)), aM 34 35]) (.cond (aT 34)
 (.seq (aR [aM 36 0, aM 37 0, aI 38 (.mkFunc (.func 173) [(aT 37)] []), aI 39 (.call (.av (.fn (.func 171) [] [])) [(aT 36), (aT 38)]), aI 40 (.extract (aT 39) 0),
 aI 41 (.extract (aT 39) 1), aJ (.store 6 (aT 4) (aT 40)), aM 5 41]) (.ret)) (.seq (aR [aI 43 (.bin .eql .other true (aT 7) (aN 8)), aM 42 43]) (.cond (aT 42)
 (.seq (aR [aI 44 (.fieldAddr 2 (aT 3)), aI 45 (.load none (aT 44)), aI 46 (.call (.av (.fn (.func 174) [] [])) [(aT 45)]), aI 47 (.extract (aT 46) 0),
 aI 48 (.extract (aT 46) 1), aJ (.store 6 (aT 4) (aT 47)), aM 5 48]) (.ret)) (.skip)))))))))))))))))
 (.seq (aR [aI 49 (.build [(.int .i64 0), (.int .i64 0), (.int .i64 0), (.str []), (.lit (.slice none 0 0)), (.lit (.slice none 0 0))] []), aJ (.store 6 (aT 4) (aT 49)),
 aI 5 (.move (aN 3))]) (.ret)))⟩
/-- inkstand/fix.Sane -/
def ac117 : AF := ⟨18, [.tmp 2], .seq (aR [aI 2 (.move (.av (.bool false)))]) (.seq (.seq (aR [aM 5 0, aI 6 (.len (.slice 1) (aT 5)), aI 7 (.move (aN 0))])
 (.block 0 (.loop (.seq (aR [aI 8 (.bin .lss .other true (aT 7) (aT 6))]) (.seq (.cond (aT 8) (.skip) (.exit 0)) (.seq (.block 1
 (.seq (aR [aI 9 (.indexAddr none 1 (aT 5) (aT 7)), aI 10 (.load none (aT 9)), aM 4 10]) (.seq (aR [aM 11 4,
 aI 12 (.bin .lss .other true (aT 11) (aN (-2147483648))), aM 13 12, aG 14 13 false (.move (aT 4)), aG 15 13 false (.bin .gtr .other true (aT 14) (aN 2147483648)),
 aI 16 (.pick (aT 13) (.av (.bool true)) (aT 15))]) (.cond (aT 16) (.seq (aR [aI 2 (.move (.av (.bool false)))]) (.ret)) (.skip)))))
 (aR [aI 17 (.bin .add .other true (aT 7) (aN 1)), aM 7 17]))))))) (.seq (aR [aI 2 (.move (.av (.bool true)))]) (.ret)))⟩
/-- inkstand/ops.named -/
def ac122 : AF := ⟨36, [.tmp 2], .seq (aR [aI 2 (.move (.av (.bool false)))]) (.seq (.seq (aR [aM 4 0, aI 5 (.bin .eql .other false (aT 4) (.av (.str []))), aM 6 5,
 aG 7 6 false (.move (aT 0)), aG 8 6 false (.bin .eql .other false (aT 7) (.av (.str [66, 73]))), aI 9 (.pick (aT 6) (.av (.bool true)) (aT 8)), aM 10 9,
 aG 11 10 false (.move (aT 0)), aG 12 10 false (.call (.av (.fn (.func 138) [] [])) [(aT 11)]), aI 13 (.pick (aT 10) (.av (.bool true)) (aT 12)), aM 14 13,
 aG 15 14 false (.move (aT 0)), aG 16 14 false (.indexStr (aT 15) (aN 0)),
 aG 17 14 false (.call (.av (.fn (.func 151) [] [])) [(.av (.str [43, 45, 46, 48, 49, 50, 51, 52, 53, 54, 55, 56, 57])), (aT 16)]),
 aG 18 14 false (.bin .geq .other true (aT 17) (aN 0)), aI 19 (.pick (aT 14) (.av (.bool true)) (aT 18))]) (.cond (aT 19)
 (.seq (aR [aI 2 (.move (.av (.bool false)))]) (.ret)) (.skip))) (.seq (.seq (aR [aM 20 0, aI 21 (.len .str (aT 20)), aI 22 (.move (aN 0))]) (.block 0 (.loop
 (.seq (aR [aI 23 (.bin .lss .other true (aT 22) (aT 21))]) (.seq (.cond (aT 23) (.skip) (.exit 0)) (.seq (.block 1 (.seq (aR [aM 24 22, aM 3 24])
 (.seq (aR [aM 25 0, aM 26 3, aI 27 (.indexStr (aT 25) (aT 26)), aI 28 (.call (.av (.fn (.func 178) [] [])) [(aT 27)]), aM 29 28, aG 30 29 false (.move (aT 0)),
 aG 31 29 false (.move (aT 3)), aG 32 29 false (.indexStr (aT 30) (aT 31)), aG 33 29 false (.call (.av (.fn (.func 179) [] [])) [(aT 32)]),
 aI 34 (.pick (aT 29) (.av (.bool true)) (aT 33))]) (.cond (aT 34) (.seq (aR [aI 2 (.move (.av (.bool false)))]) (.ret)) (.skip)))))
 (aR [aI 35 (.bin .add .other true (aT 22) (aN 1)), aM 22 35]))))))) (.seq (aR [aI 2 (.move (.av (.bool true)))]) (.ret))))⟩
/-- inkstand/ops.refers -/
def ac123 : AF := ⟨18, [.tmp 2], .seq (aR [aI 1 (.box 26 (aT 0)), aI 2 (.move (.av (.bool false)))]) (.seq (.seq (aR [aI 3 (.fieldAddr 0 (aT 1)),
 aI 4 (.load none (aT 3))]) (.block 0 (.seq (aR [aI 6 (.bin .eql .other true (aT 4) (aN 7)), aM 5 6]) (.cond (aT 5)
 (.seq (aR [aI 2 (.move (.av (.bool true)))]) (.ret)) (.seq (aR [aI 8 (.bin .eql .other true (aT 4) (aN 5)), aM 7 8]) (.cond (aT 7)
 (.seq (aR [aI 9 (.fieldAddr 4 (aT 1)), aI 10 (.load none (aT 9)), aI 11 (.call (.av (.fn (.func 180) [] [])) [(aT 10), (.av (.fn (.func 123) [] []))]), aM 2 11])
 (.ret)) (.seq (.seq (aR [aI 13 (.bin .eql .other true (aT 4) (aN 6)), aM 12 13]) (.cond (aT 12) (.skip) (aR [aI 14 (.bin .eql .other true (aT 4) (aN 8)),
 aM 12 14]))) (.cond (aT 12) (.seq (aR [aI 15 (.fieldAddr 5 (aT 1)), aI 16 (.load none (aT 15)),
 aI 17 (.call (.av (.fn (.func 181) [] [])) [(aT 16), (.av (.fn (.func 182) [] []))]), aM 2 17]) (.ret)) (.skip)))))))))
 (.seq (aR [aI 2 (.move (.av (.bool false)))]) (.ret)))⟩
/-- strings.Repeat -/
def ac127 : AF := ⟨125, [.tmp 4], .seq (aR [aI 4 (.move (.av (.str [])))]) (.seq (.seq (aR [aM 11 1]) (.block 0
 (.seq (aR [aI 13 (.bin .eql .other true (aT 11) (aN 0)), aM 12 13]) (.cond (aT 12) (.seq (aR [aI 4 (.move (.av (.str [])))]) (.ret))
 (.seq (aR [aI 15 (.bin .eql .other true (aT 11) (aN 1)), aM 14 15]) (.cond (aT 14) (.seq (aR [aM 16 0, aM 4 16]) (.ret)) (.skip)))))))
 (.seq (.seq (aR [aM 17 1, aI 18 (.bin .lss .other true (aT 17) (aN 0))]) (.cond (aT 18)
 (aR [aI 19 (.mkIface 9 (.av (.str [115, 116, 114, 105, 110, 103, 115, 58, 32, 110, 101, 103, 97, 116, 105, 118, 101, 32, 82, 101, 112, 101, 97, 116, 32, 99, 111, 117, 110, 116]))),
 aJ (.xop .bad [])]) (.skip))) (.seq (aR [aM 21 0, aI 22 (.len .str (aT 21)), aI 23 (.conv (.int .u64) (aT 22)), aM 24 1, aI 25 (.conv (.int .u64) (aT 24)),
 aI 26 (.call (.av (.fn (.func 147) [] [])) [(aT 23), (aT 25)]), aM 20 26, aI 27 (.extract (aT 20) 0), aI 28 (.extract (aT 20) 1), aM 5 27, aM 6 28])
 (.seq (.seq (aR [aM 29 5, aI 30 (.bin .gtr .other false (aT 29) (.av (.int .u64 0))), aM 31 30, aG 32 31 false (.move (aT 6)),
 aG 33 31 false (.bin .gtr .other false (aT 32) (.av (.int .u64 9223372036854775807))), aI 34 (.pick (aT 31) (.av (.bool true)) (aT 33))]) (.cond (aT 34)
 (aR [aI 35 (.mkIface 9 (.av (.str [115, 116, 114, 105, 110, 103, 115, 58, 32, 82, 101, 112, 101, 97, 116, 32, 111, 117, 116, 112, 117, 116, 32, 108, 101, 110, 103, 116, 104, 32, 111, 118, 101, 114, 102, 108, 111, 119]))),
 aJ (.xop .bad [])]) (.skip))) (.seq (aR [aM 36 6, aI 37 (.conv (.int .i64) (aT 36)), aM 7 37]) (.seq (.seq (aR [aM 38 0, aI 39 (.len .str (aT 38)),
 aI 40 (.bin .eql .other true (aT 39) (aN 0))]) (.cond (aT 40) (.seq (aR [aI 4 (.move (.av (.str [])))]) (.ret)) (.skip))) (.seq (.seq (aR [aM 41 0,
 aI 42 (.indexStr (aT 41) (aN 0))]) (.block 1 (.seq (.seq (aR [aI 44 (.bin .eql .other false (aT 42) (.av (.int .u8 32))), aM 43 44]) (.cond (aT 43) (.skip)
 (.seq (aR [aI 45 (.bin .eql .other false (aT 42) (.av (.int .u8 45))), aM 43 45]) (.cond (aT 43) (.skip)
 (.seq (aR [aI 46 (.bin .eql .other false (aT 42) (.av (.int .u8 48))), aM 43 46]) (.cond (aT 43) (.skip)
 (.seq (aR [aI 47 (.bin .eql .other false (aT 42) (.av (.int .u8 61))), aM 43 47]) (.cond (aT 43) (.skip)
 (aR [aI 48 (.bin .eql .other false (aT 42) (.av (.int .u8 9))), aM 43 48]))))))))) (.cond (aT 43) (.block 2 (.seq (aR [aM 50 7,
 aI 51 (.bin .leq .other true (aT 50) (aN 128)), aM 52 51, aG 53 52 true (.move (aT 0)),
 aG 54 52 true (.call (.av (.fn (.func 185) [] [])) [(.av (.str (List.replicate 128 32))), (aT 53)]), aI 55 (.pick (aT 52) (aT 54) (.av (.bool false))), aM 49 55])
 (.cond (aT 49) (.seq (aR [aM 56 7, aI 57 (.slice .str (.av (.str (List.replicate 128 32))) none (some (aT 56))), aM 4 57]) (.ret)) (.seq (aR [aM 59 7,
 aI 60 (.bin .leq .other true (aT 59) (aN 128)), aM 61 60, aG 62 61 true (.move (aT 0)),
 aG 63 61 true (.call (.av (.fn (.func 185) [] [])) [(.av (.str (List.replicate 128 45))), (aT 62)]), aI 64 (.pick (aT 61) (aT 63) (.av (.bool false))), aM 58 64])
 (.cond (aT 58) (.seq (aR [aM 65 7, aI 66 (.slice .str (.av (.str (List.replicate 128 45))) none (some (aT 65))), aM 4 66]) (.ret)) (.seq (aR [aM 68 7,
 aI 69 (.bin .leq .other true (aT 68) (aN 64)), aM 70 69, aG 71 70 true (.move (aT 0)),
 aG 72 70 true (.call (.av (.fn (.func 185) [] [])) [(.av (.str (List.replicate 64 48))), (aT 71)]), aI 73 (.pick (aT 70) (aT 72) (.av (.bool false))), aM 67 73])
 (.cond (aT 67) (.seq (aR [aM 74 7, aI 75 (.slice .str (.av (.str (List.replicate 64 48))) none (some (aT 74))), aM 4 75]) (.ret)) (.seq (aR [aM 77 7,
 aI 78 (.bin .leq .other true (aT 77) (aN 128)), aM 79 78, aG 80 79 true (.move (aT 0)),
 aG 81 79 true (.call (.av (.fn (.func 185) [] [])) [(.av (.str (List.replicate 128 61))), (aT 80)]), aI 82 (.pick (aT 79) (aT 81) (.av (.bool false))), aM 76 82])
 (.cond (aT 76) (.seq (aR [aM 83 7, aI 84 (.slice .str (.av (.str (List.replicate 128 61))) none (some (aT 83))), aM 4 84]) (.ret)) (.seq (aR [aM 86 7,
 aI 87 (.bin .leq .other true (aT 86) (aN 64)), aM 88 87, aG 89 88 true (.move (aT 0)),
 aG 90 88 true (.call (.av (.fn (.func 185) [] [])) [(.av (.str (List.replicate 64 9))), (aT 89)]), aI 91 (.pick (aT 88) (aT 90) (.av (.bool false))), aM 85 91])
 (.cond (aT 85) (.seq (aR [aM 92 7, aI 93 (.slice .str (.av (.str (List.replicate 64 9))) none (some (aT 92))), aM 4 93]) (.ret)) (.skip)))))))))))) (.skip)))))
 (.seq (aR [aM 94 7, aM 8 94]) (.seq (.seq (aR [aM 95 7, aI 96 (.bin .gtr .other true (aT 95) (aN 8192))]) (.cond (aT 96) (.seq (aR [aM 97 0,
 aI 98 (.len .str (aT 97)), aI 99 (.bin .quo .other true (aN 8192) (aT 98)), aM 100 0, aI 101 (.len .str (aT 100)), aI 102 (.bin .mul .other true (aT 99) (aT 101)),
 aM 8 102]) (.seq (aR [aM 103 8, aI 104 (.bin .eql .other true (aT 103) (aN 0))]) (.cond (aT 104) (aR [aM 105 0, aI 106 (.len .str (aT 105)),
 aM 8 106]) (.skip)))) (.skip))) (.seq (aR [aI 9 (.bld 90 5)]) (.seq (aR [aM 107 7, aI 108 (.call (.av (.fn (.func 186) [] [])) [(aT 9), (aT 107)])])
 (.seq (aR [aM 109 0, aI 110 (.call (.av (.fn (.func 56) [] [])) [(aT 9), (aT 109)])]) (.seq (.block 3 (.loop
 (.seq (.seq (aR [aI 111 (.call (.av (.fn (.func 187) [] [])) [(aT 9)]), aM 112 7, aI 113 (.bin .lss .other true (aT 111) (aT 112))]) (.cond (aT 113) (.skip)
 (.exit 3))) (.block 4 (.seq (aR [aM 114 7, aI 115 (.call (.av (.fn (.func 187) [] [])) [(aT 9)]), aI 116 (.bin .sub .other true (aT 114) (aT 115)),
 aI 117 (.call (.av (.fn (.func 187) [] [])) [(aT 9)]), aM 118 8, aI 119 (.minmax false [(aT 116), (aT 117), (aT 118)]), aM 10 119])
 (aR [aI 120 (.call (.av (.fn (.func 53) [] [])) [(aT 9)]), aM 121 10, aI 122 (.slice .str (aT 120) none (some (aT 121))),
 aI 123 (.call (.av (.fn (.func 56) [] [])) [(aT 9), (aT 122)])])))))) (.seq (aR [aI 124 (.call (.av (.fn (.func 53) [] [])) [(aT 9)]), aM 4 124])
 (.ret)))))))))))))))⟩
/-- inkstand/lex.Space -/
def ac136 : AF := ⟨27, [.tmp 4], .seq (aR [aI 4 (.move (aN 0))]) (.seq (aR [aM 5 1, aI 6 (.minmax true [(aT 5), (aN 0)]), aM 7 0, aI 8 (.len .str (aT 7)),
 aI 9 (.minmax false [(aT 6), (aT 8)]), aM 1 9]) (.block 0 (.loop (.block 1 (.seq (aR [aM 10 0, aM 11 1,
 aI 12 (.call (.av (.fn (.func 200) [] [])) [(aT 10), (aT 11), (.av (.fn (.func 178) [] []))]), aM 1 12]) (.seq (.seq (aR [aM 13 1, aM 14 0, aI 15 (.len .str (aT 14)),
 aI 16 (.bin .eql .other true (aT 13) (aT 15)), aM 17 16, aG 18 17 false (.move (aT 0)), aG 19 17 false (.move (aT 1)), aG 20 17 false (.indexStr (aT 18) (aT 19)),
 aG 21 17 false (.bin .neq .other false (aT 20) (.av (.int .u8 37))), aI 22 (.pick (aT 17) (.av (.bool true)) (aT 21))]) (.cond (aT 22) (.seq (aR [aM 23 1,
 aM 4 23]) (.ret)) (.skip))) (aR [aM 24 0, aM 25 1, aI 26 (.call (.av (.fn (.func 200) [] [])) [(aT 24), (aT 25), (.av (.fn (.func 201) [] []))]),
 aM 1 26])))))))⟩
/-- inkstand/lex.token -/
def ac137 : AF := ⟨71, [.cell 4 (some 6), .tmp 5], .seq (aR [aI 3 (.box 138 (aT 1)),
 aI 4 (.alloc 138 [(.int .i64 0), (.int .i64 0), (.str []), (.bool false), (.int .i64 0), (.int .i64 0)]), aI 5 (.move (aN 0))]) (.seq (aR [aM 10 0,
 aI 11 (.fieldAddr 4 (aT 3)), aI 12 (.load none (aT 11)), aI 13 (.slice .str (aT 10) (some (aT 12)) none), aM 6 13])
 (.seq (.seq (aR [aI 14 (.build (List.replicate 8 (.str [])) [(4, 1, (.av (.str [91]))), (5, 1, (.av (.str [93]))), (6, 1, (.av (.str [60, 60]))), (7, 1, (.av (.str [62, 62])))]),
 aI 15 (.move (aN 0))]) (.block 0 (.loop (.seq (aR [aI 16 (.bin .lss .other true (aT 15) (aN 8))]) (.seq (.cond (aT 16) (.skip) (.exit 0)) (.seq (.block 1
 (.seq (aR [aM 17 15, aI 18 (.indexArr 8 1 false (aT 14) (aT 15)), aM 7 17, aM 8 18]) (.seq (aR [aM 19 8, aI 20 (.bin .neq .other false (aT 19) (.av (.str []))),
 aM 21 20, aG 22 21 true (.move (aT 6)), aG 23 21 true (.move (aT 8)), aG 24 21 true (.call (.av (.fn (.func 185) [] [])) [(aT 22), (aT 23)]),
 aI 25 (.pick (aT 21) (aT 24) (.av (.bool false)))]) (.cond (aT 25) (.seq (aR [aM 26 7, aI 27 (.fieldAddr 4 (aT 3)), aI 28 (.load none (aT 27)), aM 29 8,
 aI 30 (.len .str (aT 29)), aI 31 (.bin .add .other true (aT 28) (aT 30)), aI 32 (.fieldAddr 0 (aT 3)), aJ (.store 1 (aT 32) (aT 26)), aI 33 (.fieldAddr 5 (aT 3)),
 aJ (.store 1 (aT 33) (aT 31))]) (.seq (aR [aI 34 (.load (some 6) (aT 3)), aJ (.store 6 (aT 4) (aT 34)), aI 5 (.move (aN 0))]) (.ret))) (.skip)))))
 (aR [aI 35 (.bin .add .other true (aT 15) (aN 1)), aM 15 35]))))))) (.seq (.seq (aR [aM 36 6, aI 37 (.indexStr (aT 36) (aN 0)), aM 9 37]) (.block 2
 (.seq (aR [aM 39 9, aI 40 (.bin .eql .other false (aT 39) (.av (.int .u8 47))), aM 38 40]) (.cond (aT 38) (.seq (aR [aM 41 0, aI 42 (.load (some 6) (aT 3)),
 aI 43 (.call (.av (.fn (.func 202) [] [])) [(aT 41), (aT 42)]), aI 44 (.extract (aT 43) 0), aI 45 (.extract (aT 43) 1), aJ (.store 6 (aT 4) (aT 44)), aM 5 45]) (.ret))
 (.seq (aR [aM 47 9, aI 48 (.bin .eql .other false (aT 47) (.av (.int .u8 40))), aM 46 48]) (.cond (aT 46) (.seq (aR [aM 49 0, aI 50 (.load (some 6) (aT 3)),
 aI 51 (.call (.av (.fn (.func 203) [] [])) [(aT 49), (aT 50)]), aI 52 (.extract (aT 51) 0), aI 53 (.extract (aT 51) 1), aJ (.store 6 (aT 4) (aT 52)), aM 5 53]) (.ret))
 (.seq (aR [aM 55 9, aI 56 (.bin .eql .other false (aT 55) (.av (.int .u8 60))), aM 54 56]) (.cond (aT 54) (.seq (aR [aM 57 0, aI 58 (.load (some 6) (aT 3)),
 aI 59 (.call (.av (.fn (.func 204) [] [])) [(aT 57), (aT 58)]), aI 60 (.extract (aT 59) 0), aI 61 (.extract (aT 59) 1), aJ (.store 6 (aT 4) (aT 60)), aM 5 61]) (.ret))
 (.seq (aR [aM 63 9, aI 64 (.call (.av (.fn (.func 179) [] [])) [(aT 63)]), aM 62 64]) (.cond (aT 62)
 (.seq (aR [aI 65 (.build [(.int .i64 0), (.int .i64 0), (.str []), (.bool false), (.int .i64 0), (.int .i64 0)] []), aJ (.store 6 (aT 4) (aT 65)),
 aI 5 (.move (aN 3))]) (.ret)) (.skip))))))))))) (.seq (aR [aM 66 0, aI 67 (.load (some 6) (aT 3)), aI 68 (.call (.av (.fn (.func 205) [] [])) [(aT 66), (aT 67)]),
 aI 69 (.extract (aT 68) 0), aI 70 (.extract (aT 68) 1), aJ (.store 6 (aT 4) (aT 69)), aM 5 70]) (.ret)))))⟩
/-- inkstand/ops.constant -/
def ac138 : AF := ⟨13, [.tmp 2], .seq (aR [aI 2 (.move (.av (.bool false)))]) (.seq (aR [aM 3 0,
 aI 4 (.bin .eql .other false (aT 3) (.av (.str [116, 114, 117, 101]))), aM 5 4, aG 6 5 false (.move (aT 0)),
 aG 7 5 false (.bin .eql .other false (aT 6) (.av (.str [102, 97, 108, 115, 101]))), aI 8 (.pick (aT 5) (.av (.bool true)) (aT 7)), aM 9 8, aG 10 9 false (.move (aT 0)),
 aG 11 9 false (.bin .eql .other false (aT 10) (.av (.str [110, 117, 108, 108]))), aI 12 (.pick (aT 9) (.av (.bool true)) (aT 11)), aM 2 12]) (.ret))⟩
/-- inkstand/inkstandref04.Parse -/
def ac146 : AF := ⟨13, [.cell 4 (some 6), .tmp 5, .tmp 6],
 .seq (aR [aI 4 (.alloc 26 [(.int .i64 0), (.int .i64 0), (.int .i64 0), (.str []), (.lit (.slice none 0 0)), (.lit (.slice none 0 0))]), aI 5 (.move (aN 0)),
 aI 6 (.move (aN 0))]) (.seq (aR [aM 7 0, aM 8 1, aI 9 (.call (.av (.fn (.func 211) [] [])) [(aT 7), (aT 8), (aN 0)]), aI 10 (.extract (aT 9) 0),
 aI 11 (.extract (aT 9) 1), aI 12 (.extract (aT 9) 2), aJ (.store 6 (aT 4) (aT 10)), aM 5 11, aM 6 12]) (.ret))⟩
/-- math/bits.Mul -/
def ac147 : AF := ⟨30, [.tmp 4, .tmp 5], .seq (aR [aI 4 (.move (.av (.int .u64 0))), aI 5 (.move (.av (.int .u64 0)))]) (.seq (.cond (.av (.bool false))
 (.seq (aR [aM 11 0, aI 12 (.conv (.int .u32) (aT 11)), aM 13 1, aI 14 (.conv (.int .u32) (aT 13)), aI 15 (.call (.av (.fn (.func 212) [] [])) [(aT 12), (aT 14)]), aM 10 15,
 aI 16 (.extract (aT 10) 0), aI 17 (.extract (aT 10) 1), aM 6 16, aM 7 17]) (.seq (aR [aM 18 6, aI 19 (.conv (.int .u64) (aT 18)), aM 20 7,
 aI 21 (.conv (.int .u64) (aT 20)), aM 4 19, aM 5 21]) (.ret))) (.skip)) (.seq (aR [aM 23 0, aM 24 1, aI 25 (.call (.av (.fn (.func 213) [] [])) [(aT 23), (aT 24)]),
 aM 22 25, aI 26 (.extract (aT 22) 0), aI 27 (.extract (aT 22) 1), aM 8 26, aM 9 27]) (.seq (aR [aM 28 8, aM 29 9, aM 4 28, aM 5 29]) (.ret))))⟩
/-- slices.Grow[[]inkstand/ops.Op,inkstand/ops.Op] -/
def ac148 : AF := ⟨27, [.tmp 4], .seq (aR [aI 4 (.move (.av (.lit (.slice none 0 0))))]) (.seq (.seq (aR [aM 5 1, aI 6 (.bin .lss .other true (aT 5) (aN 0))])
 (.cond (aT 6) (aR [aI 7 (.mkIface 9 (.av (.str [99, 97, 110, 110, 111, 116, 32, 98, 101, 32, 110, 101, 103, 97, 116, 105, 118, 101]))), aJ (.xop .bad [])]) (.skip)))
 (.seq (.seq (aR [aM 8 1, aM 9 0, aI 10 (.xop .cap [(aT 9)]), aM 11 0, aI 12 (.len (.slice 2) (aT 11)), aI 13 (.bin .sub .other true (aT 10) (aT 12)),
 aI 14 (.bin .sub .other true (aT 8) (aT 13)), aM 1 14]) (.seq (aR [aM 15 1, aI 16 (.bin .gtr .other true (aT 15) (aN 0))]) (.cond (aT 16) (aR [aM 17 0,
 aM 18 0, aI 19 (.xop .cap [(aT 18)]), aI 20 (.slice (.slice 2) (aT 17) none (some (aT 19))), aM 21 1,
 aI 22 (.xop (.appendZ 47 2 40 [(.str []), (.lit (.slice none 0 0))]) [(aT 20), (aT 21)]), aM 23 0, aI 24 (.len (.slice 2) (aT 23)),
 aI 25 (.slice (.slice 2) (aT 22) none (some (aT 24))), aM 0 25]) (.skip)))) (.seq (aR [aM 26 0, aM 4 26]) (.ret))))⟩
/-- internal/strconv.FormatBool -/
def ac149 : AF := ⟨4, [.tmp 2], .seq (aR [aI 2 (.move (.av (.str [])))]) (.seq (.seq (aR [aM 3 0]) (.cond (aT 3)
 (.seq (aR [aI 2 (.move (.av (.str [116, 114, 117, 101])))]) (.ret)) (.skip))) (.seq (aR [aI 2 (.move (.av (.str [102, 97, 108, 115, 101])))]) (.ret)))⟩
/-- inkstand/lex.regular -/
def ac150 : AF := ⟨11, [.tmp 2], .seq (aR [aI 2 (.move (.av (.bool false)))]) (.seq (aR [aM 3 0, aI 4 (.call (.av (.fn (.func 178) [] [])) [(aT 3)]),
 aI 5 (.un .not false (aT 4)), aM 6 5, aG 7 6 true (.move (aT 0)), aG 8 6 true (.call (.av (.fn (.func 179) [] [])) [(aT 7)]), aG 9 6 true (.un .not false (aT 8)),
 aI 10 (.pick (aT 6) (aT 9) (.av (.bool false))), aM 2 10]) (.ret))⟩
/-- strings.IndexByte -/
def ac151 : AF := ⟨8, [.tmp 4], .seq (aR [aI 4 (.move (aN 0))]) (.seq (aR [aM 5 0, aM 6 1, aI 7 (.call (.av (.fn (.func 214) [] [])) [(aT 5), (aT 6)]),
 aM 4 7]) (.ret))⟩
/-- strings.CutPrefix -/
def ac152 : AF := ⟨11, [.tmp 4, .tmp 5], .seq (aR [aI 4 (.move (.av (.str []))), aI 5 (.move (.av (.bool false)))]) (.seq (aR [aM 6 0, aM 7 1,
 aI 8 (.call (.av (.fn (.func 215) [] [])) [(aT 6), (aT 7)]), aI 9 (.extract (aT 8) 0), aI 10 (.extract (aT 8) 1), aM 4 9, aM 5 10]) (.ret))⟩
/-- strings.TrimSuffix -/
def ac153 : AF := ⟨8, [.tmp 4], .seq (aR [aI 4 (.move (.av (.str [])))]) (.seq (aR [aM 5 0, aM 6 1, aI 7 (.call (.av (.fn (.func 216) [] [])) [(aT 5), (aT 6)]),
 aM 4 7]) (.ret))⟩
/-- strings.TrimRight -/
def ac154 : AF := ⟨37, [.tmp 4], .seq (aR [aI 4 (.move (.av (.str [])))]) (.seq (.seq (aR [aM 7 0, aI 8 (.bin .eql .other false (aT 7) (.av (.str []))), aM 9 8,
 aG 10 9 false (.move (aT 1)), aG 11 9 false (.bin .eql .other false (aT 10) (.av (.str []))), aI 12 (.pick (aT 9) (.av (.bool true)) (aT 11))]) (.cond (aT 12)
 (.seq (aR [aM 13 0, aM 4 13]) (.ret)) (.skip))) (.seq (.seq (aR [aM 14 1, aI 15 (.len .str (aT 14)), aI 16 (.bin .eql .other true (aT 15) (aN 1)), aM 17 16,
 aG 18 17 true (.move (aT 1)), aG 19 17 true (.indexStr (aT 18) (aN 0)), aG 20 17 true (.bin .lss .other false (aT 19) (.av (.int .u8 128))),
 aI 21 (.pick (aT 17) (aT 20) (.av (.bool false)))]) (.cond (aT 21) (.seq (aR [aM 22 0, aM 23 1, aI 24 (.indexStr (aT 23) (aN 0)),
 aI 25 (.call (.av (.fn (.func 217) [] [])) [(aT 22), (aT 24)]), aM 4 25]) (.ret)) (.skip))) (.seq (.seq (aR [aM 27 1,
 aI 28 (.call (.av (.fn (.func 218) [] [])) [(aT 27)]), aM 26 28, aI 29 (.extract (aT 26) 0), aI 30 (.extract (aT 26) 1), aI 5 (.alloc 241 (List.replicate 256 (.bool false))),
 aJ (.store 256 (aT 5) (aT 29)), aM 6 30]) (.seq (aR [aM 31 6]) (.cond (aT 31) (.seq (aR [aM 32 0,
 aI 33 (.call (.av (.fn (.func 219) [] [])) [(aT 32), (aT 5)]), aM 4 33]) (.ret)) (.skip)))) (.seq (aR [aM 34 0, aM 35 1,
 aI 36 (.call (.av (.fn (.func 220) [] [])) [(aT 34), (aT 35)]), aM 4 36]) (.ret)))))⟩
/-- inkstand/write.join$1 -/
def ac155 : AF := ⟨17, [], .seq (aR [aI 5 (.load none (aT 1)), aI 6 (.move (aN 0))]) (.block 0 (.loop (.seq (aR [aI 7 (.bin .lss .other true (aT 6) (aT 5))])
 (.seq (.cond (aT 7) (.skip) (.exit 0)) (.seq (.block 1 (.seq (aR [aM 8 6, aM 4 8]) (.seq (.seq (aR [aM 9 4, aI 10 (.bin .gtr .other true (aT 9) (aN 0))])
 (.cond (aT 10) (aR [aM 11 0, aI 12 (.call (.av (.fn (.func 98) [] [])) [(aT 11), (.av (.int .u8 32))])]) (.skip))) (aR [aI 13 (.load none (aT 2)), aM 14 4,
 aI 15 (.call (aT 13) [(aT 14)])])))) (aR [aI 16 (.bin .add .other true (aT 6) (aN 1)), aM 6 16]))))))⟩
/-- inkstand/cos.dictionary -/
def ac159 : AF := ⟨11, [.tmp 2], .seq (aR [aI 1 (.box 26 (aT 0)), aI 2 (.move (.av (.bool false)))]) (.seq (aR [aI 3 (.fieldAddr 0 (aT 1)), aI 4 (.load none (aT 3)),
 aI 5 (.bin .eql .other true (aT 4) (aN 6)), aM 6 5, aG 7 6 false (.fieldAddr 0 (aT 1)), aG 8 6 false (.load none (aT 7)), aG 9 6 false (.bin .eql .other true (aT 8) (aN 8)),
 aI 10 (.pick (aT 6) (.av (.bool true)) (aT 9)), aM 2 10]) (.ret))⟩
/-- inkstand/cos.place -/
def ac160 : AF := ⟨8, [.tmp 4], .seq (aR [aI 3 (.box 9 (aT 1)), aI 4 (.move (aN 0))]) (.seq (aR [aM 5 0, aI 6 (.mkFunc (.func 226) [] [(aT 3)]),
 aI 7 (.call (.av (.fn (.func 225) [] [])) [(aT 5), (aT 6)]), aM 4 7]) (.ret))⟩
/-- slices.DeleteFunc[[]inkstand/api.Entry,inkstand/api.Entry] -/
def ac161 : AF := ⟨42, [.tmp 4], .seq (aR [aI 4 (.move (.av (.lit (.slice none 0 0))))]) (.seq (aR [aM 8 0, aM 9 1,
 aI 10 (.call (.av (.fn (.func 225) [] [])) [(aT 8), (aT 9)]), aM 5 10]) (.seq (.seq (aR [aM 11 5, aI 12 (.bin .eql .other true (aT 11) (aN (-1)))])
 (.cond (aT 12) (.seq (aR [aM 13 0, aM 4 13]) (.ret)) (.skip))) (.seq (.seq (aR [aM 14 5, aI 15 (.bin .add .other true (aT 14) (aN 1)), aM 6 15]) (.block 0
 (.loop (.seq (.seq (aR [aM 16 6, aM 17 0, aI 18 (.len (.slice 7) (aT 17)), aI 19 (.bin .lss .other true (aT 16) (aT 18))]) (.cond (aT 19) (.skip) (.exit 0)))
 (.seq (.block 1 (.seq (aR [aM 22 0, aM 23 6, aI 24 (.indexAddr none 7 (aT 22) (aT 23)), aI 25 (.load (some 7) (aT 24)),
 aI 7 (.alloc 106 [(.str []), (.int .i64 0), (.int .i64 0), (.int .i64 0), (.str []), (.lit (.slice none 0 0)), (.lit (.slice none 0 0))]), aJ (.store 7 (aT 7) (aT 25))])
 (.seq (aR [aM 26 1, aI 27 (.load (some 7) (aT 7)), aI 28 (.call (aT 26) [(aT 27)]), aI 29 (.un .not false (aT 28))]) (.cond (aT 29) (.seq (aR [aM 30 0, aM 31 5,
 aI 32 (.load (some 7) (aT 7)), aI 33 (.indexAddr none 7 (aT 30) (aT 31)), aJ (.store 7 (aT 33) (aT 32))]) (aR [aM 34 5, aI 35 (.bin .add .other true (aT 34) (aN 1)),
 aM 5 35])) (.skip))))) (aR [aM 20 6, aI 21 (.bin .add .other true (aT 20) (aN 1)), aM 6 21])))))) (.seq (aR [aM 36 0, aM 37 5,
 aI 38 (.slice (.slice 7) (aT 36) (some (aT 37)) none),
 aJ (.xop (.clear 7 [(.str []), (.int .i64 0), (.int .i64 0), (.int .i64 0), (.str []), (.lit (.slice none 0 0)), (.lit (.slice none 0 0))]) [(aT 38)])])
 (.seq (aR [aM 39 0, aM 40 5, aI 41 (.slice (.slice 7) (aT 39) none (some (aT 40))), aM 4 41]) (.ret))))))⟩
/-- slices.Clone[[]inkstand/api.Entry,inkstand/api.Entry] -/
def ac162 : AF := ⟨8, [.tmp 2], .seq (aR [aI 2 (.move (.av (.lit (.slice none 0 0))))]) (.seq (.seq (aR [aM 3 0,
 aI 4 (.bin .eql .slice false (aT 3) (.av (.lit (.slice none 0 0))))]) (.cond (aT 4) (.seq (aR [aI 2 (.move (.av (.lit (.slice none 0 0))))]) (.ret)) (.skip)))
 (.seq (aR [aI 5 (.buildSlice true 106 7 0 [(.str []), (.int .i64 0), (.int .i64 0), (.int .i64 0), (.str []), (.lit (.slice none 0 0)), (.lit (.slice none 0 0))] []),
 aM 6 0, aI 7 (.append 106 7 104 [(.str []), (.int .i64 0), (.int .i64 0), (.int .i64 0), (.str []), (.lit (.slice none 0 0)), (.lit (.slice none 0 0))] (aT 5) (aT 6)),
 aM 2 7]) (.ret)))⟩
/-- inkstand/cos.Set$1 -/
def ac163 : AF := ⟨8, [.tmp 3], .seq (aR [aI 2 (.box 106 (aT 0)), aI 3 (.move (.av (.bool false)))]) (.seq (aR [aI 4 (.fieldAddr 0 (aT 2)), aI 5 (.load none (aT 4)),
 aI 6 (.load none (aT 1)), aI 7 (.bin .eql .other false (aT 5) (aT 6)), aM 3 7]) (.ret))⟩
/-- slices.Insert[[]inkstand/api.Entry,inkstand/api.Entry] -/
def ac164 : AF := ⟨95, [.tmp 6], .seq (aR [aI 6 (.move (.av (.lit (.slice none 0 0))))]) (.seq (aR [aM 10 0, aM 11 1,
 aI 12 (.slice (.slice 7) (aT 10) (some (aT 11)) none)]) (.seq (aR [aM 13 2, aI 14 (.len (.slice 7) (aT 13)), aM 7 14]) (.seq (.seq (aR [aM 15 7,
 aI 16 (.bin .eql .other true (aT 15) (aN 0))]) (.cond (aT 16) (.seq (aR [aM 17 0, aM 6 17]) (.ret)) (.skip))) (.seq (aR [aM 18 0,
 aI 19 (.len (.slice 7) (aT 18)), aM 8 19]) (.seq (.seq (aR [aM 20 1, aM 21 8, aI 22 (.bin .eql .other true (aT 20) (aT 21))]) (.cond (aT 22)
 (.seq (aR [aM 23 0, aM 24 2,
 aI 25 (.append 106 7 104 [(.str []), (.int .i64 0), (.int .i64 0), (.int .i64 0), (.str []), (.lit (.slice none 0 0)), (.lit (.slice none 0 0))] (aT 23) (aT 24)), aM 6 25])
 (.ret)) (.skip))) (.seq (.seq (aR [aM 26 8, aM 27 7, aI 28 (.bin .add .other true (aT 26) (aT 27)), aM 29 0, aI 30 (.xop .cap [(aT 29)]),
 aI 31 (.bin .gtr .other true (aT 28) (aT 30))]) (.cond (aT 31) (.seq (aR [aM 32 0, aM 33 1, aI 34 (.slice (.slice 7) (aT 32) none (some (aT 33))), aM 35 8, aM 36 7,
 aI 37 (.bin .add .other true (aT 35) (aT 36)), aM 38 1, aI 39 (.bin .sub .other true (aT 37) (aT 38)),
 aI 40 (.xop (.appendZ 106 7 104 [(.str []), (.int .i64 0), (.int .i64 0), (.int .i64 0), (.str []), (.lit (.slice none 0 0)), (.lit (.slice none 0 0))]) [(aT 34), (aT 39)]),
 aM 9 40]) (.seq (aR [aM 41 9, aM 42 1, aI 43 (.slice (.slice 7) (aT 41) (some (aT 42)) none), aM 44 2, aI 45 (.xop (.copy 7) [(aT 43), (aT 44)])])
 (.seq (.region [aM 46 9, aM 47 1, aM 48 7, aI 49 (.bin .add .other true (aT 47) (aT 48)), aI 50 (.slice (.slice 7) (aT 46) (some (aT 49)) none), aM 51 0, aM 52 1,
 aI 53 (.slice (.slice 7) (aT 51) (some (aT 52)) none), aI 54 (.xop (.copy 7) [(aT 50), (aT 53)])] true) (.seq (aR [aM 55 9, aM 6 55]) (.ret))))) (.skip)))
 (.seq (aR [aM 56 0, aM 57 8, aM 58 7, aI 59 (.bin .add .other true (aT 57) (aT 58)), aI 60 (.slice (.slice 7) (aT 56) none (some (aT 59))), aM 0 60])
 (.seq (.seq (aR [aM 61 2, aM 62 0, aM 63 1, aM 64 7, aI 65 (.bin .add .other true (aT 63) (aT 64)), aI 66 (.slice (.slice 7) (aT 62) (some (aT 65)) none),
 aI 67 (.call (.av (.fn (.func 227) [] [])) [(aT 61), (aT 66)]), aI 68 (.un .not false (aT 67))]) (.cond (aT 68) (.seq (.region [aM 69 0, aM 70 1, aM 71 7,
 aI 72 (.bin .add .other true (aT 70) (aT 71)), aI 73 (.slice (.slice 7) (aT 69) (some (aT 72)) none), aM 74 0, aM 75 1, aI 76 (.slice (.slice 7) (aT 74) (some (aT 75)) none),
 aI 77 (.xop (.copy 7) [(aT 73), (aT 76)])] true) (.seq (aR [aM 78 0, aM 79 1, aI 80 (.slice (.slice 7) (aT 78) (some (aT 79)) none), aM 81 2,
 aI 82 (.xop (.copy 7) [(aT 80), (aT 81)])]) (.seq (aR [aM 83 0, aM 6 83]) (.ret)))) (.skip))) (.seq (aR [aM 84 0, aM 85 8,
 aI 86 (.slice (.slice 7) (aT 84) (some (aT 85)) none), aM 87 2, aI 88 (.xop (.copy 7) [(aT 86), (aT 87)])]) (.seq (aR [aM 89 0, aM 90 1,
 aI 91 (.slice (.slice 7) (aT 89) (some (aT 90)) none), aM 92 7, aI 93 (.call (.av (.fn (.func 228) [] [])) [(aT 91), (aT 92)])]) (.seq (aR [aM 94 0, aM 6 94])
 (.ret))))))))))))⟩
/-- inkstand/write.entries -/
def ac167 : AF := ⟨27, [.tmp 2], .seq (aR [aI 2 (.move (aN 0))]) (.seq (aR [aI 6 (.xop .makeMap []), aM 3 6]) (.seq (.seq (aR [aM 7 0,
 aI 8 (.len (.slice 7) (aT 7)), aI 9 (.move (aN 0))]) (.block 0 (.loop (.seq (aR [aI 10 (.bin .lss .other true (aT 9) (aT 8))]) (.seq (.cond (aT 10) (.skip)
 (.exit 0)) (.seq (.block 1 (.seq (aR [aI 11 (.indexAddr none 7 (aT 7) (aT 9)), aI 12 (.load (some 7) (aT 11)),
 aI 5 (.alloc 106 [(.str []), (.int .i64 0), (.int .i64 0), (.int .i64 0), (.str []), (.lit (.slice none 0 0)), (.lit (.slice none 0 0))]), aJ (.store 7 (aT 5) (aT 12))])
 (.seq (.seq (aR [aI 13 (.fieldAddr 1 (aT 5)), aI 14 (.fieldAddr 0 (aT 13)), aI 15 (.load none (aT 14)), aI 16 (.bin .eql .other true (aT 15) (aN 0)), aM 17 16,
 aG 18 17 false (.move (aT 3)), aG 19 17 false (.fieldAddr 0 (aT 5)), aG 20 17 false (.load none (aT 19)),
 aG 21 17 false (.xop (.lookup true false (.bool false)) [(aT 18), (aT 20)]), aI 22 (.pick (aT 17) (.av (.bool true)) (aT 21))]) (.cond (aT 22)
 (.seq (aR [aI 2 (.move (aN 1))]) (.ret)) (.skip))) (aR [aM 23 3, aI 24 (.fieldAddr 0 (aT 5)), aI 25 (.load none (aT 24)),
 aJ (.xop (.mapUpdate true) [(aT 23), (aT 25), (.av (.bool true))])])))) (aR [aI 26 (.bin .add .other true (aT 9) (aN 1)), aM 9 26])))))))
 (.seq (aR [aI 2 (.move (aN 0))]) (.ret))))⟩
/-- inkstand/write.nested -/
def ac168 : AF := ⟨13, [.tmp 2], .seq (aR [aI 2 (.move (.av (.bool false)))]) (.seq (aR [aM 3 0, aI 4 (.bin .eql .other true (aT 3) (aN 5)), aM 5 4,
 aG 6 5 false (.move (aT 0)), aG 7 5 false (.bin .eql .other true (aT 6) (aN 6)), aI 8 (.pick (aT 5) (.av (.bool true)) (aT 7)), aM 9 8, aG 10 9 false (.move (aT 0)),
 aG 11 9 false (.bin .eql .other true (aT 10) (aN 8)), aI 12 (.pick (aT 9) (.av (.bool true)) (aT 11)), aM 2 12]) (.ret))⟩
/-- (*inkstand/cos.parser).number -/
def ac169 : AF := ⟨65, [.cell 4 (some 6)], .seq (aR [aI 3 (.box 138 (aT 1)),
 aI 4 (.alloc 26 [(.int .i64 0), (.int .i64 0), (.int .i64 0), (.str []), (.lit (.slice none 0 0)), (.lit (.slice none 0 0))])]) (.seq (aR [aI 11 (.fieldAddr 1 (aT 3)),
 aI 12 (.load none (aT 11)),
 aI 13 (.build [(.int .i64 0), (.int .i64 0), (.int .i64 0), (.str []), (.lit (.slice none 0 0)), (.lit (.slice none 0 0))] [(0, 1, (aN 2)), (2, 1, (aT 12))]),
 aI 5 (.alloc 26 [(.int .i64 0), (.int .i64 0), (.int .i64 0), (.str []), (.lit (.slice none 0 0)), (.lit (.slice none 0 0))]), aJ (.store 6 (aT 5) (aT 13))])
 (.seq (.seq (aR [aI 14 (.fieldAddr 3 (aT 3)), aI 15 (.load none (aT 14))]) (.cond (aT 15) (aR [aI 16 (.fieldAddr 1 (aT 5)), aJ (.store 1 (aT 16) (aN 1))])
 (.skip))) (.seq (aR [aM 17 0, aI 18 (.nilCheck (aT 17)), aI 19 (.load (some 3) (aT 18)), aI 6 (.alloc 109 [(.str []), (.int .i64 0), (.int .i64 0)]),
 aJ (.store 3 (aT 6) (aT 19))]) (.seq (aR [aI 21 (.call (.av (.fn (.func 115) [] [])) [(aT 6)]), aM 20 21, aI 22 (.extract (aT 20) 0), aI 23 (.extract (aT 20) 1),
 aI 7 (.alloc 138 [(.int .i64 0), (.int .i64 0), (.str []), (.bool false), (.int .i64 0), (.int .i64 0)]), aJ (.store 6 (aT 7) (aT 22)), aM 8 23])
 (.seq (.seq (aR [aI 24 (.load (some 6) (aT 3)), aI 25 (.call (.av (.fn (.func 229) [] [])) [(aT 24)]), aI 26 (.un .not false (aT 25)), aM 27 26,
 aG 28 27 false (.move (aT 8)), aG 29 27 false (.bin .neq .other true (aT 28) (aN 0)), aI 30 (.pick (aT 27) (.av (.bool true)) (aT 29)), aM 31 30,
 aG 32 31 false (.load (some 6) (aT 7)), aG 33 31 false (.call (.av (.fn (.func 229) [] [])) [(aT 32)]), aG 34 31 false (.un .not false (aT 33)),
 aI 35 (.pick (aT 31) (.av (.bool true)) (aT 34))]) (.cond (aT 35) (.seq (aR [aI 36 (.load (some 6) (aT 5)), aJ (.store 6 (aT 4) (aT 36))]) (.ret)) (.skip)))
 (.seq (.seq (aR [aI 38 (.call (.av (.fn (.func 115) [] [])) [(aT 6)]), aM 37 38, aI 39 (.extract (aT 37) 0), aI 40 (.extract (aT 37) 1),
 aI 9 (.alloc 138 [(.int .i64 0), (.int .i64 0), (.str []), (.bool false), (.int .i64 0), (.int .i64 0)]), aJ (.store 6 (aT 9) (aT 39)), aM 10 40]) (.seq (aR [aM 41 10,
 aI 42 (.bin .neq .other true (aT 41) (aN 0)), aM 43 42, aG 44 43 false (.fieldAddr 0 (aT 9)), aG 45 43 false (.load none (aT 44)),
 aG 46 43 false (.bin .neq .other true (aT 45) (aN 8)), aI 47 (.pick (aT 43) (.av (.bool true)) (aT 46)), aM 48 47, aG 49 48 false (.fieldAddr 2 (aT 9)),
 aG 50 48 false (.load none (aT 49)), aG 51 48 false (.bin .neq .other false (aT 50) (.av (.str [82]))), aI 52 (.pick (aT 48) (.av (.bool true)) (aT 51))]) (.cond (aT 52)
 (.seq (aR [aI 53 (.load (some 6) (aT 5)), aJ (.store 6 (aT 4) (aT 53))]) (.ret)) (.skip)))) (.seq (aR [aM 54 0, aI 55 (.fieldAddr 1 (aT 6)),
 aI 56 (.load none (aT 55)), aI 57 (.nilCheck (aT 54)), aI 58 (.fieldAddr 1 (aT 57)), aJ (.store 1 (aT 58) (aT 56))]) (.seq (aR [aI 59 (.fieldAddr 1 (aT 3)),
 aI 60 (.load none (aT 59)), aI 61 (.bin .quo .other true (aT 60) (aN 1000)), aI 62 (.fieldAddr 1 (aT 7)), aI 63 (.load none (aT 62)),
 aI 64 (.build [(.int .i64 0), (.int .i64 0), (.int .i64 0), (.str []), (.lit (.slice none 0 0)), (.lit (.slice none 0 0))] [(0, 1, (aN 7)), (1, 1, (aT 61)), (2, 1, (aT 63))]),
 aJ (.store 6 (aT 4) (aT 64))]) (.ret)))))))))⟩
/-- inkstand/cos.Word -/
def ac170 : AF := ⟨5, [.cell 2 (some 6)],
 .seq (aR [aI 2 (.alloc 26 [(.int .i64 0), (.int .i64 0), (.int .i64 0), (.str []), (.lit (.slice none 0 0)), (.lit (.slice none 0 0))])]) (.seq (aR [aM 3 0,
 aI 4 (.build [(.int .i64 0), (.int .i64 0), (.int .i64 0), (.str []), (.lit (.slice none 0 0)), (.lit (.slice none 0 0))] [(0, 1, (aN 3)), (3, 1, (aT 3))]),
 aJ (.store 6 (aT 2) (aT 4))]) (.ret))⟩
/-- (*inkstand/cos.parser).within -/
def ac171 : AF := ⟨38, [.cell 4 (some 6), .tmp 5],
 .seq (aR [aI 4 (.alloc 26 [(.int .i64 0), (.int .i64 0), (.int .i64 0), (.str []), (.lit (.slice none 0 0)), (.lit (.slice none 0 0))]), aI 5 (.move (aN 0))])
 (.seq (.seq (aR [aM 8 0, aI 9 (.nilCheck (aT 8)), aI 10 (.fieldAddr 2 (aT 9)), aI 11 (.load none (aT 10)), aI 12 (.bin .eql .other true (aT 11) (aN 64))])
 (.cond (aT 12) (.seq (aR [aI 13 (.build [(.int .i64 0), (.int .i64 0), (.int .i64 0), (.str []), (.lit (.slice none 0 0)), (.lit (.slice none 0 0))] []),
 aJ (.store 6 (aT 4) (aT 13)), aI 5 (.move (aN 5))]) (.ret)) (.skip))) (.seq (aR [aM 14 0, aI 15 (.nilCheck (aT 14)), aI 16 (.fieldAddr 2 (aT 15)),
 aI 17 (.load none (aT 16)), aI 18 (.bin .add .other true (aT 17) (aN 1)), aI 19 (.nilCheck (aT 14)), aI 20 (.fieldAddr 2 (aT 19)), aJ (.store 1 (aT 20) (aT 18))])
 (.seq (aR [aM 22 1, aI 23 (.call (aT 22) []), aM 21 23, aI 24 (.extract (aT 21) 0), aI 25 (.extract (aT 21) 1),
 aI 6 (.alloc 26 [(.int .i64 0), (.int .i64 0), (.int .i64 0), (.str []), (.lit (.slice none 0 0)), (.lit (.slice none 0 0))]), aJ (.store 6 (aT 6) (aT 24)), aM 7 25])
 (.seq (aR [aM 26 0, aI 27 (.nilCheck (aT 26)), aI 28 (.fieldAddr 2 (aT 27)), aI 29 (.load none (aT 28)), aI 30 (.bin .sub .other true (aT 29) (aN 1)),
 aI 31 (.nilCheck (aT 26)), aI 32 (.fieldAddr 2 (aT 31)), aJ (.store 1 (aT 32) (aT 30))]) (.seq (.seq (aR [aM 33 7, aI 34 (.bin .neq .other true (aT 33) (aN 0))])
 (.cond (aT 34) (.seq (aR [aI 35 (.build [(.int .i64 0), (.int .i64 0), (.int .i64 0), (.str []), (.lit (.slice none 0 0)), (.lit (.slice none 0 0))] []), aM 36 7,
 aJ (.store 6 (aT 4) (aT 35)), aM 5 36]) (.ret)) (.skip))) (.seq (aR [aI 37 (.load (some 6) (aT 6)), aJ (.store 6 (aT 4) (aT 37)), aI 5 (.move (aN 0))])
 (.ret)))))))⟩
/-- (*inkstand/cos.parser).array -/
def ac172 : AF := ⟨51, [.cell 2 (some 6), .tmp 3],
 .seq (aR [aI 2 (.alloc 26 [(.int .i64 0), (.int .i64 0), (.int .i64 0), (.str []), (.lit (.slice none 0 0)), (.lit (.slice none 0 0))]), aI 3 (.move (aN 0))])
 (.seq (aR [aI 8 (.build [(.int .i64 0), (.int .i64 0), (.int .i64 0), (.str []), (.lit (.slice none 0 0)), (.lit (.slice none 0 0))] [(0, 1, (aN 5))]),
 aI 4 (.alloc 26 [(.int .i64 0), (.int .i64 0), (.int .i64 0), (.str []), (.lit (.slice none 0 0)), (.lit (.slice none 0 0))]), aJ (.store 6 (aT 4) (aT 8))]) (.block 0
 (.loop (.block 1 (.seq (aR [aM 10 0, aI 11 (.call (.av (.fn (.func 115) [] [])) [(aT 10)]), aM 9 11, aI 12 (.extract (aT 9) 0), aI 13 (.extract (aT 9) 1),
 aI 5 (.alloc 138 [(.int .i64 0), (.int .i64 0), (.str []), (.bool false), (.int .i64 0), (.int .i64 0)]), aJ (.store 6 (aT 5) (aT 12)), aM 6 13]) (.seq (.block 2
 (.seq (aR [aM 15 6, aI 16 (.bin .neq .other true (aT 15) (aN 0)), aM 14 16]) (.cond (aT 14) (.seq (aR [aI 17 (.load (some 6) (aT 4)), aM 18 6,
 aJ (.store 6 (aT 2) (aT 17)), aM 3 18]) (.ret)) (.seq (aR [aI 20 (.fieldAddr 0 (aT 5)), aI 21 (.load none (aT 20)), aI 22 (.bin .eql .other true (aT 21) (aN 5)),
 aM 19 22]) (.cond (aT 19) (.seq (aR [aI 23 (.load (some 6) (aT 4)), aJ (.store 6 (aT 2) (aT 23)), aI 3 (.move (aN 0))]) (.ret))
 (.seq (aR [aI 25 (.fieldAddr 0 (aT 5)), aI 26 (.load none (aT 25)), aI 27 (.bin .neq .other true (aT 26) (aN 0)), aM 28 27, aG 29 28 true (.fieldAddr 4 (aT 4)),
 aG 30 28 true (.load none (aT 29)), aG 31 28 true (.len (.slice 6) (aT 30)), aG 32 28 true (.bin .eql .other true (aT 31) (aN 1024)),
 aI 33 (.pick (aT 28) (aT 32) (.av (.bool false))), aM 24 33]) (.cond (aT 24) (.seq (aR [aI 34 (.load (some 6) (aT 4)), aJ (.store 6 (aT 2) (aT 34)),
 aI 3 (.move (aN 6))]) (.ret)) (.skip)))))))) (.seq (aR [aM 36 0, aI 37 (.load (some 6) (aT 5)), aI 38 (.call (.av (.fn (.func 116) [] [])) [(aT 36), (aT 37)]),
 aM 35 38, aI 39 (.extract (aT 35) 0), aI 40 (.extract (aT 35) 1),
 aI 7 (.alloc 26 [(.int .i64 0), (.int .i64 0), (.int .i64 0), (.str []), (.lit (.slice none 0 0)), (.lit (.slice none 0 0))]), aJ (.store 6 (aT 7) (aT 39)), aM 6 40])
 (.seq (.seq (aR [aM 41 6, aI 42 (.bin .neq .other true (aT 41) (aN 0))]) (.cond (aT 42) (.seq (aR [aI 43 (.load (some 6) (aT 4)), aM 44 6,
 aJ (.store 6 (aT 2) (aT 43)), aM 3 44]) (.ret)) (.skip))) (aR [aI 45 (.fieldAddr 4 (aT 4)), aI 46 (.load none (aT 45)), aI 47 (.load (some 6) (aT 7)),
 aI 48 (.buildSlice false 26 6 1 [(.int .i64 0), (.int .i64 0), (.int .i64 0), (.str []), (.lit (.slice none 0 0)), (.lit (.slice none 0 0))] [(0, (aT 47))]),
 aI 49 (.append 26 6 88 [(.int .i64 0), (.int .i64 0), (.int .i64 0), (.str []), (.lit (.slice none 0 0)), (.lit (.slice none 0 0))] (aT 46) (aT 48)), aI 50 (.fieldAddr 4 (aT 4)),
 aJ (.store 1 (aT 50) (aT 49))])))))))))⟩
/-- (*inkstand/cos.parser).dict -/
def ac173 : AF := ⟨55, [.cell 2 (some 6), .tmp 3],
 .seq (aR [aI 2 (.alloc 26 [(.int .i64 0), (.int .i64 0), (.int .i64 0), (.str []), (.lit (.slice none 0 0)), (.lit (.slice none 0 0))]), aI 3 (.move (aN 0))])
 (.seq (aR [aI 9 (.build [(.int .i64 0), (.int .i64 0), (.int .i64 0), (.str []), (.lit (.slice none 0 0)), (.lit (.slice none 0 0))] [(0, 1, (aN 6))]),
 aI 4 (.alloc 26 [(.int .i64 0), (.int .i64 0), (.int .i64 0), (.str []), (.lit (.slice none 0 0)), (.lit (.slice none 0 0))]), aJ (.store 6 (aT 4) (aT 9))])
 (.seq (aR [aI 5 (.move (aN 0))]) (.block 0 (.loop (.seq (.block 1 (.seq (aR [aM 13 0, aI 14 (.call (.av (.fn (.func 115) [] [])) [(aT 13)]), aM 12 14,
 aI 15 (.extract (aT 12) 0), aI 16 (.extract (aT 12) 1), aI 6 (.alloc 138 [(.int .i64 0), (.int .i64 0), (.str []), (.bool false), (.int .i64 0), (.int .i64 0)]),
 aJ (.store 6 (aT 6) (aT 15)), aM 7 16]) (.seq (.block 2 (.seq (aR [aM 18 7, aI 19 (.bin .neq .other true (aT 18) (aN 0)), aM 17 19]) (.cond (aT 17)
 (.seq (aR [aI 20 (.load (some 6) (aT 4)), aM 21 7, aJ (.store 6 (aT 2) (aT 20)), aM 3 21]) (.ret)) (.seq (aR [aI 23 (.fieldAddr 0 (aT 6)),
 aI 24 (.load none (aT 23)), aI 25 (.bin .eql .other true (aT 24) (aN 7)), aM 22 25]) (.cond (aT 22) (.seq (aR [aI 26 (.load (some 6) (aT 4)),
 aJ (.store 6 (aT 2) (aT 26)), aI 3 (.move (aN 0))]) (.ret)) (.seq (aR [aI 28 (.fieldAddr 0 (aT 6)), aI 29 (.load none (aT 28)),
 aI 30 (.bin .eql .other true (aT 29) (aN 0)), aM 27 30]) (.cond (aT 27) (.seq (aR [aI 31 (.load (some 6) (aT 4)), aJ (.store 6 (aT 2) (aT 31)),
 aI 3 (.move (aN 4))]) (.ret)) (.seq (aR [aM 33 5, aI 34 (.bin .eql .other true (aT 33) (aN 1024)), aM 32 34]) (.cond (aT 32)
 (.seq (aR [aI 35 (.load (some 6) (aT 4)), aJ (.store 6 (aT 2) (aT 35)), aI 3 (.move (aN 6))]) (.ret)) (.seq (aR [aI 37 (.fieldAddr 0 (aT 6)),
 aI 38 (.load none (aT 37)), aI 39 (.bin .neq .other true (aT 38) (aN 2)), aM 36 39]) (.cond (aT 36) (.seq (aR [aI 40 (.load (some 6) (aT 4)),
 aJ (.store 6 (aT 2) (aT 40)), aI 3 (.move (aN 3))]) (.ret)) (.skip)))))))))))) (.seq (aR [aM 42 0, aI 43 (.call (.av (.fn (.func 64) [] [])) [(aT 42)]), aM 41 43,
 aI 44 (.extract (aT 41) 0), aI 45 (.extract (aT 41) 1),
 aI 8 (.alloc 26 [(.int .i64 0), (.int .i64 0), (.int .i64 0), (.str []), (.lit (.slice none 0 0)), (.lit (.slice none 0 0))]), aJ (.store 6 (aT 8) (aT 44)), aM 7 45])
 (.seq (.seq (aR [aM 46 7, aI 47 (.bin .neq .other true (aT 46) (aN 0))]) (.cond (aT 47) (.seq (aR [aI 48 (.load (some 6) (aT 4)), aM 49 7,
 aJ (.store 6 (aT 2) (aT 48)), aM 3 49]) (.ret)) (.skip))) (aR [aI 50 (.load (some 6) (aT 4)), aI 51 (.fieldAddr 2 (aT 6)), aI 52 (.load none (aT 51)),
 aI 53 (.load (some 6) (aT 8)), aI 54 (.call (.av (.fn (.func 106) [] [])) [(aT 50), (aT 52), (aT 53)]), aJ (.store 6 (aT 4) (aT 54))])))))) (aR [aM 10 5,
 aI 11 (.bin .add .other true (aT 10) (aN 1)), aM 5 11]))))))⟩
/-- inkstand/cos.word -/
def ac174 : AF := ⟨15, [.cell 2 (some 6), .tmp 3],
 .seq (aR [aI 2 (.alloc 26 [(.int .i64 0), (.int .i64 0), (.int .i64 0), (.str []), (.lit (.slice none 0 0)), (.lit (.slice none 0 0))]), aI 3 (.move (aN 0))])
 (.seq (.seq (aR [aM 4 0]) (.block 0 (.seq (aR [aI 6 (.bin .eql .other false (aT 4) (.av (.str [116, 114, 117, 101]))), aM 5 6]) (.cond (aT 5)
 (.seq (aR [aI 7 (.build [(.int .i64 0), (.int .i64 0), (.int .i64 0), (.str []), (.lit (.slice none 0 0)), (.lit (.slice none 0 0))] [(0, 1, (aN 1)), (1, 1, (aN 1))]),
 aJ (.store 6 (aT 2) (aT 7)), aI 3 (.move (aN 0))]) (.ret)) (.seq (aR [aI 9 (.bin .eql .other false (aT 4) (.av (.str [102, 97, 108, 115, 101]))), aM 8 9])
 (.cond (aT 8) (.seq (aR [aI 10 (.build [(.int .i64 0), (.int .i64 0), (.int .i64 0), (.str []), (.lit (.slice none 0 0)), (.lit (.slice none 0 0))] [(0, 1, (aN 1))]),
 aJ (.store 6 (aT 2) (aT 10)), aI 3 (.move (aN 0))]) (.ret)) (.seq (aR [aI 12 (.bin .eql .other false (aT 4) (.av (.str [110, 117, 108, 108]))), aM 11 12])
 (.cond (aT 11) (.seq (aR [aI 13 (.build [(.int .i64 0), (.int .i64 0), (.int .i64 0), (.str []), (.lit (.slice none 0 0)), (.lit (.slice none 0 0))] []),
 aJ (.store 6 (aT 2) (aT 13)), aI 3 (.move (aN 0))]) (.ret)) (.skip)))))))))
 (.seq (aR [aI 14 (.build [(.int .i64 0), (.int .i64 0), (.int .i64 0), (.str []), (.lit (.slice none 0 0)), (.lit (.slice none 0 0))] []), aJ (.store 6 (aT 2) (aT 14)),
 aI 3 (.move (aN 3))]) (.ret)))⟩
/-- inkstand/fix.told -/
def ac176 : AF := ⟨9, [.tmp 2, .tmp 3], .seq (aR [aI 2 (.move (aN 0)), aI 3 (.move (aN 0))]) (.seq (.seq (aR [aM 4 0,
 aI 5 (.buildSlice false 22 1 1 [(.int .i64 0)] [(0, (aT 4))]), aI 6 (.call (.av (.fn (.func 117) [] [])) [(aT 5)]), aI 7 (.un .not false (aT 6))]) (.cond (aT 7)
 (.seq (aR [aI 2 (.move (aN 0)), aI 3 (.move (aN 2))]) (.ret)) (.skip))) (.seq (aR [aM 8 0, aM 2 8, aI 3 (.move (aN 0))]) (.ret)))⟩
/-- inkstand/lex.White -/
def ac178 : AF := ⟨11, [.tmp 2], .seq (aR [aI 2 (.move (.av (.bool false)))]) (.seq (.seq (aR [aM 3 0]) (.block 0
 (.seq (.seq (aR [aI 5 (.bin .eql .other false (aT 3) (.av (.int .u8 0))), aM 4 5]) (.cond (aT 4) (.skip)
 (.seq (aR [aI 6 (.bin .eql .other false (aT 3) (.av (.int .u8 9))), aM 4 6]) (.cond (aT 4) (.skip)
 (.seq (aR [aI 7 (.bin .eql .other false (aT 3) (.av (.int .u8 10))), aM 4 7]) (.cond (aT 4) (.skip)
 (.seq (aR [aI 8 (.bin .eql .other false (aT 3) (.av (.int .u8 12))), aM 4 8]) (.cond (aT 4) (.skip)
 (.seq (aR [aI 9 (.bin .eql .other false (aT 3) (.av (.int .u8 13))), aM 4 9]) (.cond (aT 4) (.skip)
 (aR [aI 10 (.bin .eql .other false (aT 3) (.av (.int .u8 32))), aM 4 10]))))))))))) (.cond (aT 4) (.seq (aR [aI 2 (.move (.av (.bool true)))]) (.ret))
 (.skip))))) (.seq (aR [aI 2 (.move (.av (.bool false)))]) (.ret)))⟩
/-- inkstand/lex.Delim -/
def ac179 : AF := ⟨6, [.tmp 2], .seq (aR [aI 2 (.move (.av (.bool false)))]) (.seq (aR [aM 3 0,
 aI 4 (.call (.av (.fn (.func 151) [] [])) [(.av (.str [40, 41, 60, 62, 91, 93, 123, 125, 47, 37])), (aT 3)]), aI 5 (.bin .geq .other true (aT 4) (aN 0)), aM 2 5]) (.ret))⟩
/-- slices.ContainsFunc[[]inkstand/api.Obj,inkstand/api.Obj] -/
def ac180 : AF := ⟨9, [.tmp 4], .seq (aR [aI 4 (.move (.av (.bool false)))]) (.seq (aR [aM 5 0, aM 6 1, aI 7 (.call (.av (.fn (.func 230) [] [])) [(aT 5), (aT 6)]),
 aI 8 (.bin .geq .other true (aT 7) (aN 0)), aM 4 8]) (.ret))⟩
/-- slices.ContainsFunc[[]inkstand/api.Entry,inkstand/api.Entry] -/
def ac181 : AF := ⟨9, [.tmp 4], .seq (aR [aI 4 (.move (.av (.bool false)))]) (.seq (aR [aM 5 0, aM 6 1, aI 7 (.call (.av (.fn (.func 225) [] [])) [(aT 5), (aT 6)]),
 aI 8 (.bin .geq .other true (aT 7) (aN 0)), aM 4 8]) (.ret))⟩
/-- inkstand/ops.refers$1 -/
def ac182 : AF := ⟨6, [.tmp 2], .seq (aR [aI 1 (.box 106 (aT 0)), aI 2 (.move (.av (.bool false)))]) (.seq (aR [aI 3 (.fieldAddr 1 (aT 1)),
 aI 4 (.load (some 6) (aT 3)), aI 5 (.call (.av (.fn (.func 123) [] [])) [(aT 4)]), aM 2 5]) (.ret))⟩
/-- strings.HasPrefix -/
def ac185 : AF := ⟨8, [.tmp 4], .seq (aR [aI 4 (.move (.av (.bool false)))]) (.seq (aR [aM 5 0, aM 6 1, aI 7 (.call (.av (.fn (.func 231) [] [])) [(aT 5), (aT 6)]),
 aM 4 7]) (.ret))⟩
/-- inkstand/lex.while -/
def ac200 : AF := ⟨21, [.tmp 6], .seq (aR [aI 6 (.move (aN 0))]) (.seq (.block 0 (.loop (.seq (.seq (aR [aM 7 1, aM 8 0, aI 9 (.len .str (aT 8)),
 aI 10 (.bin .lss .other true (aT 7) (aT 9)), aM 11 10, aG 12 11 true (.move (aT 2)), aG 13 11 true (.move (aT 0)), aG 14 11 true (.move (aT 1)),
 aG 15 11 true (.indexStr (aT 13) (aT 14)), aG 16 11 true (.call (aT 12) [(aT 15)]), aI 17 (.pick (aT 11) (aT 16) (.av (.bool false)))]) (.cond (aT 17) (.skip) (.exit 0)))
 (.block 1 (aR [aM 18 1, aI 19 (.bin .add .other true (aT 18) (aN 1)), aM 1 19]))))) (.seq (aR [aM 20 1, aM 6 20]) (.ret)))⟩
/-- inkstand/lex.Space$1 -/
def ac201 : AF := ⟨9, [.tmp 2], .seq (aR [aI 2 (.move (.av (.bool false)))]) (.seq (aR [aM 3 0, aI 4 (.bin .neq .other false (aT 3) (.av (.int .u8 10))), aM 5 4,
 aG 6 5 true (.move (aT 0)), aG 7 5 true (.bin .neq .other false (aT 6) (.av (.int .u8 13))), aI 8 (.pick (aT 5) (aT 7) (.av (.bool false))), aM 2 8]) (.ret))⟩
/-- inkstand/lex.name -/
def ac202 : AF := ⟨28, [.cell 4 (some 6), .tmp 5], .seq (aR [aI 3 (.box 138 (aT 1)),
 aI 4 (.alloc 138 [(.int .i64 0), (.int .i64 0), (.str []), (.bool false), (.int .i64 0), (.int .i64 0)]), aI 5 (.move (aN 0))]) (.seq (aR [aM 7 0,
 aI 8 (.fieldAddr 4 (aT 3)), aI 9 (.load none (aT 8)), aI 10 (.bin .add .other true (aT 9) (aN 1)),
 aI 11 (.call (.av (.fn (.func 200) [] [])) [(aT 7), (aT 10), (.av (.fn (.func 150) [] []))]), aI 12 (.fieldAddr 0 (aT 3)), aJ (.store 1 (aT 12) (aN 2)),
 aI 13 (.fieldAddr 5 (aT 3)), aJ (.store 1 (aT 13) (aT 11))]) (.seq (aR [aI 6 (.move (aN 0))]) (.seq (aR [aM 15 0, aI 16 (.fieldAddr 4 (aT 3)),
 aI 17 (.load none (aT 16)), aI 18 (.bin .add .other true (aT 17) (aN 1)), aI 19 (.fieldAddr 5 (aT 3)), aI 20 (.load none (aT 19)),
 aI 21 (.slice .str (aT 15) (some (aT 18)) (some (aT 20))), aI 22 (.call (.av (.fn (.func 238) [] [])) [(aT 21)]), aM 14 22, aI 23 (.extract (aT 14) 0),
 aI 24 (.extract (aT 14) 1), aI 25 (.fieldAddr 2 (aT 3)), aJ (.store 1 (aT 25) (aT 23)), aM 6 24]) (.seq (aR [aI 26 (.load (some 6) (aT 3)), aM 27 6,
 aJ (.store 6 (aT 4) (aT 26)), aM 5 27]) (.ret)))))⟩
/-- inkstand/lex.text -/
def ac203 : AF := ⟨68, [.cell 4 (some 6), .tmp 5], .seq (aR [aI 3 (.box 138 (aT 1)),
 aI 4 (.alloc 138 [(.int .i64 0), (.int .i64 0), (.str []), (.bool false), (.int .i64 0), (.int .i64 0)]), aI 5 (.move (aN 0))]) (.seq (aR [aI 6 (.bld 90 5)])
 (.seq (aR [aI 7 (.move (aN 0))]) (.seq (.seq (aR [aI 10 (.fieldAddr 4 (aT 3)), aI 11 (.load none (aT 10)), aI 12 (.bin .add .other true (aT 11) (aN 1)),
 aM 8 12]) (.block 0 (.loop (.seq (.seq (aR [aM 13 8, aM 14 0, aI 15 (.len .str (aT 14)), aI 16 (.bin .lss .other true (aT 13) (aT 15))]) (.cond (aT 16) (.skip)
 (.exit 0))) (.seq (.block 1 (.seq (.seq (aR [aM 19 0, aM 20 8, aI 21 (.indexStr (aT 19) (aT 20)), aM 9 21]) (.seq (aR [aM 22 9]) (.block 2
 (.seq (aR [aI 24 (.bin .eql .other false (aT 22) (.av (.int .u8 92))), aM 23 24]) (.cond (aT 23) (.seq (.seq (aR [aM 25 8,
 aI 26 (.bin .add .other true (aT 25) (aN 1)), aM 27 0, aI 28 (.len .str (aT 27)), aI 29 (.bin .eql .other true (aT 26) (aT 28))]) (.cond (aT 29)
 (.seq (aR [aI 30 (.build [(.int .i64 0), (.int .i64 0), (.str []), (.bool false), (.int .i64 0), (.int .i64 0)] []), aJ (.store 6 (aT 4) (aT 30)),
 aI 5 (.move (aN 4))]) (.ret)) (.skip))) (.seq (aR [aM 31 8, aM 32 0, aM 33 8, aI 34 (.bin .add .other true (aT 33) (aN 1)),
 aI 35 (.slice .str (aT 32) (some (aT 34)) none), aI 36 (.call (.av (.fn (.func 239) [] [])) [(aT 6), (aT 35)]), aI 37 (.bin .add .other true (aT 31) (aT 36)), aM 8 37])
 (.exit 1))) (.seq (aR [aI 39 (.bin .eql .other false (aT 22) (.av (.int .u8 40))), aM 38 39]) (.cond (aT 38) (aR [aM 40 7,
 aI 41 (.bin .add .other true (aT 40) (aN 1)), aM 7 41]) (.seq (aR [aI 43 (.bin .eql .other false (aT 22) (.av (.int .u8 41))), aM 42 43]) (.cond (aT 42)
 (.seq (.seq (aR [aM 44 7, aI 45 (.bin .eql .other true (aT 44) (aN 0))]) (.cond (aT 45) (.seq (aR [aI 46 (.call (.av (.fn (.func 53) [] [])) [(aT 6)]), aM 47 8,
 aI 48 (.bin .add .other true (aT 47) (aN 1)), aI 49 (.fieldAddr 0 (aT 3)), aJ (.store 1 (aT 49) (aN 3)), aI 50 (.fieldAddr 2 (aT 3)), aJ (.store 1 (aT 50) (aT 46)),
 aI 51 (.fieldAddr 5 (aT 3)), aJ (.store 1 (aT 51) (aT 48))]) (.seq (aR [aI 52 (.load (some 6) (aT 3)), aJ (.store 6 (aT 4) (aT 52)), aI 5 (.move (aN 0))])
 (.ret))) (.skip))) (aR [aM 53 7, aI 54 (.bin .sub .other true (aT 53) (aN 1)), aM 7 54])) (.seq (aR [aI 56 (.bin .eql .other false (aT 22) (.av (.int .u8 13))),
 aM 55 56]) (.cond (aT 55) (.seq (.seq (aR [aM 57 0, aM 58 8, aI 59 (.slice .str (aT 57) (some (aT 58)) none),
 aI 60 (.call (.av (.fn (.func 185) [] [])) [(aT 59), (.av (.str [13, 10]))]), aI 61 (.un .not false (aT 60))]) (.cond (aT 61)
 (aR [aI 62 (.call (.av (.fn (.func 98) [] [])) [(aT 6), (.av (.int .u8 10))])]) (.skip))) (.exit 1)) (.skip)))))))))))) (aR [aM 63 0, aM 64 8,
 aI 65 (.indexStr (aT 63) (aT 64)), aI 66 (.call (.av (.fn (.func 98) [] [])) [(aT 6), (aT 65)])]))) (aR [aM 17 8, aI 18 (.bin .add .other true (aT 17) (aN 1)),
 aM 8 18])))))) (.seq (aR [aI 67 (.build [(.int .i64 0), (.int .i64 0), (.str []), (.bool false), (.int .i64 0), (.int .i64 0)] []), aJ (.store 6 (aT 4) (aT 67)),
 aI 5 (.move (aN 4))]) (.ret)))))⟩
/-- inkstand/lex.digits -/
def ac204 : AF := ⟨77, [.cell 4 (some 6), .tmp 5], .seq (aR [aI 3 (.box 138 (aT 1)),
 aI 4 (.alloc 138 [(.int .i64 0), (.int .i64 0), (.str []), (.bool false), (.int .i64 0), (.int .i64 0)]), aI 5 (.move (aN 0))])
 (.seq (aR [aI 6 (.move (.av (.lit (.slice none 0 0))))]) (.seq (.seq (aR [aI 11 (.fieldAddr 4 (aT 3)), aI 12 (.load none (aT 11)),
 aI 13 (.bin .add .other true (aT 12) (aN 1)), aM 7 13]) (.block 0 (.loop (.seq (.seq (aR [aM 14 7, aM 15 0, aI 16 (.len .str (aT 15)),
 aI 17 (.bin .lss .other true (aT 14) (aT 16))]) (.cond (aT 17) (.skip) (.exit 0))) (.seq (.block 1 (.seq (aR [aM 21 0, aM 22 7, aI 23 (.indexStr (aT 21) (aT 22)),
 aI 24 (.call (.av (.fn (.func 240) [] [])) [(aT 23)]), aM 20 24, aI 25 (.extract (aT 20) 0), aI 26 (.extract (aT 20) 1), aM 8 25, aM 9 26]) (.block 2
 (.seq (aR [aM 28 9, aM 27 28]) (.cond (aT 27) (aR [aM 29 6, aM 30 8, aI 31 (.buildSlice false 5 1 1 [(.int .u8 0)] [(0, (aT 30))]),
 aI 32 (.append 5 1 1 [(.int .u8 0)] (aT 29) (aT 31)), aM 6 32]) (.seq (aR [aM 34 0, aM 35 7, aI 36 (.indexStr (aT 34) (aT 35)),
 aI 37 (.bin .eql .other false (aT 36) (.av (.int .u8 62))), aM 33 37]) (.cond (aT 33) (.seq (aR [aM 38 6,
 aI 39 (.buildSlice false 5 1 1 [(.int .u8 0)] [(0, (.av (.int .u8 0)))]), aI 40 (.append 5 1 1 [(.int .u8 0)] (aT 38) (aT 39)), aM 6 40]) (.seq (aR [aM 41 7,
 aI 42 (.bin .add .other true (aT 41) (aN 1)), aI 43 (.fieldAddr 0 (aT 3)), aJ (.store 1 (aT 43) (aN 3)), aI 44 (.fieldAddr 5 (aT 3)), aJ (.store 1 (aT 44) (aT 42))])
 (.seq (.seq (aR [aI 10 (.move (aN 1))]) (.block 3 (.loop (.seq (.seq (aR [aM 45 10, aM 46 6, aI 47 (.len (.slice 1) (aT 46)),
 aI 48 (.bin .lss .other true (aT 45) (aT 47))]) (.cond (aT 48) (.skip) (.exit 3))) (.seq (.block 4 (.region [aI 51 (.fieldAddr 2 (aT 3)), aI 52 (.load none (aT 51)),
 aM 53 6, aM 54 10, aI 55 (.bin .sub .other true (aT 54) (aN 1)), aI 56 (.indexAddr none 1 (aT 53) (aT 55)), aI 57 (.load none (aT 56)),
 aI 58 (.bin .shl .other false (aT 57) (.av (.int .u64 4))), aM 59 6, aM 60 10, aI 61 (.indexAddr none 1 (aT 59) (aT 60)), aI 62 (.load none (aT 61)),
 aI 63 (.bin .or .other false (aT 58) (aT 62)), aI 64 (.buildSlice false 5 1 1 [(.int .u8 0)] [(0, (aT 63))]), aI 65 (.conv .ofBytes (aT 64)),
 aI 66 (.bin .add .other false (aT 52) (aT 65)), aI 67 (.fieldAddr 2 (aT 3)), aJ (.store 1 (aT 67) (aT 66))] true)) (aR [aM 49 10,
 aI 50 (.bin .add .other true (aT 49) (aN 2)), aM 10 50])))))) (.seq (aR [aI 68 (.load (some 6) (aT 3)), aJ (.store 6 (aT 4) (aT 68)), aI 5 (.move (aN 0))])
 (.ret))))) (.seq (aR [aM 70 0, aM 71 7, aI 72 (.indexStr (aT 70) (aT 71)), aI 73 (.call (.av (.fn (.func 178) [] [])) [(aT 72)]), aI 74 (.un .not false (aT 73)),
 aM 69 74]) (.cond (aT 69) (.seq (aR [aI 75 (.build [(.int .i64 0), (.int .i64 0), (.str []), (.bool false), (.int .i64 0), (.int .i64 0)] []),
 aJ (.store 6 (aT 4) (aT 75)), aI 5 (.move (aN 3))]) (.ret)) (.skip)))))))))) (aR [aM 18 7, aI 19 (.bin .add .other true (aT 18) (aN 1)), aM 7 19]))))))
 (.seq (aR [aI 76 (.build [(.int .i64 0), (.int .i64 0), (.str []), (.bool false), (.int .i64 0), (.int .i64 0)] []), aJ (.store 6 (aT 4) (aT 76)),
 aI 5 (.move (aN 4))]) (.ret))))⟩
/-- inkstand/lex.word -/
def ac205 : AF := ⟨42, [.cell 4 (some 6), .tmp 5], .seq (aR [aI 3 (.box 138 (aT 1)),
 aI 4 (.alloc 138 [(.int .i64 0), (.int .i64 0), (.str []), (.bool false), (.int .i64 0), (.int .i64 0)]), aI 5 (.move (aN 0))]) (.seq (aR [aM 7 0,
 aI 8 (.fieldAddr 4 (aT 3)), aI 9 (.load none (aT 8)), aI 10 (.call (.av (.fn (.func 200) [] [])) [(aT 7), (aT 9), (.av (.fn (.func 150) [] []))]), aI 11 (.fieldAddr 0 (aT 3)),
 aJ (.store 1 (aT 11) (aN 8)), aI 12 (.fieldAddr 5 (aT 3)), aJ (.store 1 (aT 12) (aT 10))]) (.seq (aR [aM 13 0, aI 14 (.fieldAddr 4 (aT 3)), aI 15 (.load none (aT 14)),
 aI 16 (.fieldAddr 5 (aT 3)), aI 17 (.load none (aT 16)), aI 18 (.slice .str (aT 13) (some (aT 15)) (some (aT 17))), aI 19 (.fieldAddr 2 (aT 3)),
 aJ (.store 1 (aT 19) (aT 18))]) (.seq (.seq (aR [aI 20 (.fieldAddr 2 (aT 3)), aI 21 (.load none (aT 20)), aI 22 (.indexStr (aT 21) (aN 0)),
 aI 23 (.call (.av (.fn (.func 151) [] [])) [(.av (.str [43, 45, 46, 48, 49, 50, 51, 52, 53, 54, 55, 56, 57])), (aT 22)]), aI 24 (.bin .lss .other true (aT 23) (aN 0))])
 (.cond (aT 24) (.seq (aR [aI 25 (.load (some 6) (aT 3)), aJ (.store 6 (aT 4) (aT 25)), aI 5 (.move (aN 0))]) (.ret)) (.skip)))
 (.seq (aR [aI 6 (.move (aN 0))]) (.seq (aR [aI 27 (.fieldAddr 2 (aT 3)), aI 28 (.load none (aT 27)), aI 29 (.call (.av (.fn (.func 241) [] [])) [(aT 28)]),
 aM 26 29, aI 30 (.extract (aT 26) 0), aI 31 (.extract (aT 26) 1), aI 32 (.fieldAddr 1 (aT 3)), aJ (.store 1 (aT 32) (aT 30)), aM 6 31])
 (.seq (aR [aI 33 (.fieldAddr 2 (aT 3)), aI 34 (.load none (aT 33)), aI 35 (.call (.av (.fn (.func 242) [] [])) [(aT 34), (.av (.str [46]))]), aI 36 (.un .not false (aT 35)),
 aI 37 (.fieldAddr 0 (aT 3)), aJ (.store 1 (aT 37) (aN 1)), aI 38 (.fieldAddr 3 (aT 3)), aJ (.store 1 (aT 38) (aT 36)), aI 39 (.fieldAddr 2 (aT 3)),
 aJ (.store 1 (aT 39) (.av (.str [])))]) (.seq (aR [aI 40 (.load (some 6) (aT 3)), aM 41 6, aJ (.store 6 (aT 4) (aT 40)), aM 5 41]) (.ret))))))))⟩
/-- math/bits.Mul32 -/
def ac212 : AF := ⟨17, [.tmp 4, .tmp 5], .seq (aR [aI 4 (.move (.av (.int .u32 0))), aI 5 (.move (.av (.int .u32 0)))]) (.seq (aR [aM 7 0,
 aI 8 (.conv (.int .u64) (aT 7)), aM 9 1, aI 10 (.conv (.int .u64) (aT 9)), aI 11 (.bin .mul .other false (aT 8) (aT 10)), aM 6 11]) (.seq (aR [aM 12 6,
 aI 13 (.bin .shr .other false (aT 12) (.av (.int .u64 32))), aI 14 (.conv (.int .u32) (aT 13)), aM 15 6, aI 16 (.conv (.int .u32) (aT 15)), aM 4 14, aM 5 16]) (.ret)))⟩
/-- math/bits.Mul64 -/
def ac213 : AF := ⟨51, [.tmp 4, .tmp 5], .seq (aR [aI 4 (.move (.av (.int .u64 0))), aI 5 (.move (.av (.int .u64 0)))]) (.seq (aR [aM 14 0,
 aI 15 (.bin .and .other false (aT 14) (.av (.int .u64 4294967295))), aM 6 15]) (.seq (aR [aM 16 0, aI 17 (.bin .shr .other false (aT 16) (.av (.int .u64 32))),
 aM 7 17]) (.seq (aR [aM 18 1, aI 19 (.bin .and .other false (aT 18) (.av (.int .u64 4294967295))), aM 8 19]) (.seq (aR [aM 20 1,
 aI 21 (.bin .shr .other false (aT 20) (.av (.int .u64 32))), aM 9 21]) (.seq (aR [aM 22 6, aM 23 8, aI 24 (.bin .mul .other false (aT 22) (aT 23)), aM 10 24])
 (.seq (aR [aM 25 7, aM 26 8, aI 27 (.bin .mul .other false (aT 25) (aT 26)), aM 28 10, aI 29 (.bin .shr .other false (aT 28) (.av (.int .u64 32))),
 aI 30 (.bin .add .other false (aT 27) (aT 29)), aM 11 30]) (.seq (aR [aM 31 11, aI 32 (.bin .and .other false (aT 31) (.av (.int .u64 4294967295))), aM 12 32])
 (.seq (aR [aM 33 11, aI 34 (.bin .shr .other false (aT 33) (.av (.int .u64 32))), aM 13 34]) (.seq (aR [aM 35 12, aM 36 6, aM 37 9,
 aI 38 (.bin .mul .other false (aT 36) (aT 37)), aI 39 (.bin .add .other false (aT 35) (aT 38)), aM 12 39]) (.seq (aR [aM 40 7, aM 41 9,
 aI 42 (.bin .mul .other false (aT 40) (aT 41)), aM 43 13, aI 44 (.bin .add .other false (aT 42) (aT 43)), aM 45 12, aI 46 (.bin .shr .other false (aT 45) (.av (.int .u64 32))),
 aI 47 (.bin .add .other false (aT 44) (aT 46)), aM 4 47]) (.seq (aR [aM 48 0, aM 49 1, aI 50 (.bin .mul .other false (aT 48) (aT 49)), aM 5 50])
 (.ret))))))))))))⟩
/-- internal/stringslite.IndexByte -/
def ac214 : AF := ⟨8, [.tmp 4], .seq (aR [aI 4 (.move (aN 0))]) (.seq (aR [aM 5 0, aM 6 1, aI 7 (.call (.av (.fn (.func 247) [] [])) [(aT 5), (aT 6)]),
 aM 4 7]) (.ret))⟩
/-- internal/stringslite.CutPrefix -/
def ac215 : AF := ⟨15, [.tmp 4, .tmp 5], .seq (aR [aI 4 (.move (.av (.str []))), aI 5 (.move (.av (.bool false)))]) (.seq (.seq (aR [aM 6 0, aM 7 1,
 aI 8 (.call (.av (.fn (.func 231) [] [])) [(aT 6), (aT 7)]), aI 9 (.un .not false (aT 8))]) (.cond (aT 9) (.seq (aR [aM 10 0, aM 4 10,
 aI 5 (.move (.av (.bool false)))]) (.ret)) (.skip))) (.seq (aR [aM 11 0, aM 12 1, aI 13 (.len .str (aT 12)), aI 14 (.slice .str (aT 11) (some (aT 13)) none), aM 4 14,
 aI 5 (.move (.av (.bool true)))]) (.ret)))⟩
/-- internal/stringslite.TrimSuffix -/
def ac216 : AF := ⟨16, [.tmp 4], .seq (aR [aI 4 (.move (.av (.str [])))]) (.seq (.seq (aR [aM 5 0, aM 6 1,
 aI 7 (.call (.av (.fn (.func 248) [] [])) [(aT 5), (aT 6)])]) (.cond (aT 7) (.seq (aR [aM 8 0, aM 9 0, aI 10 (.len .str (aT 9)), aM 11 1, aI 12 (.len .str (aT 11)),
 aI 13 (.bin .sub .other true (aT 10) (aT 12)), aI 14 (.slice .str (aT 8) none (some (aT 13))), aM 4 14]) (.ret)) (.skip))) (.seq (aR [aM 15 0, aM 4 15])
 (.ret)))⟩
/-- strings.trimRightByte -/
def ac217 : AF := ⟨23, [.tmp 4], .seq (aR [aI 4 (.move (.av (.str [])))]) (.seq (.block 0 (.loop (.seq (.seq (aR [aM 5 0, aI 6 (.len .str (aT 5)),
 aI 7 (.bin .gtr .other true (aT 6) (aN 0)), aM 8 7, aG 9 8 true (.move (aT 0)), aG 10 8 true (.move (aT 0)), aG 11 8 true (.len .str (aT 10)),
 aG 12 8 true (.bin .sub .other true (aT 11) (aN 1)), aG 13 8 true (.indexStr (aT 9) (aT 12)), aG 14 8 true (.move (aT 1)), aG 15 8 true (.bin .eql .other false (aT 13) (aT 14)),
 aI 16 (.pick (aT 8) (aT 15) (.av (.bool false)))]) (.cond (aT 16) (.skip) (.exit 0))) (.block 1 (aR [aM 17 0, aM 18 0, aI 19 (.len .str (aT 18)),
 aI 20 (.bin .sub .other true (aT 19) (aN 1)), aI 21 (.slice .str (aT 17) none (some (aT 20))), aM 0 21]))))) (.seq (aR [aM 22 0, aM 4 22]) (.ret)))⟩
/-- strings.makeASCIISet -/
def ac218 : AF := ⟨21, [.cell 2 (some 256), .tmp 3], .seq (aR [aI 2 (.alloc 241 (List.replicate 256 (.bool false))), aI 3 (.move (.av (.bool false)))])
 (.seq (.seq (aR [aI 4 (.move (aN 0))]) (.block 0 (.loop (.seq (.seq (aR [aM 6 4, aM 7 0, aI 8 (.len .str (aT 7)),
 aI 9 (.bin .lss .other true (aT 6) (aT 8))]) (.cond (aT 9) (.skip) (.exit 0))) (.seq (.block 1 (.seq (aR [aM 12 0, aM 13 4, aI 14 (.indexStr (aT 12) (aT 13)),
 aM 5 14]) (.seq (.seq (aR [aM 15 5, aI 16 (.bin .geq .other false (aT 15) (.av (.int .u8 128)))]) (.cond (aT 16) (.seq (aR [aI 17 (.load (some 256) (aT 2)),
 aJ (.store 256 (aT 2) (aT 17)), aI 3 (.move (.av (.bool false)))]) (.ret)) (.skip))) (aR [aM 18 5, aI 19 (.indexAddr (some 256) 1 (aT 2) (aT 18)),
 aJ (.store 1 (aT 19) (.av (.bool true)))])))) (aR [aM 10 4, aI 11 (.bin .add .other true (aT 10) (aN 1)), aM 4 11]))))))
 (.seq (aR [aI 20 (.load (some 256) (aT 2)), aJ (.store 256 (aT 2) (aT 20)), aI 3 (.move (.av (.bool true)))]) (.ret)))⟩
/-- strings.trimRightASCII -/
def ac219 : AF := ⟨22, [.tmp 4], .seq (aR [aI 4 (.move (.av (.str [])))]) (.seq (.block 0 (.loop (.seq (.seq (aR [aM 5 0, aI 6 (.len .str (aT 5)),
 aI 7 (.bin .gtr .other true (aT 6) (aN 0))]) (.cond (aT 7) (.skip) (.exit 0))) (.block 1 (.seq (.seq (aR [aM 8 1, aM 9 0, aM 10 0, aI 11 (.len .str (aT 10)),
 aI 12 (.bin .sub .other true (aT 11) (aN 1)), aI 13 (.indexStr (aT 9) (aT 12)), aI 14 (.call (.av (.fn (.func 249) [] [])) [(aT 8), (aT 13)]),
 aI 15 (.un .not false (aT 14))]) (.cond (aT 15) (.exit 0) (.skip))) (aR [aM 16 0, aM 17 0, aI 18 (.len .str (aT 17)), aI 19 (.bin .sub .other true (aT 18) (aN 1)),
 aI 20 (.slice .str (aT 16) none (some (aT 19))), aM 0 20])))))) (.seq (aR [aM 21 0, aM 4 21]) (.ret)))⟩
/-- slices.IndexFunc[[]inkstand/api.Entry,inkstand/api.Entry] -/
def ac225 : AF := ⟨19, [.tmp 4], .seq (aR [aI 4 (.move (aN 0))]) (.seq (.seq (aR [aM 6 0, aI 7 (.len (.slice 7) (aT 6)), aI 8 (.move (aN 0))]) (.block 0 (.loop
 (.seq (aR [aI 9 (.bin .lss .other true (aT 8) (aT 7))]) (.seq (.cond (aT 9) (.skip) (.exit 0)) (.seq (.block 1 (.seq (aR [aM 10 8, aM 5 10])
 (.seq (aR [aM 11 1, aM 12 0, aM 13 5, aI 14 (.indexAddr none 7 (aT 12) (aT 13)), aI 15 (.load (some 7) (aT 14)), aI 16 (.call (aT 11) [(aT 15)])]) (.cond (aT 16)
 (.seq (aR [aM 17 5, aM 4 17]) (.ret)) (.skip))))) (aR [aI 18 (.bin .add .other true (aT 8) (aN 1)), aM 8 18])))))))
 (.seq (aR [aI 4 (.move (aN (-1)))]) (.ret)))⟩
/-- inkstand/cos.place$1 -/
def ac226 : AF := ⟨8, [.tmp 3], .seq (aR [aI 2 (.box 106 (aT 0)), aI 3 (.move (.av (.bool false)))]) (.seq (aR [aI 4 (.fieldAddr 0 (aT 2)), aI 5 (.load none (aT 4)),
 aI 6 (.load none (aT 1)), aI 7 (.bin .eql .other false (aT 5) (aT 6)), aM 3 7]) (.ret))⟩
/-- inkstand/cos.whole -/
def ac229 : AF := ⟨15, [.tmp 2], .seq (aR [aI 1 (.box 138 (aT 0)), aI 2 (.move (.av (.bool false)))]) (.seq (aR [aI 3 (.fieldAddr 0 (aT 1)),
 aI 4 (.load none (aT 3)), aI 5 (.bin .eql .other true (aT 4) (aN 1)), aM 6 5, aG 7 6 true (.fieldAddr 3 (aT 1)), aG 8 6 true (.load none (aT 7)),
 aI 9 (.pick (aT 6) (aT 8) (.av (.bool false))), aM 10 9, aG 11 10 true (.fieldAddr 1 (aT 1)), aG 12 10 true (.load none (aT 11)),
 aG 13 10 true (.bin .geq .other true (aT 12) (aN 0)), aI 14 (.pick (aT 10) (aT 13) (.av (.bool false))), aM 2 14]) (.ret))⟩
/-- slices.IndexFunc[[]inkstand/api.Obj,inkstand/api.Obj] -/
def ac230 : AF := ⟨19, [.tmp 4], .seq (aR [aI 4 (.move (aN 0))]) (.seq (.seq (aR [aM 6 0, aI 7 (.len (.slice 6) (aT 6)), aI 8 (.move (aN 0))]) (.block 0 (.loop
 (.seq (aR [aI 9 (.bin .lss .other true (aT 8) (aT 7))]) (.seq (.cond (aT 9) (.skip) (.exit 0)) (.seq (.block 1 (.seq (aR [aM 10 8, aM 5 10])
 (.seq (aR [aM 11 1, aM 12 0, aM 13 5, aI 14 (.indexAddr none 6 (aT 12) (aT 13)), aI 15 (.load (some 6) (aT 14)), aI 16 (.call (aT 11) [(aT 15)])]) (.cond (aT 16)
 (.seq (aR [aM 17 5, aM 4 17]) (.ret)) (.skip))))) (aR [aI 18 (.bin .add .other true (aT 8) (aN 1)), aM 8 18])))))))
 (.seq (aR [aI 4 (.move (aN (-1)))]) (.ret)))⟩
/-- internal/stringslite.HasPrefix -/
def ac231 : AF := ⟨18, [.tmp 4], .seq (aR [aI 4 (.move (.av (.bool false)))]) (.seq (aR [aM 5 0, aI 6 (.len .str (aT 5)), aM 7 1, aI 8 (.len .str (aT 7)),
 aI 9 (.bin .geq .other true (aT 6) (aT 8)), aM 10 9, aG 11 10 true (.move (aT 0)), aG 12 10 true (.move (aT 1)), aG 13 10 true (.len .str (aT 12)),
 aG 14 10 true (.slice .str (aT 11) none (some (aT 13))), aG 15 10 true (.move (aT 1)), aG 16 10 true (.bin .eql .other false (aT 14) (aT 15)),
 aI 17 (.pick (aT 10) (aT 16) (.av (.bool false))), aM 4 17]) (.ret))⟩
/-- inkstand/lex.named -/
def ac238 : AF := ⟨32, [.tmp 2, .tmp 3], .seq (aR [aI 2 (.move (.av (.str []))), aI 3 (.move (aN 0))]) (.seq (aR [aI 4 (.bld 90 5)]) (.block 0 (.loop (.block 1
 (.seq (aR [aM 11 0, aI 12 (.call (.av (.fn (.func 259) [] [])) [(aT 11), (.av (.str [35]))]), aM 10 12, aI 13 (.extract (aT 10) 0), aI 14 (.extract (aT 10) 1),
 aI 15 (.extract (aT 10) 2), aM 5 13, aM 6 14, aM 7 15]) (.seq (aR [aM 16 5, aI 17 (.call (.av (.fn (.func 56) [] [])) [(aT 4), (aT 16)])])
 (.seq (.seq (aR [aM 18 7, aI 19 (.un .not false (aT 18))]) (.cond (aT 19) (.seq (aR [aI 20 (.call (.av (.fn (.func 53) [] [])) [(aT 4)]), aM 2 20,
 aI 3 (.move (aN 0))]) (.ret)) (.skip))) (.seq (aR [aM 22 6, aI 23 (.call (.av (.fn (.func 260) [] [])) [(aT 22)]), aM 21 23, aI 24 (.extract (aT 21) 0),
 aI 25 (.extract (aT 21) 1), aM 8 24, aM 9 25]) (.seq (.seq (aR [aM 26 9, aI 27 (.un .not false (aT 26))]) (.cond (aT 27)
 (.seq (aR [aI 2 (.move (.av (.str []))), aI 3 (.move (aN 3))]) (.ret)) (.skip))) (.seq (aR [aM 28 8,
 aI 29 (.call (.av (.fn (.func 98) [] [])) [(aT 4), (aT 28)])]) (aR [aM 30 6, aI 31 (.slice .str (aT 30) (some (aN 2)) none), aM 0 31])))))))))))⟩
/-- inkstand/lex.escaped -/
def ac239 : AF := ⟨38, [.tmp 4], .seq (aR [aI 4 (.move (aN 0))]) (.seq (.seq (aR [aM 9 1, aI 10 (.call (.av (.fn (.func 261) [] [])) [(aT 9)]), aM 8 10,
 aI 11 (.extract (aT 8) 0), aI 12 (.extract (aT 8) 1), aM 5 11, aM 6 12]) (.seq (aR [aM 13 6, aI 14 (.bin .gtr .other true (aT 13) (aN 0))]) (.cond (aT 14)
 (.seq (aR [aM 15 0, aM 16 5, aI 17 (.call (.av (.fn (.func 98) [] [])) [(aT 15), (aT 16)])]) (.seq (aR [aM 18 6, aM 4 18]) (.ret))) (.skip))))
 (.seq (.seq (aR [aM 19 1, aI 20 (.call (.av (.fn (.func 185) [] [])) [(aT 19), (.av (.str [13, 10]))])]) (.cond (aT 20) (.seq (aR [aI 4 (.move (aN 2))])
 (.ret)) (.skip))) (.seq (.seq (aR [aM 21 1, aI 22 (.indexStr (aT 21) (aN 0)),
 aI 23 (.call (.av (.fn (.func 151) [] [])) [(.av (.str [110, 114, 116, 98, 102, 10, 13])), (aT 22)]), aM 7 23]) (.block 0 (.seq (aR [aM 25 7,
 aI 26 (.bin .lss .other true (aT 25) (aN 0)), aM 24 26]) (.cond (aT 24) (aR [aM 27 0, aM 28 1, aI 29 (.indexStr (aT 28) (aN 0)),
 aI 30 (.call (.av (.fn (.func 98) [] [])) [(aT 27), (aT 29)])]) (.seq (aR [aM 32 7, aI 33 (.bin .lss .other true (aT 32) (aN 5)), aM 31 33]) (.cond (aT 31)
 (aR [aM 34 0, aM 35 7, aI 36 (.indexStr (.av (.str [10, 13, 9, 8, 12])) (aT 35)), aI 37 (.call (.av (.fn (.func 98) [] [])) [(aT 34), (aT 36)])]) (.skip)))))))
 (.seq (aR [aI 4 (.move (aN 1))]) (.ret)))))⟩
/-- inkstand/lex.digit -/
def ac240 : AF := ⟨26, [.tmp 2, .tmp 3], .seq (aR [aI 2 (.move (.av (.int .u8 0))), aI 3 (.move (.av (.bool false)))]) (.seq (.block 0 (.seq (aR [aM 5 0,
 aI 6 (.bin .geq .other false (aT 5) (.av (.int .u8 48))), aM 7 6, aG 8 7 true (.move (aT 0)), aG 9 7 true (.bin .leq .other false (aT 8) (.av (.int .u8 57))),
 aI 10 (.pick (aT 7) (aT 9) (.av (.bool false))), aM 4 10]) (.cond (aT 4) (.seq (aR [aM 11 0, aI 12 (.bin .sub .other false (aT 11) (.av (.int .u8 48))), aM 2 12,
 aI 3 (.move (.av (.bool true)))]) (.ret)) (.seq (aR [aM 14 0, aI 15 (.bin .or .other false (aT 14) (.av (.int .u8 32))),
 aI 16 (.bin .geq .other false (aT 15) (.av (.int .u8 97))), aM 17 16, aG 18 17 true (.move (aT 0)), aG 19 17 true (.bin .or .other false (aT 18) (.av (.int .u8 32))),
 aG 20 17 true (.bin .leq .other false (aT 19) (.av (.int .u8 102))), aI 21 (.pick (aT 17) (aT 20) (.av (.bool false))), aM 13 21]) (.cond (aT 13) (.seq (aR [aM 22 0,
 aI 23 (.bin .or .other false (aT 22) (.av (.int .u8 32))), aI 24 (.bin .sub .other false (aT 23) (.av (.int .u8 97))), aI 25 (.bin .add .other false (aT 24) (.av (.int .u8 10))),
 aM 2 25, aI 3 (.move (.av (.bool true)))]) (.ret)) (.skip)))))) (.seq (aR [aI 2 (.move (.av (.int .u8 0))), aI 3 (.move (.av (.bool false)))]) (.ret)))⟩
/-- inkstand/fix.Parse -/
def ac241 : AF := ⟨60, [.tmp 2, .tmp 3], .seq (aR [aI 2 (.move (aN 0)), aI 3 (.move (aN 0))]) (.seq (.seq (aR [aM 9 0, aI 10 (.len .str (aT 9)),
 aI 11 (.bin .gtr .other true (aT 10) (aN 400))]) (.cond (aT 11) (.seq (aR [aI 2 (.move (aN 0)), aI 3 (.move (aN 2))]) (.ret)) (.skip))) (.seq (aR [aM 13 0,
 aI 14 (.call (.av (.fn (.func 262) [] [])) [(aT 13)]), aM 12 14, aI 15 (.extract (aT 12) 0), aI 16 (.extract (aT 12) 1), aM 0 15, aM 4 16]) (.seq (aR [aM 18 0,
 aI 19 (.call (.av (.fn (.func 259) [] [])) [(aT 18), (.av (.str [46]))]), aM 17 19, aI 20 (.extract (aT 17) 0), aI 21 (.extract (aT 17) 1), aI 22 (.extract (aT 17) 2), aM 5 20,
 aM 6 21, aM 7 22]) (.seq (.seq (aR [aM 23 5, aI 24 (.call (.av (.fn (.func 263) [] [])) [(aT 23)]), aI 25 (.un .not false (aT 24)), aM 26 25,
 aG 27 26 false (.move (aT 6)), aG 28 26 false (.call (.av (.fn (.func 263) [] [])) [(aT 27)]), aG 29 26 false (.un .not false (aT 28)),
 aI 30 (.pick (aT 26) (.av (.bool true)) (aT 29)), aM 31 30, aG 32 31 false (.move (aT 5)), aG 33 31 false (.move (aT 6)), aG 34 31 false (.bin .add .other false (aT 32) (aT 33)),
 aG 35 31 false (.bin .eql .other false (aT 34) (.av (.str []))), aI 36 (.pick (aT 31) (.av (.bool true)) (aT 35))]) (.cond (aT 36) (.seq (aR [aI 2 (.move (aN 0)),
 aI 3 (.move (aN 3))]) (.ret)) (.skip))) (.seq (aR [aM 37 5, aM 38 6, aI 39 (.bin .add .other false (aT 38) (.av (.str [48, 48, 48]))),
 aI 40 (.slice .str (aT 39) none (some (aN 3))), aI 41 (.bin .add .other false (aT 37) (aT 40)), aI 42 (.call (.av (.fn (.func 264) [] [])) [(aT 41)]), aM 8 42])
 (.seq (.seq (aR [aM 43 6, aI 44 (.len .str (aT 43)), aI 45 (.bin .gtr .other true (aT 44) (aN 3)), aM 46 45, aG 47 46 true (.move (aT 6)),
 aG 48 46 true (.indexStr (aT 47) (aN 3)), aG 49 46 true (.bin .geq .other false (aT 48) (.av (.int .u8 53))), aI 50 (.pick (aT 46) (aT 49) (.av (.bool false)))])
 (.cond (aT 50) (aR [aM 51 8, aI 52 (.bin .add .other true (aT 51) (aN 1)), aM 8 52]) (.skip))) (.seq (.seq (aR [aM 53 4]) (.cond (aT 53) (aR [aM 54 8,
 aI 55 (.un .neg true (aT 54)), aM 8 55]) (.skip))) (.seq (aR [aM 56 8, aI 57 (.call (.av (.fn (.func 176) [] [])) [(aT 56)]), aI 58 (.extract (aT 57) 0),
 aI 59 (.extract (aT 57) 1), aM 2 58, aM 3 59]) (.ret)))))))))⟩
/-- strings.Contains -/
def ac242 : AF := ⟨9, [.tmp 4], .seq (aR [aI 4 (.move (.av (.bool false)))]) (.seq (aR [aM 5 0, aM 6 1, aI 7 (.call (.av (.fn (.func 265) [] [])) [(aT 5), (aT 6)]),
 aI 8 (.bin .geq .other true (aT 7) (aN 0)), aM 4 8]) (.ret))⟩
/-- internal/stringslite.HasSuffix -/
def ac248 : AF := ⟨21, [.tmp 4], .seq (aR [aI 4 (.move (.av (.bool false)))]) (.seq (aR [aM 5 0, aI 6 (.len .str (aT 5)), aM 7 1, aI 8 (.len .str (aT 7)),
 aI 9 (.bin .geq .other true (aT 6) (aT 8)), aM 10 9, aG 11 10 true (.move (aT 0)), aG 12 10 true (.move (aT 0)), aG 13 10 true (.len .str (aT 12)), aG 14 10 true (.move (aT 1)),
 aG 15 10 true (.len .str (aT 14)), aG 16 10 true (.bin .sub .other true (aT 13) (aT 15)), aG 17 10 true (.slice .str (aT 11) (some (aT 16)) none), aG 18 10 true (.move (aT 1)),
 aG 19 10 true (.bin .eql .other false (aT 17) (aT 18)), aI 20 (.pick (aT 10) (aT 19) (.av (.bool false))), aM 4 20]) (.ret))⟩
/-- (*strings.asciiSet).contains -/
def ac249 : AF := ⟨10, [.tmp 4], .seq (aR [aI 4 (.move (.av (.bool false)))]) (.seq (aR [aM 5 0, aM 6 1, aI 7 (.nilCheck (aT 5)),
 aI 8 (.indexAddr (some 256) 1 (aT 7) (aT 6)), aI 9 (.load none (aT 8)), aM 4 9]) (.ret))⟩
/-- strings.Cut -/
def ac259 : AF := ⟨13, [.tmp 4, .tmp 5, .tmp 6], .seq (aR [aI 4 (.move (.av (.str []))), aI 5 (.move (.av (.str []))), aI 6 (.move (.av (.bool false)))])
 (.seq (aR [aM 7 0, aM 8 1, aI 9 (.call (.av (.fn (.func 273) [] [])) [(aT 7), (aT 8)]), aI 10 (.extract (aT 9) 0), aI 11 (.extract (aT 9) 1), aI 12 (.extract (aT 9) 2),
 aM 4 10, aM 5 11, aM 6 12]) (.ret))⟩
/-- inkstand/lex.octet -/
def ac260 : AF := ⟨31, [.tmp 2, .tmp 3], .seq (aR [aI 2 (.move (.av (.int .u8 0))), aI 3 (.move (.av (.bool false)))]) (.seq (.seq (aR [aM 8 0,
 aI 9 (.len .str (aT 8)), aI 10 (.bin .lss .other true (aT 9) (aN 2))]) (.cond (aT 10) (.seq (aR [aI 2 (.move (.av (.int .u8 0))),
 aI 3 (.move (.av (.bool false)))]) (.ret)) (.skip))) (.seq (aR [aM 12 0, aI 13 (.indexStr (aT 12) (aN 0)), aI 14 (.call (.av (.fn (.func 240) [] [])) [(aT 13)]),
 aM 11 14, aI 15 (.extract (aT 11) 0), aI 16 (.extract (aT 11) 1), aM 4 15, aM 5 16]) (.seq (aR [aM 18 0, aI 19 (.indexStr (aT 18) (aN 1)),
 aI 20 (.call (.av (.fn (.func 240) [] [])) [(aT 19)]), aM 17 20, aI 21 (.extract (aT 17) 0), aI 22 (.extract (aT 17) 1), aM 6 21, aM 7 22]) (.seq (aR [aM 23 4,
 aI 24 (.bin .shl .other false (aT 23) (.av (.int .u64 4))), aM 25 6, aI 26 (.bin .or .other false (aT 24) (aT 25)), aM 27 5, aM 28 27, aG 29 28 true (.move (aT 7)),
 aI 30 (.pick (aT 28) (aT 29) (.av (.bool false))), aM 2 26, aM 3 30]) (.ret)))))⟩
/-- inkstand/lex.octal -/
def ac261 : AF := ⟨36, [.tmp 2, .tmp 3], .seq (aR [aI 2 (.move (.av (.int .u8 0))), aI 3 (.move (aN 0))]) (.seq (aR [aI 4 (.move (aN 0)), aI 5 (.move (aN 0))])
 (.seq (.block 0 (.loop (.seq (.seq (aR [aM 6 4, aM 7 0, aI 8 (.len .str (aT 7)), aI 9 (.minmax false [(aT 8), (aN 3)]), aI 10 (.bin .lss .other true (aT 6) (aT 9)),
 aM 11 10, aG 12 11 true (.move (aT 0)), aG 13 11 true (.move (aT 4)), aG 14 11 true (.indexStr (aT 12) (aT 13)),
 aG 15 11 true (.bin .geq .other false (aT 14) (.av (.int .u8 48))), aI 16 (.pick (aT 11) (aT 15) (.av (.bool false))), aM 17 16, aG 18 17 true (.move (aT 0)),
 aG 19 17 true (.move (aT 4)), aG 20 17 true (.indexStr (aT 18) (aT 19)), aG 21 17 true (.bin .leq .other false (aT 20) (.av (.int .u8 55))),
 aI 22 (.pick (aT 17) (aT 21) (.av (.bool false)))]) (.cond (aT 22) (.skip) (.exit 0))) (.block 1 (.seq (aR [aM 23 5,
 aI 24 (.bin .shl .other true (aT 23) (.av (.int .u64 3))), aM 25 0, aM 26 4, aI 27 (.indexStr (aT 25) (aT 26)), aI 28 (.bin .sub .other false (aT 27) (.av (.int .u8 48))),
 aI 29 (.conv (.int .i64) (aT 28)), aI 30 (.bin .or .other true (aT 24) (aT 29)), aM 5 30]) (aR [aM 31 4, aI 32 (.bin .add .other true (aT 31) (aN 1)),
 aM 4 32])))))) (.seq (aR [aM 33 5, aI 34 (.conv (.int .u8) (aT 33)), aM 35 4, aM 2 34, aM 3 35]) (.ret))))⟩
/-- inkstand/fix.unsigned -/
def ac262 : AF := ⟨15, [.tmp 2, .tmp 3], .seq (aR [aI 2 (.move (.av (.str []))), aI 3 (.move (.av (.bool false)))]) (.seq (.seq (aR [aM 7 0,
 aI 8 (.call (.av (.fn (.func 152) [] [])) [(aT 7), (.av (.str [45]))]), aM 6 8, aI 9 (.extract (aT 6) 0), aI 10 (.extract (aT 6) 1), aM 4 9, aM 5 10])
 (.seq (aR [aM 11 5]) (.cond (aT 11) (.seq (aR [aM 12 4, aM 2 12, aI 3 (.move (.av (.bool true)))]) (.ret)) (.skip)))) (.seq (aR [aM 13 0,
 aI 14 (.call (.av (.fn (.func 274) [] [])) [(aT 13), (.av (.str [43]))]), aM 2 14, aI 3 (.move (.av (.bool false)))]) (.ret)))⟩
/-- inkstand/fix.digits -/
def ac263 : AF := ⟨6, [.tmp 2], .seq (aR [aI 2 (.move (.av (.bool false)))]) (.seq (aR [aM 3 0,
 aI 4 (.call (.av (.fn (.func 275) [] [])) [(aT 3), (.av (.str [48, 49, 50, 51, 52, 53, 54, 55, 56, 57]))]), aI 5 (.bin .eql .other false (aT 4) (.av (.str []))), aM 2 5])
 (.ret))⟩
/-- inkstand/fix.read -/
def ac264 : AF := ⟨21, [.tmp 2], .seq (aR [aI 2 (.move (aN 0))]) (.seq (aR [aI 3 (.move (aN 0))]) (.seq (.seq (aR [aM 5 0, aI 6 (.len .str (aT 5)),
 aI 7 (.move (aN 0))]) (.block 0 (.loop (.seq (aR [aI 8 (.bin .lss .other true (aT 7) (aT 6))]) (.seq (.cond (aT 8) (.skip) (.exit 0)) (.seq (.block 1
 (.seq (aR [aM 9 7, aM 4 9]) (aR [aM 10 3, aI 11 (.bin .mul .other true (aT 10) (aN 10)), aM 12 0, aM 13 4, aI 14 (.indexStr (aT 12) (aT 13)),
 aI 15 (.bin .sub .other false (aT 14) (.av (.int .u8 48))), aI 16 (.conv (.int .i64) (aT 15)), aI 17 (.bin .add .other true (aT 11) (aT 16)),
 aI 18 (.minmax false [(aT 17), (aN 1099511627776)]), aM 3 18]))) (aR [aI 19 (.bin .add .other true (aT 7) (aN 1)), aM 7 19]))))))) (.seq (aR [aM 20 3,
 aM 2 20]) (.ret))))⟩
/-- strings.Index -/
def ac265 : AF := ⟨8, [.tmp 4], .seq (aR [aI 4 (.move (aN 0))]) (.seq (aR [aM 5 0, aM 6 1, aI 7 (.call (.av (.fn (.func 276) [] [])) [(aT 5), (aT 6)]),
 aM 4 7]) (.ret))⟩
/-- internal/stringslite.Cut -/
def ac273 : AF := ⟨23, [.tmp 4, .tmp 5, .tmp 6], .seq (aR [aI 4 (.move (.av (.str []))), aI 5 (.move (.av (.str []))), aI 6 (.move (.av (.bool false)))])
 (.seq (.seq (aR [aM 8 0, aM 9 1, aI 10 (.call (.av (.fn (.func 276) [] [])) [(aT 8), (aT 9)]), aM 7 10]) (.seq (aR [aM 11 7,
 aI 12 (.bin .geq .other true (aT 11) (aN 0))]) (.cond (aT 12) (.seq (.region [aM 13 0, aM 14 7, aI 15 (.slice .str (aT 13) none (some (aT 14))), aM 16 0, aM 17 7, aM 18 1,
 aI 19 (.len .str (aT 18)), aI 20 (.bin .add .other true (aT 17) (aT 19)), aI 21 (.slice .str (aT 16) (some (aT 20)) none), aM 4 15, aM 5 21,
 aI 6 (.move (.av (.bool true)))] true) (.ret)) (.skip)))) (.seq (aR [aM 22 0, aM 4 22, aI 5 (.move (.av (.str []))), aI 6 (.move (.av (.bool false)))]) (.ret)))⟩
/-- strings.TrimPrefix -/
def ac274 : AF := ⟨8, [.tmp 4], .seq (aR [aI 4 (.move (.av (.str [])))]) (.seq (aR [aM 5 0, aM 6 1, aI 7 (.call (.av (.fn (.func 281) [] [])) [(aT 5), (aT 6)]),
 aM 4 7]) (.ret))⟩
/-- strings.Trim -/
def ac275 : AF := ⟨43, [.tmp 4], .seq (aR [aI 4 (.move (.av (.str [])))]) (.seq (.seq (aR [aM 7 0, aI 8 (.bin .eql .other false (aT 7) (.av (.str []))), aM 9 8,
 aG 10 9 false (.move (aT 1)), aG 11 9 false (.bin .eql .other false (aT 10) (.av (.str []))), aI 12 (.pick (aT 9) (.av (.bool true)) (aT 11))]) (.cond (aT 12)
 (.seq (aR [aM 13 0, aM 4 13]) (.ret)) (.skip))) (.seq (.seq (aR [aM 14 1, aI 15 (.len .str (aT 14)), aI 16 (.bin .eql .other true (aT 15) (aN 1)), aM 17 16,
 aG 18 17 true (.move (aT 1)), aG 19 17 true (.indexStr (aT 18) (aN 0)), aG 20 17 true (.bin .lss .other false (aT 19) (.av (.int .u8 128))),
 aI 21 (.pick (aT 17) (aT 20) (.av (.bool false)))]) (.cond (aT 21) (.seq (.region [aM 22 0, aM 23 1, aI 24 (.indexStr (aT 23) (aN 0)),
 aI 25 (.call (.av (.fn (.func 217) [] [])) [(aT 22), (aT 24)]), aM 26 1, aI 27 (.indexStr (aT 26) (aN 0)), aI 28 (.call (.av (.fn (.func 282) [] [])) [(aT 25), (aT 27)]),
 aM 4 28] true) (.ret)) (.skip))) (.seq (.seq (aR [aM 30 1, aI 31 (.call (.av (.fn (.func 218) [] [])) [(aT 30)]), aM 29 31, aI 32 (.extract (aT 29) 0),
 aI 33 (.extract (aT 29) 1), aI 5 (.alloc 241 (List.replicate 256 (.bool false))), aJ (.store 256 (aT 5) (aT 32)), aM 6 33]) (.seq (aR [aM 34 6]) (.cond (aT 34)
 (.seq (aR [aM 35 0, aI 36 (.call (.av (.fn (.func 219) [] [])) [(aT 35), (aT 5)]), aI 37 (.call (.av (.fn (.func 283) [] [])) [(aT 36), (aT 5)]), aM 4 37]) (.ret))
 (.skip)))) (.seq (aR [aM 38 0, aM 39 1, aI 40 (.call (.av (.fn (.func 220) [] [])) [(aT 38), (aT 39)]), aM 41 1,
 aI 42 (.call (.av (.fn (.func 284) [] [])) [(aT 40), (aT 41)]), aM 4 42]) (.ret)))))⟩
/-- internal/stringslite.Index -/
def ac276 : AF := ⟨143, [.tmp 4], .seq (aR [aI 4 (.move (aN 0))]) (.seq (aR [aM 14 1, aI 15 (.len .str (aT 14)), aM 5 15]) (.seq (.block 0
 (.seq (aR [aM 17 5, aI 18 (.bin .eql .other true (aT 17) (aN 0)), aM 19 18, aG 20 19 false (.move (aT 1)), aG 21 19 false (.move (aT 0)),
 aG 22 19 false (.bin .eql .other false (aT 20) (aT 21)), aI 23 (.pick (aT 19) (.av (.bool true)) (aT 22)), aM 16 23]) (.cond (aT 16)
 (.seq (aR [aI 4 (.move (aN 0))]) (.ret)) (.seq (aR [aM 25 5, aI 26 (.bin .eql .other true (aT 25) (aN 1)), aM 24 26]) (.cond (aT 24)
 (.seq (aR [aM 27 0, aM 28 1, aI 29 (.indexStr (aT 28) (aN 0)), aI 30 (.call (.av (.fn (.func 214) [] [])) [(aT 27), (aT 29)]), aM 4 30]) (.ret))
 (.seq (aR [aM 32 5, aM 33 0, aI 34 (.len .str (aT 33)), aI 35 (.bin .geq .other true (aT 32) (aT 34)), aM 31 35]) (.cond (aT 31)
 (.seq (aR [aI 4 (.move (aN (-1)))]) (.ret)) (.seq (aR [aM 37 5, ⟨(some 38), .load none (.av (.lit (.pointer (some ⟨0, 0, none⟩)))), none, false⟩,
 aI 39 (.bin .leq .other true (aT 37) (aT 38)), aM 40 39, aG 41 40 true (.move (aT 0)), aG 42 40 true (.len .str (aT 41)), aG 43 40 true (.bin .leq .other true (aT 42) (aN 64)),
 aI 44 (.pick (aT 40) (aT 43) (.av (.bool false))), aM 36 44]) (.cond (aT 36) (.seq (aR [aM 45 0, aM 46 1,
 aI 47 (.call (.av (.fn (.func 280) [] [])) [(aT 45), (aT 46)]), aM 4 47]) (.ret)) (.skip)))))))))) (.seq (aR [aM 48 1, aI 49 (.indexStr (aT 48) (aN 0)),
 aM 6 49]) (.seq (aR [aM 50 1, aI 51 (.indexStr (aT 50) (aN 1)), aM 7 51]) (.seq (aR [aI 8 (.move (aN 0))]) (.seq (aR [aM 52 0,
 aI 53 (.len .str (aT 52)), aM 54 5, aI 55 (.bin .sub .other true (aT 53) (aT 54)), aI 56 (.bin .add .other true (aT 55) (aN 1)), aM 9 56])
 (.seq (aR [aI 10 (.move (aN 0))]) (.seq (.block 1 (.loop (.seq (.seq (aR [aM 57 8, aM 58 9, aI 59 (.bin .lss .other true (aT 57) (aT 58))]) (.cond (aT 59)
 (.skip) (.exit 1))) (.block 2 (.seq (.seq (aR [aM 60 0, aM 61 8, aI 62 (.indexStr (aT 60) (aT 61)), aM 63 6, aI 64 (.bin .neq .other false (aT 62) (aT 63))])
 (.cond (aT 64) (.seq (aR [aM 65 0, aM 66 8, aI 67 (.bin .add .other true (aT 66) (aN 1)), aM 68 9, aI 69 (.slice .str (aT 65) (some (aT 67)) (some (aT 68))), aM 70 6,
 aI 71 (.call (.av (.fn (.func 214) [] [])) [(aT 69), (aT 70)]), aM 11 71]) (.seq (.seq (aR [aM 72 11, aI 73 (.bin .lss .other true (aT 72) (aN 0))])
 (.cond (aT 73) (.seq (aR [aI 4 (.move (aN (-1)))]) (.ret)) (.skip))) (aR [aM 74 8, aM 75 11, aI 76 (.bin .add .other true (aT 75) (aN 1)),
 aI 77 (.bin .add .other true (aT 74) (aT 76)), aM 8 77]))) (.skip))) (.seq (.seq (aR [aM 78 0, aM 79 8, aI 80 (.bin .add .other true (aT 79) (aN 1)),
 aI 81 (.indexStr (aT 78) (aT 80)), aM 82 7, aI 83 (.bin .eql .other false (aT 81) (aT 82)), aM 84 83, aG 85 84 true (.move (aT 0)), aG 86 84 true (.move (aT 8)),
 aG 87 84 true (.move (aT 8)), aG 88 84 true (.move (aT 5)), aG 89 84 true (.bin .add .other true (aT 87) (aT 88)),
 aG 90 84 true (.slice .str (aT 85) (some (aT 86)) (some (aT 89))), aG 91 84 true (.move (aT 1)), aG 92 84 true (.bin .eql .other false (aT 90) (aT 91)),
 aI 93 (.pick (aT 84) (aT 92) (.av (.bool false)))]) (.cond (aT 93) (.seq (aR [aM 94 8, aM 4 94]) (.ret)) (.skip))) (.seq (aR [aM 95 8,
 aI 96 (.bin .add .other true (aT 95) (aN 1)), aM 8 96]) (.seq (aR [aM 97 10, aI 98 (.bin .add .other true (aT 97) (aN 1)), aM 10 98]) (.seq (aR [aM 99 5,
 ⟨(some 100), .load none (.av (.lit (.pointer (some ⟨0, 0, none⟩)))), none, false⟩, aI 101 (.bin .leq .other true (aT 99) (aT 100)), aM 102 101, aG 103 102 true (.move (aT 10)),
 aG 104 102 true (.move (aT 8)), aG 105 102 true (.call (.av (.fn (.func 279) [] [])) [(aT 104)]), aG 106 102 true (.bin .gtr .other true (aT 103) (aT 105)),
 aI 107 (.pick (aT 102) (aT 106) (.av (.bool false)))]) (.cond (aT 107) (.seq (aR [aM 108 0, aM 109 8, aI 110 (.slice .str (aT 108) (some (aT 109)) none), aM 111 1,
 aI 112 (.call (.av (.fn (.func 280) [] [])) [(aT 110), (aT 111)]), aM 12 112]) (.seq (.seq (aR [aM 113 12, aI 114 (.bin .geq .other true (aT 113) (aN 0))])
 (.cond (aT 114) (.seq (aR [aM 115 12, aM 116 8, aI 117 (.bin .add .other true (aT 115) (aT 116)), aM 4 117]) (.ret)) (.skip)))
 (.seq (aR [aI 4 (.move (aN (-1)))]) (.ret)))) (.seq (aR [aM 118 5, ⟨(some 119), .load none (.av (.lit (.pointer (some ⟨0, 0, none⟩)))), none, false⟩,
 aI 120 (.bin .gtr .other true (aT 118) (aT 119)), aM 121 120, aG 122 121 true (.move (aT 10)), aG 123 121 true (.move (aT 8)),
 aG 124 121 true (.bin .shr .other true (aT 123) (.av (.int .u64 4))), aG 125 121 true (.bin .add .other true (aN 4) (aT 124)),
 aG 126 121 true (.bin .geq .other true (aT 122) (aT 125)), aI 127 (.pick (aT 121) (aT 126) (.av (.bool false))), aM 128 127, aG 129 128 true (.move (aT 8)),
 aG 130 128 true (.move (aT 9)), aG 131 128 true (.bin .lss .other true (aT 129) (aT 130)), aI 132 (.pick (aT 128) (aT 131) (.av (.bool false)))]) (.cond (aT 132)
 (.seq (aR [aM 133 0, aM 134 8, aI 135 (.slice .str (aT 133) (some (aT 134)) none), aM 136 1, aI 137 (.call (.av (.fn (.func 285) [] [])) [(aT 135), (aT 136)]),
 aM 13 137]) (.seq (.seq (aR [aM 138 13, aI 139 (.bin .lss .other true (aT 138) (aN 0))]) (.cond (aT 139) (.seq (aR [aI 4 (.move (aN (-1)))]) (.ret))
 (.skip))) (.seq (aR [aM 140 8, aM 141 13, aI 142 (.bin .add .other true (aT 140) (aT 141)), aM 4 142]) (.ret)))) (.skip)))))))))))))
 (.seq (aR [aI 4 (.move (aN (-1)))]) (.ret))))))))))⟩
/-- internal/stringslite.TrimPrefix -/
def ac281 : AF := ⟨13, [.tmp 4], .seq (aR [aI 4 (.move (.av (.str [])))]) (.seq (.seq (aR [aM 5 0, aM 6 1,
 aI 7 (.call (.av (.fn (.func 231) [] [])) [(aT 5), (aT 6)])]) (.cond (aT 7) (.seq (aR [aM 8 0, aM 9 1, aI 10 (.len .str (aT 9)),
 aI 11 (.slice .str (aT 8) (some (aT 10)) none), aM 4 11]) (.ret)) (.skip))) (.seq (aR [aM 12 0, aM 4 12]) (.ret)))⟩
/-- strings.trimLeftASCII -/
def ac283 : AF := ⟨16, [.tmp 4], .seq (aR [aI 4 (.move (.av (.str [])))]) (.seq (.block 0 (.loop (.seq (.seq (aR [aM 5 0, aI 6 (.len .str (aT 5)),
 aI 7 (.bin .gtr .other true (aT 6) (aN 0))]) (.cond (aT 7) (.skip) (.exit 0))) (.block 1 (.seq (.seq (aR [aM 8 1, aM 9 0, aI 10 (.indexStr (aT 9) (aN 0)),
 aI 11 (.call (.av (.fn (.func 249) [] [])) [(aT 8), (aT 10)]), aI 12 (.un .not false (aT 11))]) (.cond (aT 12) (.exit 0) (.skip))) (aR [aM 13 0,
 aI 14 (.slice .str (aT 13) (some (aN 1)) none), aM 0 14])))))) (.seq (aR [aM 15 0, aM 4 15]) (.ret)))⟩
end Ink.D
