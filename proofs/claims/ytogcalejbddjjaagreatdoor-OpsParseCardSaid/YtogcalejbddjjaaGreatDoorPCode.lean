import Derived.Test.YtogcalejbddjjaaGreatDoorInkBB
set_option linter.all false
namespace Ink.D
open Go
abbrev aT := AOpd.tmp
abbrev aN (n : Int) : AOpd := .av (.int .i64 n)
abbrev aI (d : Nat) (o : AOp) : AO := ⟨some d, o, none, false⟩
abbrev aJ (o : AOp) : AO := ⟨none, o, none, false⟩
abbrev aM (d s : Nat) : AO := ⟨some d, .move (.tmp s), none, false⟩
abbrev aG (d g : Nat) (b : Bool) (o : AOp) : AO := ⟨some d, o, some (g, b), false⟩
abbrev aF (k n : Nat) : AOp := .fieldAddr k (.tmp n)
abbrev aL (n : Nat) : AOp := .load none (.tmp n)
abbrev aK (k n : Nat) : AOp := .load (some k) (.tmp n)
abbrev aV (n : Nat) : AOp := .move (.tmp n)
abbrev aB (o : BinOp) (x y : AOpd) : AOp := .bin o .other true x y
abbrev aQ (l : List AO) (c : AC) : AC := .seq (.region l false) c
abbrev aE (n k : Nat) : AOp := .extract (.tmp n) k
abbrev aC (n : Nat) (l : List AOpd) : AOp := .call (.av (.fn (.func n) [] [])) l
abbrev aR (l : List AO) : AC := .region l false
def ac14 : AF := ⟨35, [.tmp 2], aQ [aI 2 (.move (.av (.bool false)))] (aQ [aI 8 (aC 42 []), aM 3 8]
 (.seq (aQ [aM 9 0, aI 10 (.len .str (aT 9)), aI 11 (aB .gtr (aT 10) (aN 1500))] (.cond (aT 11) (aQ [aM 12 3, aM 2 12] (.ret))
 (.skip))) (aQ [aM 14 0, aI 15 (aC 43 [(aT 14)]), aM 13 15, aI 16 (aE 13 0), aI 17 (aE 13 1), aM 4 16,
 aM 5 17] (aQ [aM 19 0, aI 20 (aC 44 [(aT 19)]), aM 18 20, aI 21 (aE 18 0), aI 22 (aE 18 1), aM 6 21,
 aM 7 22] (aQ [aM 23 3, aM 24 23, aG 25 24 true (aV 5), aG 26 24 true (aV 7), aG 27 24 true (aB .eql (aT 25) (aT 26)),
 aI 28 (.pick (aT 24) (aT 27) (.av (.bool false))), aM 29 28, aG 30 29 true (aV 4), aG 31 29 true (aC 46 [(aT 30)]),
 aG 32 29 true (aV 6), aG 33 29 true (aC 45 [(aT 31), (aT 32)]), aI 34 (.pick (aT 29) (aT 33) (.av (.bool false))), aM 2 34]
 (.ret))))))⟩
def ac26 : AF := ⟨28, [.cell 4 (some 6), .tmp 5, .tmp 6],
 aQ [aI 4 (.alloc 26 [(.int .i64 0), (.int .i64 0), (.int .i64 0), (.str []), (.lit (.slice none 0 0)), (.lit (.slice none 0 0))]), aI 5 (.move (aN 0)),
 aI 6 (.move (aN 0))] (aQ [aM 10 0, aM 11 1, aI 12 (.build [(.str []), (.int .i64 0), (.int .i64 0)] [(0, 1, (aT 10)), (1, 1, (aT 11))]),
 aI 13 (.box 109 (aT 12)), aM 7 13] (aQ [aM 15 7, aI 16 (aC 64 [(aT 15)]), aM 14 16, aI 17 (aE 14 0),
 aI 18 (aE 14 1), aI 8 (.alloc 26 [(.int .i64 0), (.int .i64 0), (.int .i64 0), (.str []), (.lit (.slice none 0 0)), (.lit (.slice none 0 0))]),
 aJ (.store 6 (aT 8) (aT 17)), aM 9 18] (.seq (aQ [aM 19 9, aI 20 (aB .neq (aT 19) (aN 0))] (.cond (aT 20)
 (aQ [aI 21 (.build [(.int .i64 0), (.int .i64 0), (.int .i64 0), (.str []), (.lit (.slice none 0 0)), (.lit (.slice none 0 0))] []), aM 22 9,
 aJ (.store 6 (aT 4) (aT 21)), aI 5 (.move (aN 0)), aM 6 22] (.ret)) (.skip))) (.seq (.region [aI 23 (aK 6 8), aM 24 7, aI 25 (.nilCheck (aT 24)),
 aI 26 (aF 1 25), aI 27 (.loadA none (aT 26) [(aT 4)]), aJ (.storeA 6 (aT 4) (aT 23) (aT 4) []), aM 5 27, aI 6 (.move (aN 0))] true) (.ret)))))⟩
def ac27 : AF := ⟨106, [.tmp 4], aQ [aI 2 (.box 26 (aT 0)), aI 3 (.box 26 (aT 1)), aI 4 (.move (.av (.bool false)))]
 (.seq (aQ [aI 7 (aF 0 2), aI 8 (aL 7), aI 9 (aF 0 3), aI 10 (aL 9), aI 11 (aB .neq (aT 8) (aT 10)),
 aM 12 11, aG 13 12 false (aF 1 2), aG 14 12 false (aL 13), aG 15 12 false (aF 1 3), aG 16 12 false (aL 15),
 aG 17 12 false (aB .neq (aT 14) (aT 16)), aI 18 (.pick (aT 12) (.av (.bool true)) (aT 17)), aM 19 18, aG 20 19 false (aF 2 2),
 aG 21 19 false (aL 20), aG 22 19 false (aF 2 3), aG 23 19 false (aL 22), aG 24 19 false (aB .neq (aT 21) (aT 23)),
 aI 25 (.pick (aT 19) (.av (.bool true)) (aT 24)), aM 26 25, aG 27 26 false (aF 3 2), aG 28 26 false (aL 27), aG 29 26 false (aF 3 3),
 aG 30 26 false (aL 29), aG 31 26 false (.bin .neq .other false (aT 28) (aT 30)), aI 32 (.pick (aT 26) (.av (.bool true)) (aT 31)), aM 33 32,
 aG 34 33 false (aF 4 2), aG 35 33 false (aL 34), aG 36 33 false (.len (.slice 6) (aT 35)), aG 37 33 false (aF 4 3),
 aG 38 33 false (aL 37), aG 39 33 false (.len (.slice 6) (aT 38)), aG 40 33 false (aB .neq (aT 36) (aT 39)),
 aI 41 (.pick (aT 33) (.av (.bool true)) (aT 40)), aM 42 41, aG 43 42 false (aF 5 2), aG 44 42 false (aL 43), aG 45 42 false (.len (.slice 7) (aT 44)),
 aG 46 42 false (aF 5 3), aG 47 42 false (aL 46), aG 48 42 false (.len (.slice 7) (aT 47)), aG 49 42 false (aB .neq (aT 45) (aT 48)),
 aI 50 (.pick (aT 42) (.av (.bool true)) (aT 49))] (.cond (aT 50) (aQ [aI 4 (.move (.av (.bool false)))] (.ret)) (.skip)))
 (.seq (aQ [aI 5 (.move (aN 0))] (.block 0 (.loop (.seq (aQ [aM 51 5, aI 52 (aF 4 2), aI 53 (aL 52),
 aI 54 (.len (.slice 6) (aT 53)), aI 55 (aB .lss (aT 51) (aT 54))] (.cond (aT 55) (.skip) (.exit 0))) (.seq (.block 1
 (.seq (.region [aI 58 (aF 4 2), aI 59 (aL 58), aM 60 5, aI 61 (.indexAddr none 6 (aT 59) (aT 60)), aI 62 (aK 6 61),
 aI 63 (aF 4 3), aI 64 (aL 63), aM 65 5, aI 66 (.indexAddr none 6 (aT 64) (aT 65)), aI 67 (aK 6 66),
 aI 68 (aC 27 [(aT 62), (aT 67)]), aI 69 (.un .not false (aT 68))] true) (.cond (aT 69) (aQ [aI 4 (.move (.av (.bool false)))]
 (.ret)) (.skip)))) (aR [aM 56 5, aI 57 (aB .add (aT 56) (aN 1)), aM 5 57])))))) (.seq (aQ [aI 6 (.move (aN 0))] (.block 2 (.loop
 (.seq (aQ [aM 70 6, aI 71 (aF 5 2), aI 72 (aL 71), aI 73 (.len (.slice 7) (aT 72)), aI 74 (aB .lss (aT 70) (aT 73))]
 (.cond (aT 74) (.skip) (.exit 2))) (.seq (.block 3 (.seq (.region [aI 77 (aF 5 2), aI 78 (aL 77), aM 79 6, aI 80 (.indexAddr none 7 (aT 78) (aT 79)),
 aI 81 (aF 0 80), aI 82 (aL 81), aI 83 (aF 5 3), aI 84 (aL 83), aM 85 6, aI 86 (.indexAddr none 7 (aT 84) (aT 85)),
 aI 87 (aF 0 86), aI 88 (aL 87), aI 89 (.bin .neq .other false (aT 82) (aT 88)), aM 90 89, aG 91 90 false (aF 5 2),
 aG 92 90 false (aL 91), aG 93 90 false (aV 6), aG 94 90 false (.indexAddr none 7 (aT 92) (aT 93)), aG 95 90 false (aF 1 94),
 aG 96 90 false (aK 6 95), aG 97 90 false (aF 5 3), aG 98 90 false (aL 97), aG 99 90 false (aV 6),
 aG 100 90 false (.indexAddr none 7 (aT 98) (aT 99)), aG 101 90 false (aF 1 100), aG 102 90 false (aK 6 101),
 aG 103 90 false (aC 27 [(aT 96), (aT 102)]), aG 104 90 false (.un .not false (aT 103)), aI 105 (.pick (aT 90) (.av (.bool true)) (aT 104))] true)
 (.cond (aT 105) (aQ [aI 4 (.move (.av (.bool false)))] (.ret)) (.skip)))) (aR [aM 75 6, aI 76 (aB .add (aT 75) (aN 1)), aM 6 76]))))))
 (aQ [aI 4 (.move (.av (.bool true)))] (.ret)))))⟩
def ac30 : AF := ⟨70, [.tmp 2], aQ [aI 2 (.move (.av (.bool false)))] (aQ [aI 3 (.move (aN 0)), aI 4 (.move (.av (.bool false)))]
 (.seq (aQ [aM 7 0, aI 8 (.len (.slice 2) (aT 7)), aI 9 (.move (aN 0))] (.block 0 (.loop (aQ [aI 10 (aB .lss (aT 9) (aT 8))]
 (.seq (.cond (aT 10) (.skip) (.exit 0)) (.seq (.block 1 (aQ [aI 11 (.indexAddr none 2 (aT 7) (aT 9)), aI 12 (aK 2 11),
 aI 6 (.alloc 47 [(.str []), (.lit (.slice none 0 0))]), aJ (.store 2 (aT 6) (aT 12))] (.seq (.block 2 (.seq (aQ [aM 14 4, aM 15 14,
 aG 16 15 true (aF 0 6), aG 17 15 true (aL 16), aG 18 15 true (.bin .eql .other false (aT 17) (.av (.str [113]))), aG 19 15 true (aV 18),
 aG 20 19 false (aF 0 6), aG 21 19 false (aL 20), aG 22 19 false (.bin .eql .other false (aT 21) (.av (.str [81]))),
 aG 23 15 true (.pick (aT 19) (.av (.bool true)) (aT 22)), aI 24 (.pick (aT 15) (aT 23) (.av (.bool false))), aM 13 24] (.cond (aT 13) (.skip)
 (aQ [aI 25 (aF 0 6), aI 26 (aL 25), aI 27 (.bin .eql .other false (aT 26) (.av (.str [66, 84]))), aM 28 27, aG 29 28 true (aV 4),
 aI 30 (.pick (aT 28) (aT 29) (.av (.bool false))), aM 13 30] (.cond (aT 13) (.skip) (aR [aI 31 (aF 0 6), aI 32 (aL 31),
 aI 33 (.bin .eql .other false (aT 32) (.av (.str [69, 84]))), aM 34 33, aG 35 34 true (aV 4), aG 36 34 true (.un .not false (aT 35)),
 aI 37 (.pick (aT 34) (aT 36) (.av (.bool false))), aM 13 37]))))) (.cond (aT 13) (aQ [aI 2 (.move (.av (.bool false)))] (.ret))
 (aQ [aI 39 (aF 0 6), aI 40 (aL 39), aI 41 (.bin .eql .other false (aT 40) (.av (.str [113]))), aM 38 41] (.cond (aT 38)
 (aR [aM 42 3, aI 43 (aB .add (aT 42) (aN 1)), aM 3 43]) (aQ [aI 45 (aF 0 6), aI 46 (aL 45),
 aI 47 (.bin .eql .other false (aT 46) (.av (.str [81]))), aM 44 47] (.cond (aT 44) (aR [aM 48 3, aI 49 (aB .sub (aT 48) (aN 1)), aM 3 49])
 (aQ [aI 51 (aF 0 6), aI 52 (aL 51), aI 53 (.bin .eql .other false (aT 52) (.av (.str [66, 84]))), aM 54 53,
 aG 55 54 false (aF 0 6), aG 56 54 false (aL 55), aG 57 54 false (.bin .eql .other false (aT 56) (.av (.str [69, 84]))),
 aI 58 (.pick (aT 54) (.av (.bool true)) (aT 57)), aM 50 58] (.cond (aT 50) (aR [aM 59 4, aI 60 (.un .not false (aT 59)), aM 4 60]) (.skip))))))))))
 (aQ [aM 61 3, aI 62 (aB .lss (aT 61) (aN 0))] (.cond (aT 62) (aQ [aI 2 (.move (.av (.bool false)))] (.ret)) (.skip))))))
 (aR [aI 63 (aB .add (aT 9) (aN 1)), aM 9 63]))))))) (aQ [aM 64 3, aI 65 (aB .eql (aT 64) (aN 0)), aM 66 65,
 aG 67 66 true (aV 4), aG 68 66 true (.un .not false (aT 67)), aI 69 (.pick (aT 66) (aT 68) (.av (.bool false))), aM 2 69] (.ret))))⟩
def ac31 : AF := ⟨24, [.tmp 2, .tmp 3], aQ [aI 2 (.move (.av (.str []))), aI 3 (.move (aN 0))] (.seq (aQ [aM 8 0, aI 9 (.len (.slice 2) (aT 8)),
 aI 10 (aB .gtr (aT 9) (aN 65536))] (.cond (aT 10) (aQ [aI 2 (.move (.av (.str []))), aI 3 (.move (aN 6))] (.ret)) (.skip)))
 (aQ [aI 4 (.bld 90 5)] (.seq (aQ [aM 11 0, aI 12 (.len (.slice 2) (aT 11)), aI 13 (.move (aN 0))] (.block 0 (.loop
 (aQ [aI 14 (aB .lss (aT 13) (aT 12))] (.seq (.cond (aT 14) (.skip) (.exit 0)) (.seq (.block 1
 (aQ [aI 15 (.indexAddr none 2 (aT 11) (aT 13)), aI 16 (aK 2 15), aI 6 (.alloc 47 [(.str []), (.lit (.slice none 0 0))]),
 aJ (.store 2 (aT 6) (aT 16))] (aQ [aI 17 (aK 2 6), aI 18 (aC 69 [(aT 4), (aT 17)]), aM 7 18]
 (aQ [aM 19 7, aI 20 (aB .neq (aT 19) (aN 0))] (.cond (aT 20) (aQ [aM 21 7, aI 2 (.move (.av (.str []))), aM 3 21] (.ret))
 (.skip)))))) (aR [aI 22 (aB .add (aT 13) (aN 1)), aM 13 22]))))))) (aQ [aI 23 (aC 53 [(aT 4)]), aM 2 23,
 aI 3 (.move (aN 0))] (.ret)))))⟩
def ac42 : AF := ⟨49, [.tmp 0], aQ [aI 0 (.move (.av (.bool false)))]
 (aQ [aI 6 (aC 43 [(.av (.str [49, 32, 48, 32, 48, 32, 114, 103, 32, 47, 70, 32, 84, 102]))]), aM 5 6, aI 7 (aE 5 0),
 aI 8 (aE 5 1), aM 1 7, aM 2 8] (aQ [aI 10 (.build [(.str []), (.lit (.slice none 0 0))] [(0, 1, (.av (.str [113])))]),
 aI 11 (.buildSlice false 47 2 1 [(.str []), (.lit (.slice none 0 0))] [(0, (aT 10))]), aI 12 (aC 31 [(aT 11)]), aM 9 12, aI 13 (aE 9 0),
 aI 14 (aE 9 1), aM 3 13, aM 4 14] (aQ [aM 15 2, aI 16 (aB .eql (aT 15) (aN 0)), aM 17 16, aG 18 17 true (aV 1),
 aG 19 17 true (.len (.slice 2) (aT 18)), aG 20 17 true (aB .eql (aT 19) (aN 2)), aI 21 (.pick (aT 17) (aT 20) (.av (.bool false))), aM 22 21,
 aG 23 22 true (aV 1), aG 24 22 true (.indexAddr none 2 (aT 23) (aN 0)), aG 25 22 true (aF 0 24), aG 26 22 true (aL 25),
 aG 27 22 true (.bin .eql .other false (aT 26) (.av (.str [114, 103]))), aI 28 (.pick (aT 22) (aT 27) (.av (.bool false))), aM 29 28, aG 30 29 true (aV 1),
 aG 31 29 true (.indexAddr none 2 (aT 30) (aN 0)), aG 32 29 true (aF 1 31), aG 33 29 true (aL 32), aG 34 29 true (.len (.slice 6) (aT 33)),
 aG 35 29 true (aB .eql (aT 34) (aN 3)), aI 36 (.pick (aT 29) (aT 35) (.av (.bool false))), aM 37 36, aG 38 37 true (aV 3),
 aG 39 37 true (.bin .eql .other false (aT 38) (.av (.str [113, 10]))), aI 40 (.pick (aT 37) (aT 39) (.av (.bool false))), aM 41 40, aG 42 41 true (aV 4),
 aG 43 41 true (aB .eql (aT 42) (aN 0)), aI 44 (.pick (aT 41) (aT 43) (.av (.bool false))), aM 45 44,
 aG 46 45 true (aC 50 [(.av (.lit (.slice none 0 0)))]), aG 47 45 true (aC 30 [(aT 46)]),
 aI 48 (.pick (aT 45) (aT 47) (.av (.bool false))), aM 0 48] (.ret))))⟩
def ac43 : AF := ⟨90, [.tmp 2, .tmp 3], aQ [aI 2 (.move (.av (.lit (.slice none 0 0)))), aI 3 (.move (aN 0))] (.scope 0
 (aQ [aI 4 (.move (.av (.lit (.slice none 0 0))))] (aQ [aI 5 (.alloc 47 [(.str []), (.lit (.slice none 0 0))])]
 (aQ [aI 6 (.move (aN 0))] (.skip)))) (aQ [aM 12 0, aM 13 6, aI 14 (aC 85 [(aT 12), (aT 13)]), aM 11 14,
 aI 15 (aE 11 0), aI 16 (aE 11 1), aI 7 (.alloc 138 [(.int .i64 0), (.int .i64 0), (.str []), (.bool false), (.int .i64 0), (.int .i64 0)]),
 aJ (.store 6 (aT 7) (aT 15)), aM 8 16] (.seq (.block 0 (aQ [aM 18 8, aI 19 (aB .neq (aT 18) (aN 0)), aM 17 19] (.cond (aT 17)
 (aQ [aM 20 8, aI 2 (.move (.av (.lit (.slice none 0 0)))), aM 3 20] (.ret)) (aQ [aI 22 (aF 0 7), aI 23 (aL 22),
 aI 24 (aB .eql (aT 23) (aN 0)), aM 25 24, aG 26 25 true (aF 1 5), aG 27 25 true (aL 26), aG 28 25 true (.len (.slice 6) (aT 27)),
 aG 29 25 true (aB .eql (aT 28) (aN 0)), aI 30 (.pick (aT 25) (aT 29) (.av (.bool false))), aM 21 30] (.cond (aT 21) (aQ [aM 31 4, aM 2 31,
 aI 3 (.move (aN 0))] (.ret)) (.seq (aQ [aI 33 (aF 0 7), aI 34 (aL 33), aI 35 (aB .eql (aT 34) (aN 0)), aM 32 35]
 (.cond (aT 32) (.skip) (aR [aI 36 (aK 6 7), aI 37 (aC 86 [(aT 36)]), aM 38 37, aG 39 38 true (aF 2 7),
 aG 40 38 true (aL 39), aG 41 38 true (.bin .eql .other false (aT 40) (.av (.str [66, 73]))), aI 42 (.pick (aT 38) (aT 41) (.av (.bool false))), aM 32 42])))
 (.cond (aT 32) (aQ [aI 2 (.move (.av (.lit (.slice none 0 0)))), aI 3 (.move (aN 3))] (.ret)) (.seq (aQ [aI 44 (aK 6 7),
 aI 45 (aC 86 [(aT 44)]), aM 46 45, aG 47 46 true (aV 4), aG 48 46 true (.len (.slice 2) (aT 47)),
 aG 49 46 true (aB .eql (aT 48) (aN 65536)), aI 50 (.pick (aT 46) (aT 49) (.av (.bool false))), aM 43 50] (.cond (aT 43) (.skip)
 (aR [aI 51 (aK 6 7), aI 52 (aC 86 [(aT 51)]), aI 53 (.un .not false (aT 52)), aM 54 53, aG 55 54 true (aF 1 5),
 aG 56 54 true (aL 55), aG 57 54 true (.len (.slice 6) (aT 56)), aG 58 54 true (aB .eql (aT 57) (aN 64)),
 aI 59 (.pick (aT 54) (aT 58) (.av (.bool false))), aM 43 59]))) (.cond (aT 43) (aQ [aI 2 (.move (.av (.lit (.slice none 0 0)))), aI 3 (.move (aN 6))]
 (.ret)) (aQ [aI 61 (aK 6 7), aI 62 (aC 86 [(aT 61)]), aM 60 62] (.cond (aT 60)
 (.seq (.region [aI 63 (aF 2 7), aI 64 (aL 63), aI 65 (aF 5 7), aI 66 (.loadA none (aT 65) [(aT 5)]), aI 67 (aF 0 5),
 aJ (.storeA 1 (aT 67) (aT 64) (aT 5) []), aM 6 66] true) (aQ [aM 68 4, aI 69 (aK 2 5),
 aI 70 (.buildSlice false 47 2 1 [(.str []), (.lit (.slice none 0 0))] [(0, (aT 69))]), aI 71 (.append 47 2 40 [(.str []), (.lit (.slice none 0 0))] (aT 68) (aT 70)),
 aI 72 (.build [(.str []), (.lit (.slice none 0 0))] []), aM 4 71, aJ (.store 2 (aT 5) (aT 72))] (.goto 0))) (.skip)))))))))))) (aQ [aM 74 0,
 aI 75 (aK 6 7), aI 76 (aC 87 [(aT 74), (aT 75)]), aM 73 76, aI 77 (aE 73 0), aI 78 (aE 73 1),
 aI 79 (aE 73 2), aI 9 (.alloc 26 [(.int .i64 0), (.int .i64 0), (.int .i64 0), (.str []), (.lit (.slice none 0 0)), (.lit (.slice none 0 0))]),
 aJ (.store 6 (aT 9) (aT 77)), aM 10 78, aM 8 79] (.seq (aQ [aM 80 8, aI 81 (aB .neq (aT 80) (aN 0))] (.cond (aT 81)
 (aQ [aM 82 8, aI 2 (.move (.av (.lit (.slice none 0 0)))), aM 3 82] (.ret)) (.skip))) (aQ [aI 83 (aF 1 5), aI 84 (aL 83),
 aI 85 (aK 6 9),
 aI 86 (.buildSlice false 26 6 1 [(.int .i64 0), (.int .i64 0), (.int .i64 0), (.str []), (.lit (.slice none 0 0)), (.lit (.slice none 0 0))] [(0, (aT 85))]),
 aI 87 (.append 26 6 88 [(.int .i64 0), (.int .i64 0), (.int .i64 0), (.str []), (.lit (.slice none 0 0)), (.lit (.slice none 0 0))] (aT 84) (aT 86)), aM 88 10,
 aI 89 (aF 1 5), aJ (.store 1 (aT 89) (aT 87)), aM 6 88] (.goto 0)))))))⟩
def ac44 : AF := ⟨87, [.tmp 2, .tmp 3], aQ [aI 2 (.move (.av (.lit (.slice none 0 0)))), aI 3 (.move (aN 0))]
 (aQ [aI 4 (.move (.av (.lit (.slice none 0 0))))] (aQ [aI 5 (.move (.av (.lit (.slice none 0 0))))]
 (aQ [aI 6 (.move (aN 0))] (.block 0 (.loop (.block 1 (aQ [aM 13 0, aM 14 6, aI 15 (aC 88 [(aT 13), (aT 14)]), aM 12 15,
 aI 16 (aE 12 0), aI 17 (aE 12 1), aI 7 (.alloc 143 [(.int .i64 0), (.int .i64 0), (.str []), (.bool false), (.int .i64 0), (.int .i64 0)]),
 aJ (.store 6 (aT 7) (aT 16)), aM 8 17] (.block 2 (aQ [aM 34 8, aI 35 (aB .neq (aT 34) (aN 0)), aM 33 35] (.cond (aT 33)
 (aQ [aM 36 8, aI 2 (.move (.av (.lit (.slice none 0 0)))), aM 3 36] (.ret)) (aQ [aI 38 (aF 0 7), aI 39 (aL 38),
 aI 40 (aB .eql (aT 39) (aN 0)), aM 41 40, aG 42 41 true (aV 5), aG 43 41 true (.len (.slice 6) (aT 42)),
 aG 44 41 true (aB .gtr (aT 43) (aN 0)), aI 45 (.pick (aT 41) (aT 44) (.av (.bool false))), aM 37 45] (.cond (aT 37)
 (aQ [aI 2 (.move (.av (.lit (.slice none 0 0)))), aI 3 (.move (aN 3))] (.ret)) (aQ [aI 47 (aF 0 7), aI 48 (aL 47),
 aI 49 (aB .eql (aT 48) (aN 0)), aM 46 49] (.cond (aT 46) (aQ [aM 50 4, aM 2 50, aI 3 (.move (aN 0))] (.ret))
 (aQ [aI 52 (aK 6 7), aI 53 (aC 89 [(aT 52)]), aM 54 53, aG 55 54 true (aF 2 7),
 aG 56 54 true (aL 55), aG 57 54 true (.bin .eql .other false (aT 56) (.av (.str [66, 73]))), aI 58 (.pick (aT 54) (aT 57) (.av (.bool false))), aM 51 58]
 (.cond (aT 51) (aQ [aI 2 (.move (.av (.lit (.slice none 0 0)))), aI 3 (.move (aN 3))] (.ret)) (.seq (aQ [aI 60 (aK 6 7),
 aI 61 (aC 89 [(aT 60)]), aM 62 61, aG 63 62 true (aV 4), aG 64 62 true (.len (.slice 2) (aT 63)),
 aG 65 62 true (aB .eql (aT 64) (aN 65536)), aI 66 (.pick (aT 62) (aT 65) (.av (.bool false))), aM 59 66] (.cond (aT 59) (.skip)
 (aR [aI 67 (aK 6 7), aI 68 (aC 89 [(aT 67)]), aI 69 (.un .not false (aT 68)), aM 70 69, aG 71 70 true (aV 5),
 aG 72 70 true (.len (.slice 6) (aT 71)), aG 73 70 true (aB .eql (aT 72) (aN 64)), aI 74 (.pick (aT 70) (aT 73) (.av (.bool false))), aM 59 74])))
 (.cond (aT 59) (aQ [aI 2 (.move (.av (.lit (.slice none 0 0)))), aI 3 (.move (aN 6))] (.ret)) (aQ [aI 76 (aK 6 7),
 aI 77 (aC 89 [(aT 76)]), aM 75 77] (.cond (aT 75) (aQ [aM 78 4, aI 79 (aF 2 7), aI 80 (aL 79), aM 81 5,
 aI 82 (.build [(.str []), (.lit (.slice none 0 0))] [(0, 1, (aT 80)), (1, 1, (aT 81))]), aI 83 (.buildSlice false 82 2 1 [(.str []), (.lit (.slice none 0 0))] [(0, (aT 82))]),
 aI 84 (.append 82 2 40 [(.str []), (.lit (.slice none 0 0))] (aT 78) (aT 83)), aM 4 84] (aQ [aI 5 (.move (.av (.lit (.slice none 0 0))))]
 (aR [aI 85 (aF 5 7), aI 86 (aL 85), aM 6 86]))) (aQ [aM 19 0, aI 20 (aK 6 7),
 aI 21 (aC 90 [(aT 19), (aT 20)]), aM 18 21, aI 22 (aE 18 0), aI 23 (aE 18 1), aI 24 (aE 18 2),
 aI 9 (.alloc 26 [(.int .i64 0), (.int .i64 0), (.int .i64 0), (.str []), (.lit (.slice none 0 0)), (.lit (.slice none 0 0))]), aJ (.store 6 (aT 9) (aT 22)), aM 10 23,
 aM 11 24] (.seq (aQ [aM 25 11, aI 26 (aB .neq (aT 25) (aN 0))] (.cond (aT 26) (aQ [aM 27 11,
 aI 2 (.move (.av (.lit (.slice none 0 0)))), aM 3 27] (.ret)) (.skip))) (aQ [aM 28 5, aI 29 (aK 6 9),
 aI 30 (.buildSlice false 26 6 1 [(.int .i64 0), (.int .i64 0), (.int .i64 0), (.str []), (.lit (.slice none 0 0)), (.lit (.slice none 0 0))] [(0, (aT 29))]),
 aI 31 (.append 26 6 88 [(.int .i64 0), (.int .i64 0), (.int .i64 0), (.str []), (.lit (.slice none 0 0)), (.lit (.slice none 0 0))] (aT 28) (aT 30)), aM 5 31]
 (aR [aM 32 10, aM 6 32]))))))))))))))))))))))))⟩
def ac45 : AF := ⟨72, [.tmp 4], aQ [aI 4 (.move (.av (.bool false)))] (.seq (aQ [aM 7 0, aI 8 (.len (.slice 2) (aT 7)), aM 9 1,
 aI 10 (.len (.slice 2) (aT 9)), aI 11 (aB .neq (aT 8) (aT 10))] (.cond (aT 11) (aQ [aI 4 (.move (.av (.bool false)))] (.ret)) (.skip)))
 (.seq (aQ [aI 5 (.move (aN 0))] (.block 0 (.loop (.seq (aQ [aM 12 5, aM 13 0, aI 14 (.len (.slice 2) (aT 13)),
 aI 15 (aB .lss (aT 12) (aT 14))] (.cond (aT 15) (.skip) (.exit 0))) (.seq (.block 1 (.seq (.seq (.region [aM 18 0, aM 19 5,
 aI 20 (.indexAddr none 2 (aT 18) (aT 19)), aI 21 (aF 0 20), aI 22 (aL 21), aM 23 1, aM 24 5, aI 25 (.indexAddr none 2 (aT 23) (aT 24)),
 aI 26 (aF 0 25), aI 27 (aL 26), aI 28 (.bin .neq .other false (aT 22) (aT 27)), aM 29 28, aG 30 29 false (aV 0), aG 31 29 false (aV 5),
 aG 32 29 false (.indexAddr none 2 (aT 30) (aT 31)), aG 33 29 false (aF 1 32), aG 34 29 false (aL 33), aG 35 29 false (.len (.slice 6) (aT 34)),
 aG 36 29 false (aV 1), aG 37 29 false (aV 5), aG 38 29 false (.indexAddr none 2 (aT 36) (aT 37)), aG 39 29 false (aF 1 38),
 aG 40 29 false (aL 39), aG 41 29 false (.len (.slice 6) (aT 40)), aG 42 29 false (aB .neq (aT 35) (aT 41)),
 aI 43 (.pick (aT 29) (.av (.bool true)) (aT 42))] true) (.cond (aT 43) (aQ [aI 4 (.move (.av (.bool false)))] (.ret)) (.skip)))
 (aQ [aI 6 (.move (aN 0))] (.block 2 (.loop (.seq (aQ [aM 44 6, aM 45 0, aM 46 5, aI 47 (.indexAddr none 2 (aT 45) (aT 46)),
 aI 48 (aF 1 47), aI 49 (aL 48), aI 50 (.len (.slice 6) (aT 49)), aI 51 (aB .lss (aT 44) (aT 50))] (.cond (aT 51) (.skip)
 (.exit 2))) (.seq (.block 3 (.seq (.region [aM 54 0, aM 55 5, aI 56 (.indexAddr none 2 (aT 54) (aT 55)), aI 57 (aF 1 56), aI 58 (aL 57), aM 59 6,
 aI 60 (.indexAddr none 6 (aT 58) (aT 59)), aI 61 (aK 6 60), aM 62 1, aM 63 5, aI 64 (.indexAddr none 2 (aT 62) (aT 63)), aI 65 (aF 1 64),
 aI 66 (aL 65), aM 67 6, aI 68 (.indexAddr none 6 (aT 66) (aT 67)), aI 69 (aK 6 68), aI 70 (aC 27 [(aT 61), (aT 69)]),
 aI 71 (.un .not false (aT 70))] true) (.cond (aT 71) (aQ [aI 4 (.move (.av (.bool false)))] (.ret)) (.skip)))) (aR [aM 52 6,
 aI 53 (aB .add (aT 52) (aN 1)), aM 6 53])))))))) (aR [aM 16 5, aI 17 (aB .add (aT 16) (aN 1)), aM 5 17]))))))
 (aQ [aI 4 (.move (.av (.bool true)))] (.ret))))⟩
def ac46 : AF := ⟨26, [.tmp 2], aQ [aI 2 (.move (.av (.lit (.slice none 0 0))))] (aQ [aI 3 (.move (.av (.lit (.slice none 0 0))))]
 (.seq (aQ [aI 4 (.move (aN 0))] (.block 0 (.loop (.seq (aQ [aM 5 4, aM 6 0, aI 7 (.len (.slice 2) (aT 6)),
 aI 8 (aB .lss (aT 5) (aT 7))] (.cond (aT 8) (.skip) (.exit 0))) (.seq (.block 1 (.region [aM 11 3, aM 12 0, aM 13 4,
 aI 14 (.indexAddr none 2 (aT 12) (aT 13)), aI 15 (aF 0 14), aI 16 (aL 15), aM 17 0, aM 18 4, aI 19 (.indexAddr none 2 (aT 17) (aT 18)),
 aI 20 (aF 1 19), aI 21 (aL 20), aI 22 (.build [(.str []), (.lit (.slice none 0 0))] [(0, 1, (aT 16)), (1, 1, (aT 21))]),
 aI 23 (.buildSlice false 82 2 1 [(.str []), (.lit (.slice none 0 0))] [(0, (aT 22))]), aI 24 (.append 82 2 40 [(.str []), (.lit (.slice none 0 0))] (aT 11) (aT 23)),
 aM 3 24] true)) (aR [aM 9 4, aI 10 (aB .add (aT 9) (aN 1)), aM 4 10])))))) (aQ [aM 25 3, aM 2 25] (.ret))))⟩
def ac50 : AF := ⟨46, [.tmp 2], aQ [aI 2 (.move (.av (.lit (.slice none 0 0))))] (aQ [aI 3 (.move (aN 0)), aI 4 (.move (aN 0))]
 (.seq (aQ [aM 9 0, aI 10 (.len (.slice 2) (aT 9)), aI 11 (.move (aN 0))] (.block 0 (.loop (aQ [aI 12 (aB .lss (aT 11) (aT 10))]
 (.seq (.cond (aT 12) (.skip) (.exit 0)) (.seq (.block 1 (aQ [aI 13 (.indexAddr none 2 (aT 9) (aT 11)), aI 14 (aK 2 13),
 aI 6 (.alloc 47 [(.str []), (.lit (.slice none 0 0))]), aJ (.store 2 (aT 6) (aT 14))] (.seq (aQ [aI 15 (aF 0 6), aI 16 (aL 15)]
 (.block 2 (aQ [aI 18 (.bin .eql .other false (aT 16) (.av (.str [113]))), aM 17 18] (.cond (aT 17) (aR [aM 19 3,
 aI 20 (aB .add (aT 19) (aN 1)), aM 3 20]) (aQ [aI 22 (.bin .eql .other false (aT 16) (.av (.str [81]))), aM 21 22] (.cond (aT 21)
 (aR [aM 23 3, aI 24 (aB .sub (aT 23) (aN 1)), aM 3 24]) (.skip))))))) (aR [aM 25 4, aM 26 3, aI 27 (.minmax false [(aT 25), (aT 26)]),
 aM 4 27])))) (aR [aI 28 (aB .add (aT 11) (aN 1)), aM 11 28])))))))
 (aQ [aI 29 (.build [(.str []), (.lit (.slice none 0 0))] [(0, 1, (.av (.str [113])))]),
 aI 30 (.buildSlice false 47 2 1 [(.str []), (.lit (.slice none 0 0))] [(0, (aT 29))]), aM 31 4, aI 32 (aB .sub (aN 1) (aT 31)),
 aI 33 (aC 91 [(aT 30), (aT 32)]), aM 7 33] (aQ [aI 34 (.build [(.str []), (.lit (.slice none 0 0))] [(0, 1, (.av (.str [81])))]),
 aI 35 (.buildSlice false 47 2 1 [(.str []), (.lit (.slice none 0 0))] [(0, (aT 34))]), aM 36 3, aI 37 (aB .add (aN 1) (aT 36)), aM 38 4,
 aI 39 (aB .sub (aT 37) (aT 38)), aI 40 (aC 91 [(aT 35), (aT 39)]), aM 8 40] (aQ [aM 41 7, aM 42 0, aM 43 8,
 aI 44 (.buildSlice false 42 1 3 [(.lit (.slice none 0 0))] [(0, (aT 41)), (1, (aT 42)), (2, (aT 43))]), aI 45 (aC 92 [(aT 44)]), aM 2 45]
 (.ret))))))⟩
def ac56 : AF := ⟨19, [.tmp 4, .tmp 5], aQ [aI 4 (.move (aN 0)), aI 5 (.move (.av (.lit .nilIface)))] (aQ [aM 6 0,
 aI 7 (aC 104 [(aT 6)])] (aQ [aM 8 0, aM 9 0, aI 10 (.nilCheck (aT 9)), aI 11 (aF 1 10), aI 12 (aL 11),
 aM 13 1, aI 14 (.append 5 1 1 [(.int .u8 0)] (aT 12) (aT 13)), aI 15 (.nilCheck (aT 8)), aI 16 (aF 1 15), aJ (.store 1 (aT 16) (aT 14))]
 (aQ [aM 17 1, aI 18 (.len .str (aT 17)), aM 4 18, aI 5 (.move (.av (.lit .nilIface)))] (.ret))))⟩
def ac59 : AF := ⟨71, [.cell 6 (some 6)], aQ [aI 3 (.box 26 (aT 0)), aI 5 (.box 26 (aT 2)),
 aI 6 (.alloc 26 [(.int .i64 0), (.int .i64 0), (.int .i64 0), (.str []), (.lit (.slice none 0 0)), (.lit (.slice none 0 0))])]
 (.seq (aQ [aI 10 (aF 0 3), aI 11 (aL 10), aI 12 (aB .neq (aT 11) (aN 6)), aM 13 12, aG 14 13 true (aF 0 3),
 aG 15 13 true (aL 14), aG 16 13 true (aB .neq (aT 15) (aN 8)), aI 17 (.pick (aT 13) (aT 16) (.av (.bool false)))] (.cond (aT 17)
 (aQ [aI 18 (aK 6 3), aJ (.store 6 (aT 6) (aT 18))] (.ret)) (.skip))) (aQ [aI 7 (.move (.av (.lit (.slice none 0 0))))]
 (aQ [aI 8 (.move (.av (.bool false)))] (.seq (aQ [aI 9 (.move (aN 0))] (.block 0 (.loop (.seq (aQ [aM 19 9,
 aI 20 (aF 5 3), aI 21 (aL 20), aI 22 (.len (.slice 7) (aT 21)), aI 23 (aB .lss (aT 19) (aT 22))] (.cond (aT 23) (.skip) (.exit 0)))
 (.seq (.block 1 (aQ [aI 26 (aF 5 3), aI 27 (aL 26), aM 28 9, aI 29 (.indexAddr none 7 (aT 27) (aT 28)), aI 30 (aF 0 29),
 aI 31 (aL 30), aM 32 1, aI 33 (.bin .neq .other false (aT 31) (aT 32))] (.cond (aT 33) (aR [aM 34 7, aI 35 (aF 5 3),
 aI 36 (aL 35), aM 37 9, aI 38 (.indexAddr none 7 (aT 36) (aT 37)), aI 39 (aK 7 38),
 aI 40 (.buildSlice false 106 7 1 [(.str []), (.int .i64 0), (.int .i64 0), (.int .i64 0), (.str []), (.lit (.slice none 0 0)), (.lit (.slice none 0 0))] [(0, (aT 39))]),
 aI 41 (.append 106 7 104 [(.str []), (.int .i64 0), (.int .i64 0), (.int .i64 0), (.str []), (.lit (.slice none 0 0)), (.lit (.slice none 0 0))] (aT 34) (aT 40)), aM 7 41])
 (aQ [aI 42 (aF 0 5), aI 43 (aL 42), aI 44 (aB .neq (aT 43) (aN 0)), aM 45 44, aG 46 45 true (aV 8),
 aG 47 45 true (.un .not false (aT 46)), aI 48 (.pick (aT 45) (aT 47) (.av (.bool false)))] (.cond (aT 48) (aQ [aM 49 7, aM 50 1, aI 51 (aK 6 5),
 aI 52 (.build [(.str []), (.int .i64 0), (.int .i64 0), (.int .i64 0), (.str []), (.lit (.slice none 0 0)), (.lit (.slice none 0 0))] [(0, 1, (aT 50)), (1, 6, (aT 51))]),
 aI 53 (.buildSlice false 106 7 1 [(.str []), (.int .i64 0), (.int .i64 0), (.int .i64 0), (.str []), (.lit (.slice none 0 0)), (.lit (.slice none 0 0))] [(0, (aT 52))]),
 aI 54 (.append 106 7 104 [(.str []), (.int .i64 0), (.int .i64 0), (.int .i64 0), (.str []), (.lit (.slice none 0 0)), (.lit (.slice none 0 0))] (aT 49) (aT 53)), aM 7 54]
 (aR [aI 8 (.move (.av (.bool true)))])) (.skip)))))) (aR [aM 24 9, aI 25 (aB .add (aT 24) (aN 1)), aM 9 25]))))))
 (.seq (aQ [aI 55 (aF 0 5), aI 56 (aL 55), aI 57 (aB .neq (aT 56) (aN 0)), aM 58 57, aG 59 58 true (aV 8),
 aG 60 58 true (.un .not false (aT 59)), aI 61 (.pick (aT 58) (aT 60) (.av (.bool false)))] (.cond (aT 61) (aR [aM 62 7, aM 63 1, aI 64 (aK 6 5),
 aI 65 (.build [(.str []), (.int .i64 0), (.int .i64 0), (.int .i64 0), (.str []), (.lit (.slice none 0 0)), (.lit (.slice none 0 0))] [(0, 1, (aT 63)), (1, 6, (aT 64))]),
 aI 66 (.buildSlice false 106 7 1 [(.str []), (.int .i64 0), (.int .i64 0), (.int .i64 0), (.str []), (.lit (.slice none 0 0)), (.lit (.slice none 0 0))] [(0, (aT 65))]),
 aI 67 (.append 106 7 104 [(.str []), (.int .i64 0), (.int .i64 0), (.int .i64 0), (.str []), (.lit (.slice none 0 0)), (.lit (.slice none 0 0))] (aT 62) (aT 66)), aM 7 67])
 (.skip))) (aQ [aM 68 7, aI 69 (aF 5 3), aJ (.store 1 (aT 69) (aT 68))] (aQ [aI 70 (aK 6 3),
 aJ (.store 6 (aT 6) (aT 70))] (.ret))))))))⟩
def ac64 : AF := ⟨20, [.cell 2 (some 6), .tmp 3],
 aQ [aI 2 (.alloc 26 [(.int .i64 0), (.int .i64 0), (.int .i64 0), (.str []), (.lit (.slice none 0 0)), (.lit (.slice none 0 0))]), aI 3 (.move (aN 0))]
 (aQ [aM 7 0, aI 8 (aC 115 [(aT 7)]), aM 6 8, aI 9 (aE 6 0), aI 10 (aE 6 1),
 aI 4 (.alloc 138 [(.int .i64 0), (.int .i64 0), (.str []), (.bool false), (.int .i64 0), (.int .i64 0)]), aJ (.store 6 (aT 4) (aT 9)), aM 5 10]
 (.seq (aQ [aM 11 5, aI 12 (aB .neq (aT 11) (aN 0))] (.cond (aT 12)
 (aQ [aI 13 (.build [(.int .i64 0), (.int .i64 0), (.int .i64 0), (.str []), (.lit (.slice none 0 0)), (.lit (.slice none 0 0))] []), aM 14 5,
 aJ (.store 6 (aT 2) (aT 13)), aM 3 14] (.ret)) (.skip))) (aQ [aM 15 0, aI 16 (aK 6 4),
 aI 17 (aC 116 [(aT 15), (aT 16)]), aI 18 (aE 17 0), aI 19 (aE 17 1), aJ (.store 6 (aT 2) (aT 18)), aM 3 19] (.ret))))⟩
def ac69 : AF := ⟨46, [.tmp 4], aQ [aI 3 (.box 47 (aT 1)), aI 4 (.move (aN 0))] (.seq (.block 0 (aQ [aI 10 (aF 0 3),
 aI 11 (aL 10), aI 12 (aC 122 [(aT 11)]), aI 13 (.un .not false (aT 12)), aM 9 13] (.cond (aT 9)
 (aQ [aI 4 (.move (aN 1))] (.ret)) (aQ [aI 15 (aF 1 3), aI 16 (aL 15), aI 17 (.len (.slice 6) (aT 16)),
 aI 18 (aB .gtr (aT 17) (aN 64)), aM 14 18] (.cond (aT 14) (aQ [aI 4 (.move (aN 6))] (.ret)) (.skip))))))
 (.seq (aQ [aI 19 (aF 1 3), aI 20 (aL 19), aI 21 (.len (.slice 6) (aT 20)), aI 22 (.move (aN 0))] (.block 1 (.loop
 (aQ [aI 23 (aB .lss (aT 22) (aT 21))] (.seq (.cond (aT 23) (.skip) (.exit 1)) (.seq (.block 2
 (aQ [aI 24 (.indexAddr none 6 (aT 20) (aT 22)), aI 25 (aK 6 24),
 aI 6 (.alloc 26 [(.int .i64 0), (.int .i64 0), (.int .i64 0), (.str []), (.lit (.slice none 0 0)), (.lit (.slice none 0 0))]), aJ (.store 6 (aT 6) (aT 25))]
 (.seq (aQ [aI 26 (aK 6 6), aI 27 (aC 123 [(aT 26)])] (.cond (aT 27) (aQ [aI 4 (.move (aN 1))]
 (.ret)) (.skip))) (aQ [aI 29 (aK 6 6), aI 30 (aC 19 [(aT 29)]), aM 28 30, aI 31 (aE 28 0),
 aI 32 (aE 28 1), aM 7 31, aM 8 32] (.seq (aQ [aM 33 8, aI 34 (aB .neq (aT 33) (aN 0))] (.cond (aT 34) (aQ [aM 35 8,
 aM 4 35] (.ret)) (.skip))) (aR [aM 36 0, aM 37 7, aI 38 (.bin .add .other false (aT 37) (.av (.str [32]))),
 aI 39 (aC 56 [(aT 36), (aT 38)])])))))) (aR [aI 40 (aB .add (aT 22) (aN 1)), aM 22 40]))))))) (aQ [aM 41 0,
 aI 42 (aF 0 3), aI 43 (aL 42), aI 44 (.bin .add .other false (aT 43) (.av (.str [10]))),
 aI 45 (aC 56 [(aT 41), (aT 44)])] (aQ [aI 4 (.move (aN 0))] (.ret)))))⟩
def ac85 : AF := ⟨41, [.cell 4 (some 6), .tmp 5], aQ [aI 4 (.alloc 138 [(.int .i64 0), (.int .i64 0), (.str []), (.bool false), (.int .i64 0), (.int .i64 0)]),
 aI 5 (.move (aN 0))] (.seq (aQ [aM 8 1, aI 9 (aB .lss (aT 8) (aN 0)), aM 10 9, aG 11 10 false (aV 1), aG 12 10 false (aV 0),
 aG 13 10 false (.len .str (aT 12)), aG 14 10 false (aB .gtr (aT 11) (aT 13)), aI 15 (.pick (aT 10) (.av (.bool true)) (aT 14))] (.cond (aT 15)
 (aQ [aI 16 (.build [(.int .i64 0), (.int .i64 0), (.str []), (.bool false), (.int .i64 0), (.int .i64 0)] []), aJ (.store 6 (aT 4) (aT 16)),
 aI 5 (.move (aN 1))] (.ret)) (.skip))) (aQ [aM 17 0, aM 18 1, aI 19 (aC 136 [(aT 17), (aT 18)]),
 aI 20 (.build [(.int .i64 0), (.int .i64 0), (.str []), (.bool false), (.int .i64 0), (.int .i64 0)] [(4, 1, (aT 19))]),
 aI 6 (.alloc 138 [(.int .i64 0), (.int .i64 0), (.str []), (.bool false), (.int .i64 0), (.int .i64 0)]), aJ (.store 6 (aT 6) (aT 20))]
 (.seq (aQ [aI 21 (aF 4 6), aI 22 (aL 21), aM 23 0, aI 24 (.len .str (aT 23)), aI 25 (aB .eql (aT 22) (aT 24))]
 (.cond (aT 25) (aQ [aI 26 (aF 4 6), aI 27 (aL 26), aI 28 (aF 5 6), aJ (.store 1 (aT 28) (aT 27))]
 (aQ [aI 29 (aK 6 6), aJ (.store 6 (aT 4) (aT 29)), aI 5 (.move (aN 0))] (.ret))) (.skip))) (aQ [aM 31 0,
 aI 32 (aK 6 6), aI 33 (aC 137 [(aT 31), (aT 32)]), aM 30 33, aI 34 (aE 30 0), aI 35 (aE 30 1),
 aJ (.store 6 (aT 6) (aT 34)), aM 7 35] (.seq (aQ [aM 36 7, aI 37 (aB .neq (aT 36) (aN 0))] (.cond (aT 37)
 (aQ [aI 38 (.build [(.int .i64 0), (.int .i64 0), (.str []), (.bool false), (.int .i64 0), (.int .i64 0)] []), aM 39 7, aJ (.store 6 (aT 4) (aT 38)), aM 5 39]
 (.ret)) (.skip))) (aQ [aI 40 (aK 6 6), aJ (.store 6 (aT 4) (aT 40)), aI 5 (.move (aN 0))] (.ret)))))))⟩
def ac86 : AF := ⟨12, [.tmp 2], aQ [aI 1 (.box 138 (aT 0)), aI 2 (.move (.av (.bool false)))] (aQ [aI 3 (aF 0 1), aI 4 (aL 3),
 aI 5 (aB .eql (aT 4) (aN 8)), aM 6 5, aG 7 6 true (aF 2 1), aG 8 6 true (aL 7),
 aG 9 6 true (aC 138 [(aT 8)]), aG 10 6 true (.un .not false (aT 9)), aI 11 (.pick (aT 6) (aT 10) (.av (.bool false))), aM 2 11] (.ret))⟩
def ac87 : AF := ⟨27, [.cell 4 (some 6), .tmp 5, .tmp 6], aQ [aI 3 (.box 138 (aT 1)),
 aI 4 (.alloc 26 [(.int .i64 0), (.int .i64 0), (.int .i64 0), (.str []), (.lit (.slice none 0 0)), (.lit (.slice none 0 0))]), aI 5 (.move (aN 0)), aI 6 (.move (aN 0))]
 (.seq (aQ [aI 8 (aF 0 3), aI 9 (aL 8), aI 10 (aB .neq (aT 9) (aN 1))] (.cond (aT 10) (aQ [aM 11 0,
 aI 12 (aF 4 3), aI 13 (aL 12), aI 14 (aC 26 [(aT 11), (aT 13)]), aI 15 (aE 14 0), aI 16 (aE 14 1),
 aI 17 (aE 14 2), aJ (.store 6 (aT 4) (aT 15)), aM 5 16, aM 6 17] (.ret)) (.skip))) (aQ [aI 18 (aF 1 3), aI 19 (aL 18),
 aI 20 (.build [(.int .i64 0), (.int .i64 0), (.int .i64 0), (.str []), (.lit (.slice none 0 0)), (.lit (.slice none 0 0))] [(0, 1, (aN 2)), (2, 1, (aT 19))]),
 aI 7 (.alloc 26 [(.int .i64 0), (.int .i64 0), (.int .i64 0), (.str []), (.lit (.slice none 0 0)), (.lit (.slice none 0 0))]), aJ (.store 6 (aT 7) (aT 20))]
 (.seq (aQ [aI 21 (aF 3 3), aI 22 (aL 21)] (.cond (aT 22) (aR [aI 23 (aF 1 7), aJ (.store 1 (aT 23) (aN 1))])
 (.skip))) (.seq (.region [aI 24 (aK 6 7), aI 25 (aF 5 3), aI 26 (.loadA none (aT 25) [(aT 4)]), aJ (.storeA 6 (aT 4) (aT 24) (aT 4) []), aM 5 26,
 aI 6 (.move (aN 0))] true) (.ret)))))⟩
def ac88 : AF := ⟨145, [.cell 4 (some 6), .tmp 5], aQ [aI 4 (.alloc 143 [(.int .i64 0), (.int .i64 0), (.str []), (.bool false), (.int .i64 0), (.int .i64 0)]),
 aI 5 (.move (aN 0))] (.seq (aQ [aM 18 1, aI 19 (aB .lss (aT 18) (aN 0)), aM 20 19, aG 21 20 false (aV 1), aG 22 20 false (aV 0),
 aG 23 20 false (.len .str (aT 22)), aG 24 20 false (aB .gtr (aT 21) (aT 23)), aI 25 (.pick (aT 20) (.av (.bool true)) (aT 24))] (.cond (aT 25)
 (aQ [aI 26 (.build [(.int .i64 0), (.int .i64 0), (.str []), (.bool false), (.int .i64 0), (.int .i64 0)] []), aJ (.store 6 (aT 4) (aT 26)),
 aI 5 (.move (aN 1))] (.ret)) (.skip))) (aQ [aM 27 0, aM 28 1, aI 29 (aC 139 [(aT 27), (aT 28)]),
 aI 30 (.build [(.int .i64 0), (.int .i64 0), (.str []), (.bool false), (.int .i64 0), (.int .i64 0)] [(4, 1, (aT 29))]),
 aI 6 (.alloc 143 [(.int .i64 0), (.int .i64 0), (.str []), (.bool false), (.int .i64 0), (.int .i64 0)]), aJ (.store 6 (aT 6) (aT 30))]
 (.seq (aQ [aI 31 (aF 4 6), aI 32 (aL 31), aM 33 0, aI 34 (.len .str (aT 33)), aI 35 (aB .eql (aT 32) (aT 34))]
 (.cond (aT 35) (aQ [aI 36 (aF 4 6), aI 37 (aL 36), aI 38 (aF 5 6), aJ (.store 1 (aT 38) (aT 37))]
 (aQ [aI 39 (aK 6 6), aJ (.store 6 (aT 4) (aT 39)), aI 5 (.move (aN 0))] (.ret))) (.skip))) (aQ [aM 40 0, aI 41 (aF 4 6),
 aI 42 (aL 41), aI 43 (.indexStr (aT 40) (aT 42)), aM 7 43] (aQ [aI 8 (.move (aN 0))] (aQ [aI 44 (aF 4 6),
 aI 45 (aL 44), aI 46 (aB .add (aT 45) (aN 1)), aI 47 (aF 5 6), aJ (.store 1 (aT 47) (aT 46))] (.seq (.block 0
 (aQ [aM 55 7, aI 56 (.bin .eql .other false (aT 55) (.av (.int .u8 91))), aM 54 56] (.cond (aT 54) (aR [aI 57 (aF 0 6),
 aJ (.store 1 (aT 57) (aN 4))]) (aQ [aM 59 7, aI 60 (.bin .eql .other false (aT 59) (.av (.int .u8 93))), aM 58 60] (.cond (aT 58)
 (aR [aI 61 (aF 0 6), aJ (.store 1 (aT 61) (aN 5))]) (aQ [aM 63 7, aI 64 (.bin .eql .other false (aT 63) (.av (.int .u8 60))), aM 65 64,
 aG 66 65 false (aV 7), aG 67 65 false (.bin .eql .other false (aT 66) (.av (.int .u8 62))), aI 68 (.pick (aT 65) (.av (.bool true)) (aT 67)), aM 69 68,
 aG 70 69 true (aV 0), aG 71 69 true (aF 4 6), aG 72 69 true (aL 71), aG 73 69 true (aC 140 [(aT 70), (aT 72)]),
 aI 74 (.pick (aT 69) (aT 73) (.av (.bool false))), aM 62 74] (.cond (aT 62) (aQ [aI 75 (aF 0 6), aJ (.store 1 (aT 75) (aN 6))]
 (.seq (aQ [aM 76 7, aI 77 (.bin .eql .other false (aT 76) (.av (.int .u8 62)))] (.cond (aT 77) (aR [aI 78 (aF 0 6),
 aJ (.store 1 (aT 78) (aN 7))]) (.skip))) (aR [aI 79 (aF 4 6), aI 80 (aL 79), aI 81 (aB .add (aT 80) (aN 2)),
 aI 82 (aF 5 6), aJ (.store 1 (aT 82) (aT 81))]))) (aQ [aM 84 7, aI 85 (.bin .eql .other false (aT 84) (.av (.int .u8 47))), aM 83 85]
 (.cond (aT 83) (aQ [aI 86 (aF 0 6), aJ (.store 1 (aT 86) (aN 2))] (aQ [aM 88 0, aI 89 (aF 4 6), aI 90 (aL 89),
 aI 91 (aB .add (aT 90) (aN 1)), aI 92 (aC 141 [(aT 88), (aT 91)]), aM 87 92, aI 93 (aE 87 0), aI 94 (aE 87 1),
 aI 95 (aE 87 2), aM 9 93, aM 10 94, aM 11 95] (aQ [aM 96 9, aI 97 (aF 2 6), aJ (.store 1 (aT 97) (aT 96))]
 (aQ [aM 98 10, aI 99 (aF 5 6), aJ (.store 1 (aT 99) (aT 98))] (aR [aM 100 11, aM 8 100]))))) (aQ [aM 102 7,
 aI 103 (.bin .eql .other false (aT 102) (.av (.int .u8 40))), aM 101 103] (.cond (aT 101) (aQ [aI 104 (aF 0 6),
 aJ (.store 1 (aT 104) (aN 3))] (aQ [aM 106 0, aI 107 (aF 4 6), aI 108 (aL 107), aI 109 (aB .add (aT 108) (aN 1)),
 aI 110 (aC 142 [(aT 106), (aT 109)]), aM 105 110, aI 111 (aE 105 0), aI 112 (aE 105 1), aI 113 (aE 105 2),
 aM 12 111, aM 13 112, aM 14 113] (aQ [aM 114 12, aI 115 (aF 2 6), aJ (.store 1 (aT 115) (aT 114))] (aQ [aM 116 13,
 aI 117 (aF 5 6), aJ (.store 1 (aT 117) (aT 116))] (aR [aM 118 14, aM 8 118]))))) (aQ [aM 120 7,
 aI 121 (.bin .eql .other false (aT 120) (.av (.int .u8 60))), aM 119 121] (.cond (aT 119) (aQ [aI 122 (aF 0 6),
 aJ (.store 1 (aT 122) (aN 3))] (aQ [aM 124 0, aI 125 (aF 4 6), aI 126 (aL 125), aI 127 (aB .add (aT 126) (aN 1)),
 aI 128 (aC 143 [(aT 124), (aT 127)]), aM 123 128, aI 129 (aE 123 0), aI 130 (aE 123 1), aI 131 (aE 123 2),
 aM 15 129, aM 16 130, aM 17 131] (aQ [aM 132 15, aI 133 (aF 2 6), aJ (.store 1 (aT 133) (aT 132))] (aQ [aM 134 16,
 aI 135 (aF 5 6), aJ (.store 1 (aT 135) (aT 134))] (aR [aM 136 17, aM 8 136]))))) (aQ [aM 138 7,
 aI 139 (aC 144 [(aT 138)]), aM 137 139] (.cond (aT 137) (aR [aI 8 (.move (aN 3))]) (aQ [aM 48 0,
 aI 49 (aF 4 6), aI 50 (aL 49), aI 51 (aC 145 [(aT 48), (aT 50)]), aI 52 (aE 51 0), aI 53 (aE 51 1),
 aJ (.store 6 (aT 4) (aT 52)), aM 5 53] (.ret))))))))))))))))) (.seq (aQ [aM 140 8, aI 141 (aB .neq (aT 140) (aN 0))] (.cond (aT 141)
 (aQ [aI 142 (.build [(.int .i64 0), (.int .i64 0), (.str []), (.bool false), (.int .i64 0), (.int .i64 0)] []), aM 143 8, aJ (.store 6 (aT 4) (aT 142)),
 aM 5 143] (.ret)) (.skip))) (aQ [aI 144 (aK 6 6), aJ (.store 6 (aT 4) (aT 144)), aI 5 (.move (aN 0))] (.ret))))))))))⟩
def ac89 : AF := ⟨21, [.tmp 2], aQ [aI 1 (.box 143 (aT 0)), aI 2 (.move (.av (.bool false)))] (aQ [aI 3 (aF 0 1), aI 4 (aL 3),
 aI 5 (aB .eql (aT 4) (aN 8)), aM 6 5, aG 7 6 true (aF 2 1), aG 8 6 true (aL 7),
 aG 9 6 true (.bin .neq .other false (aT 8) (.av (.str [116, 114, 117, 101]))), aI 10 (.pick (aT 6) (aT 9) (.av (.bool false))), aM 11 10, aG 12 11 true (aF 2 1),
 aG 13 11 true (aL 12), aG 14 11 true (.bin .neq .other false (aT 13) (.av (.str [102, 97, 108, 115, 101]))), aI 15 (.pick (aT 11) (aT 14) (.av (.bool false))),
 aM 16 15, aG 17 16 true (aF 2 1), aG 18 16 true (aL 17), aG 19 16 true (.bin .neq .other false (aT 18) (.av (.str [110, 117, 108, 108]))),
 aI 20 (.pick (aT 16) (aT 19) (.av (.bool false))), aM 2 20] (.ret))⟩
def ac90 : AF := ⟨27, [.cell 4 (some 6), .tmp 5, .tmp 6], aQ [aI 3 (.box 143 (aT 1)),
 aI 4 (.alloc 26 [(.int .i64 0), (.int .i64 0), (.int .i64 0), (.str []), (.lit (.slice none 0 0)), (.lit (.slice none 0 0))]), aI 5 (.move (aN 0)), aI 6 (.move (aN 0))]
 (.seq (aQ [aI 8 (aF 0 3), aI 9 (aL 8), aI 10 (aB .neq (aT 9) (aN 1))] (.cond (aT 10) (aQ [aM 11 0,
 aI 12 (aF 4 3), aI 13 (aL 12), aI 14 (aC 146 [(aT 11), (aT 13)]), aI 15 (aE 14 0), aI 16 (aE 14 1),
 aI 17 (aE 14 2), aJ (.store 6 (aT 4) (aT 15)), aM 5 16, aM 6 17] (.ret)) (.skip))) (aQ [aI 18 (aF 1 3), aI 19 (aL 18),
 aI 20 (.build [(.int .i64 0), (.int .i64 0), (.int .i64 0), (.str []), (.lit (.slice none 0 0)), (.lit (.slice none 0 0))] [(0, 1, (aN 2)), (2, 1, (aT 19))]),
 aI 7 (.alloc 26 [(.int .i64 0), (.int .i64 0), (.int .i64 0), (.str []), (.lit (.slice none 0 0)), (.lit (.slice none 0 0))]), aJ (.store 6 (aT 7) (aT 20))]
 (.seq (aQ [aI 21 (aF 3 3), aI 22 (aL 21)] (.cond (aT 22) (aR [aI 23 (aF 1 7), aJ (.store 1 (aT 23) (aN 1))])
 (.skip))) (.seq (.region [aI 24 (aK 6 7), aI 25 (aF 5 3), aI 26 (.loadA none (aT 25) [(aT 4)]), aJ (.storeA 6 (aT 4) (aT 24) (aT 4) []), aM 5 26,
 aI 6 (.move (aN 0))] true) (.ret)))))⟩
def ac91 : AF := ⟨48, [.tmp 4], aQ [aI 4 (.move (.av (.lit (.slice none 0 0))))] (.seq (aQ [aM 9 1, aI 10 (aB .lss (aT 9) (aN 0))]
 (.cond (aT 10) (aR [aI 11 (.mkIface 9 (.av (.str [99, 97, 110, 110, 111, 116, 32, 98, 101, 32, 110, 101, 103, 97, 116, 105, 118, 101]))), aJ (.xop .bad [])]) (.skip)))
 (aQ [aM 13 0, aI 14 (.len (.slice 2) (aT 13)), aI 15 (.conv (.int .u64) (aT 14)), aM 16 1, aI 17 (.conv (.int .u64) (aT 16)),
 aI 18 (aC 147 [(aT 15), (aT 17)]), aM 12 18, aI 19 (aE 12 0), aI 20 (aE 12 1), aM 5 19, aM 6 20]
 (.seq (aQ [aM 21 5, aI 22 (.bin .gtr .other false (aT 21) (.av (.int .u64 0))), aM 23 22, aG 24 23 false (aV 6),
 aG 25 23 false (.bin .gtr .other false (aT 24) (.av (.int .u64 9223372036854775807))), aI 26 (.pick (aT 23) (.av (.bool true)) (aT 25))] (.cond (aT 26)
 (aR [aI 27 (.mkIface 9 (.av (.str [116, 104, 101, 32, 114, 101, 115, 117, 108, 116, 32, 111, 102, 32, 40, 108, 101, 110, 40, 120, 41, 32, 42, 32, 99, 111, 117, 110, 116, 41, 32, 111, 118, 101, 114, 102, 108, 111, 119, 115]))),
 aJ (.xop .bad [])]) (.skip))) (aQ [aM 28 6, aI 29 (.conv (.int .i64) (aT 28)), aI 30 (.makeSlice 47 2 40 [(.str []), (.lit (.slice none 0 0))] (aT 29) (aT 29)),
 aM 7 30] (aQ [aM 31 7, aM 32 0, aI 33 (.xop (.copy 2) [(aT 31), (aT 32)]), aM 8 33] (.seq (.block 0 (.loop (.seq (aQ [aM 34 8, aM 35 7,
 aI 36 (.len (.slice 2) (aT 35)), aI 37 (aB .lss (aT 34) (aT 36))] (.cond (aT 37) (.skip) (.exit 0))) (.block 1 (.region [aM 38 8, aM 39 7, aM 40 8,
 aI 41 (.slice (.slice 2) (aT 39) (some (aT 40)) none), aM 42 7, aM 43 8, aI 44 (.slice (.slice 2) (aT 42) none (some (aT 43))), aI 45 (.xop (.copy 2) [(aT 41), (aT 44)]),
 aI 46 (aB .add (aT 38) (aT 45)), aM 8 46] true))))) (aQ [aM 47 7, aM 4 47] (.ret))))))))⟩
def ac92 : AF := ⟨36, [.tmp 2], aQ [aI 2 (.move (.av (.lit (.slice none 0 0))))] (aQ [aI 3 (.move (aN 0))] (.seq (aQ [aM 9 0,
 aI 10 (.len (.slice 1) (aT 9)), aI 11 (.move (aN 0))] (.block 0 (.loop (aQ [aI 12 (aB .lss (aT 11) (aT 10))] (.seq (.cond (aT 12) (.skip)
 (.exit 0)) (.seq (.block 1 (aQ [aI 13 (.indexAddr none 1 (aT 9) (aT 11)), aI 14 (aL 13), aM 5 14] (aQ [aM 15 3, aM 16 5,
 aI 17 (.len (.slice 2) (aT 16)), aI 18 (aB .add (aT 15) (aT 17)), aM 3 18] (aQ [aM 19 3, aI 20 (aB .lss (aT 19) (aN 0))]
 (.cond (aT 20) (aR [aI 21 (.mkIface 9 (.av (.str [108, 101, 110, 32, 111, 117, 116, 32, 111, 102, 32, 114, 97, 110, 103, 101]))), aJ (.xop .bad [])]) (.skip))))))
 (aR [aI 22 (aB .add (aT 11) (aN 1)), aM 11 22]))))))) (aQ [aM 23 3,
 aI 24 (aC 148 [(.av (.lit (.slice none 0 0))), (aT 23)]), aM 6 24] (.seq (aQ [aM 25 0, aI 26 (.len (.slice 1) (aT 25)),
 aI 27 (.move (aN 0))] (.block 2 (.loop (aQ [aI 28 (aB .lss (aT 27) (aT 26))] (.seq (.cond (aT 28) (.skip) (.exit 2)) (.seq (.block 3
 (aQ [aI 29 (.indexAddr none 1 (aT 25) (aT 27)), aI 30 (aL 29), aM 8 30] (aR [aM 31 6, aM 32 8,
 aI 33 (.append 47 2 40 [(.str []), (.lit (.slice none 0 0))] (aT 31) (aT 32)), aM 6 33]))) (aR [aI 34 (aB .add (aT 27) (aN 1)), aM 27 34])))))))
 (aQ [aM 35 6, aM 2 35] (.ret))))))⟩
def ac94 : AF := ⟨19, [.tmp 2], aQ [aI 1 (.box 26 (aT 0)), aI 2 (.move (.av (.str [])))] (aQ [aI 4 (aF 2 1), aI 5 (aL 4),
 aI 6 (aC 97 [(aT 5)]), aM 3 6] (.seq (aQ [aI 7 (aF 1 1), aI 8 (aL 7),
 aI 9 (aB .eql (aT 8) (aN 0)), aM 10 9, aG 11 10 true (aF 2 1), aG 12 10 true (aL 11),
 aG 13 10 true (aB .rem (aT 12) (aN 1000)), aG 14 10 true (aB .eql (aT 13) (aN 0)), aI 15 (.pick (aT 10) (aT 14) (.av (.bool false)))]
 (.cond (aT 15) (aR [aM 16 3, aI 17 (.bin .add .other false (aT 16) (.av (.str [46, 48]))), aM 3 17]) (.skip))) (aQ [aM 18 3, aM 2 18] (.ret))))⟩
def ac97 : AF := ⟨43, [.tmp 2], aQ [aI 2 (.move (.av (.str [])))] (.seq (aQ [aM 7 0, aI 8 (.buildSlice false 22 1 1 [(.int .i64 0)] [(0, (aT 7))]),
 aI 9 (aC 117 [(aT 8)]), aI 10 (.un .not false (aT 9))] (.cond (aT 10) (aQ [aI 2 (.move (.av (.str [])))] (.ret)) (.skip)))
 (aQ [aM 12 0, aI 13 (aC 57 [(aT 12)]), aI 14 (aC 152 [(aT 13), (.av (.str [45]))]), aM 11 14,
 aI 15 (aE 11 0), aI 16 (aE 11 1), aM 3 15, aM 4 16] (.seq (aQ [aM 17 3, aI 18 (.len .str (aT 17)),
 aI 19 (aB .leq (aT 18) (aN 3))] (.cond (aT 19) (aR [aM 20 3, aI 21 (.len .str (aT 20)), aI 22 (aB .sub (aN 4) (aT 21)),
 aI 23 (aC 127 [(.av (.str [48])), (aT 22)]), aM 24 3, aI 25 (.bin .add .other false (aT 23) (aT 24)), aM 3 25]) (.skip)))
 (aQ [aM 26 3, aI 27 (.len .str (aT 26)), aI 28 (aB .sub (aT 27) (aN 3)), aM 5 28] (.seq (.region [aM 29 3, aM 30 5,
 aI 31 (.slice .str (aT 29) none (some (aT 30))), aI 32 (.bin .add .other false (aT 31) (.av (.str [46]))), aM 33 3, aM 34 5, aI 35 (.slice .str (aT 33) (some (aT 34)) none),
 aI 36 (.bin .add .other false (aT 32) (aT 35)), aI 37 (aC 154 [(aT 36), (.av (.str [48]))]),
 aI 38 (aC 153 [(aT 37), (.av (.str [46]))]), aM 6 38] true) (.seq (aQ [aM 39 4] (.cond (aT 39) (aQ [aM 40 6,
 aI 41 (.bin .add .other false (.av (.str [45])) (aT 40)), aM 2 41] (.ret)) (.skip))) (aQ [aM 42 6, aM 2 42] (.ret))))))))⟩
def ac98 : AF := ⟨17, [.tmp 4], aQ [aI 4 (.move (.av (.lit .nilIface)))] (aQ [aM 5 0, aI 6 (aC 104 [(aT 5)])]
 (aQ [aM 7 0, aM 8 0, aI 9 (.nilCheck (aT 8)), aI 10 (aF 1 9), aI 11 (aL 10), aM 12 1,
 aI 13 (.buildSlice false 5 1 1 [(.int .u8 0)] [(0, (aT 12))]), aI 14 (.append 5 1 1 [(.int .u8 0)] (aT 11) (aT 13)), aI 15 (.nilCheck (aT 7)), aI 16 (aF 1 15),
 aJ (.store 1 (aT 16) (aT 14))] (aQ [aI 4 (.move (.av (.lit .nilIface)))] (.ret))))⟩
def ac106 : AF := ⟨45, [.cell 6 (some 6)], aQ [aI 3 (.box 26 (aT 0)), aI 4 (.box 9 (aT 1)), aI 5 (.box 26 (aT 2)),
 aI 6 (.alloc 26 [(.int .i64 0), (.int .i64 0), (.int .i64 0), (.str []), (.lit (.slice none 0 0)), (.lit (.slice none 0 0))])]
 (.seq (aQ [aI 9 (aK 6 3), aI 10 (aC 159 [(aT 9)]), aI 11 (.un .not false (aT 10))] (.cond (aT 11)
 (aQ [aI 12 (aK 6 3), aJ (.store 6 (aT 6) (aT 12))] (.ret)) (.skip))) (aQ [aI 13 (aF 5 3), aI 14 (aL 13),
 aI 15 (aL 4), aI 16 (aC 160 [(aT 14), (aT 15)]), aM 7 16] (aQ [aI 17 (aF 5 3),
 aI 18 (aL 17), aI 19 (aC 162 [(aT 18)]), aI 20 (.mkFunc (.func 163) [] [(aT 4)]),
 aI 21 (aC 161 [(aT 19), (aT 20)]), aM 8 21] (.seq (.block 0 (aQ [aI 30 (aF 0 5), aI 31 (aL 30),
 aI 32 (aB .eql (aT 31) (aN 0)), aM 29 32] (.cond (aT 29) (.skip) (aQ [aM 34 7, aI 35 (aB .lss (aT 34) (aN 0)), aM 33 35]
 (.cond (aT 33) (aR [aM 36 8, aI 37 (aL 4), aI 38 (aK 6 5),
 aI 39 (.build [(.str []), (.int .i64 0), (.int .i64 0), (.int .i64 0), (.str []), (.lit (.slice none 0 0)), (.lit (.slice none 0 0))] [(0, 1, (aT 37)), (1, 6, (aT 38))]),
 aI 40 (.buildSlice false 106 7 1 [(.str []), (.int .i64 0), (.int .i64 0), (.int .i64 0), (.str []), (.lit (.slice none 0 0)), (.lit (.slice none 0 0))] [(0, (aT 39))]),
 aI 41 (.append 106 7 104 [(.str []), (.int .i64 0), (.int .i64 0), (.int .i64 0), (.str []), (.lit (.slice none 0 0)), (.lit (.slice none 0 0))] (aT 36) (aT 40)), aM 8 41])
 (aR [aM 22 8, aM 23 7, aI 24 (aL 4), aI 25 (aK 6 5),
 aI 26 (.build [(.str []), (.int .i64 0), (.int .i64 0), (.int .i64 0), (.str []), (.lit (.slice none 0 0)), (.lit (.slice none 0 0))] [(0, 1, (aT 24)), (1, 6, (aT 25))]),
 aI 27 (.buildSlice false 106 7 1 [(.str []), (.int .i64 0), (.int .i64 0), (.int .i64 0), (.str []), (.lit (.slice none 0 0)), (.lit (.slice none 0 0))] [(0, (aT 26))]),
 aI 28 (aC 164 [(aT 22), (aT 23), (aT 27)]), aM 8 28])))))) (aQ [aM 42 8, aI 43 (aF 5 3),
 aJ (.store 1 (aT 43) (aT 42))] (aQ [aI 44 (aK 6 3), aJ (.store 6 (aT 6) (aT 44))] (.ret)))))))⟩
def ac109 : AF := ⟨9, [.tmp 2], aQ [aI 2 (.move (.av (.bool false)))] (aQ [aM 3 0, aI 4 (aB .geq (aT 3) (aN (-2147483648))), aM 5 4,
 aG 6 5 true (aV 0), aG 7 5 true (aB .leq (aT 6) (aN 2147483648)), aI 8 (.pick (aT 5) (aT 7) (.av (.bool false))), aM 2 8] (.ret))⟩
def ac115 : AF := ⟨27, [.cell 2 (some 6), .tmp 3], aQ [aI 2 (.alloc 138 [(.int .i64 0), (.int .i64 0), (.str []), (.bool false), (.int .i64 0), (.int .i64 0)]),
 aI 3 (.move (aN 0))] (.seq (.region [aM 7 0, aI 8 (.nilCheck (aT 7)), aI 9 (aF 0 8), aI 10 (aL 9), aM 11 0, aI 12 (.nilCheck (aT 11)),
 aI 13 (aF 1 12), aI 14 (aL 13), ⟨(some 15), .call (.av (.fn (.func 85) [] [])) [(aT 10), (aT 14)], none, true⟩, aM 6 15, aI 16 (aE 6 0),
 aI 17 (aE 6 1), aI 4 (.alloc 138 [(.int .i64 0), (.int .i64 0), (.str []), (.bool false), (.int .i64 0), (.int .i64 0)]), aJ (.store 6 (aT 4) (aT 16)), aM 5 17] true)
 (.seq (aQ [aM 18 5, aI 19 (aB .eql (aT 18) (aN 0))] (.cond (aT 19) (aR [aM 20 0, aI 21 (aF 5 4), aI 22 (aL 21),
 aI 23 (.nilCheck (aT 20)), aI 24 (aF 1 23), aJ (.store 1 (aT 24) (aT 22))]) (.skip))) (aQ [aI 25 (aK 6 4), aM 26 5,
 aJ (.store 6 (aT 2) (aT 25)), aM 3 26] (.ret))))⟩
def ac116 : AF := ⟨50, [.cell 4 (some 6), .tmp 5], aQ [aI 3 (.box 138 (aT 1)),
 aI 4 (.alloc 26 [(.int .i64 0), (.int .i64 0), (.int .i64 0), (.str []), (.lit (.slice none 0 0)), (.lit (.slice none 0 0))]), aI 5 (.move (aN 0))]
 (.seq (aQ [aI 6 (aF 0 3), aI 7 (aL 6)] (.block 0 (aQ [aI 9 (aB .eql (aT 7) (aN 0)), aM 8 9]
 (.cond (aT 8) (aQ [aI 10 (.build [(.int .i64 0), (.int .i64 0), (.int .i64 0), (.str []), (.lit (.slice none 0 0)), (.lit (.slice none 0 0))] []),
 aJ (.store 6 (aT 4) (aT 10)), aI 5 (.move (aN 4))] (.ret)) (aQ [aI 12 (aB .eql (aT 7) (aN 1)), aM 11 12] (.cond (aT 11)
 (aQ [aM 13 0, aI 14 (aK 6 3), aI 15 (aC 169 [(aT 13), (aT 14)]), aJ (.store 6 (aT 4) (aT 15)), aI 5 (.move (aN 0))]
 (.ret)) (aQ [aI 17 (aB .eql (aT 7) (aN 2)), aM 16 17] (.cond (aT 16) (aQ [aI 18 (aF 2 3), aI 19 (aL 18),
 aI 20 (aC 170 [(aT 19)]), aJ (.store 6 (aT 4) (aT 20)), aI 5 (.move (aN 0))] (.ret))
 (aQ [aI 22 (aB .eql (aT 7) (aN 3)), aM 21 22] (.cond (aT 21) (aQ [aI 23 (aF 2 3), aI 24 (aL 23),
 aI 25 (.build [(.int .i64 0), (.int .i64 0), (.int .i64 0), (.str []), (.lit (.slice none 0 0)), (.lit (.slice none 0 0))] [(0, 1, (aN 4)), (3, 1, (aT 24))]),
 aJ (.store 6 (aT 4) (aT 25)), aI 5 (.move (aN 0))] (.ret)) (aQ [aI 27 (aB .eql (aT 7) (aN 4)), aM 26 27] (.cond (aT 26)
 (aQ [aM 28 0, aM 29 0, aI 30 (.mkFunc (.func 172) [(aT 29)] []), aI 31 (aC 171 [(aT 28), (aT 30)]), aI 32 (aE 31 0),
 aI 33 (aE 31 1), aJ (.store 6 (aT 4) (aT 32)), aM 5 33] (.ret)) (aQ [aI 35 (aB .eql (aT 7) (aN 6)), aM 34 35] (.cond (aT 34)
 (aQ [aM 36 0, aM 37 0, aI 38 (.mkFunc (.func 173) [(aT 37)] []), aI 39 (aC 171 [(aT 36), (aT 38)]), aI 40 (aE 39 0),
 aI 41 (aE 39 1), aJ (.store 6 (aT 4) (aT 40)), aM 5 41] (.ret)) (aQ [aI 43 (aB .eql (aT 7) (aN 8)), aM 42 43] (.cond (aT 42)
 (aQ [aI 44 (aF 2 3), aI 45 (aL 44), aI 46 (aC 174 [(aT 45)]), aI 47 (aE 46 0),
 aI 48 (aE 46 1), aJ (.store 6 (aT 4) (aT 47)), aM 5 48] (.ret)) (.skip)))))))))))))))))
 (aQ [aI 49 (.build [(.int .i64 0), (.int .i64 0), (.int .i64 0), (.str []), (.lit (.slice none 0 0)), (.lit (.slice none 0 0))] []), aJ (.store 6 (aT 4) (aT 49)),
 aI 5 (.move (aN 3))] (.ret)))⟩
def ac117 : AF := ⟨18, [.tmp 2], aQ [aI 2 (.move (.av (.bool false)))] (.seq (aQ [aM 5 0, aI 6 (.len (.slice 1) (aT 5)), aI 7 (.move (aN 0))]
 (.block 0 (.loop (aQ [aI 8 (aB .lss (aT 7) (aT 6))] (.seq (.cond (aT 8) (.skip) (.exit 0)) (.seq (.block 1
 (aQ [aI 9 (.indexAddr none 1 (aT 5) (aT 7)), aI 10 (aL 9), aM 4 10] (aQ [aM 11 4,
 aI 12 (aB .lss (aT 11) (aN (-2147483648))), aM 13 12, aG 14 13 false (aV 4), aG 15 13 false (aB .gtr (aT 14) (aN 2147483648)),
 aI 16 (.pick (aT 13) (.av (.bool true)) (aT 15))] (.cond (aT 16) (aQ [aI 2 (.move (.av (.bool false)))] (.ret)) (.skip)))))
 (aR [aI 17 (aB .add (aT 7) (aN 1)), aM 7 17]))))))) (aQ [aI 2 (.move (.av (.bool true)))] (.ret)))⟩
def ac122 : AF := ⟨36, [.tmp 2], aQ [aI 2 (.move (.av (.bool false)))] (.seq (aQ [aM 4 0, aI 5 (.bin .eql .other false (aT 4) (.av (.str []))), aM 6 5,
 aG 7 6 false (aV 0), aG 8 6 false (.bin .eql .other false (aT 7) (.av (.str [66, 73]))), aI 9 (.pick (aT 6) (.av (.bool true)) (aT 8)), aM 10 9,
 aG 11 10 false (aV 0), aG 12 10 false (aC 138 [(aT 11)]), aI 13 (.pick (aT 10) (.av (.bool true)) (aT 12)), aM 14 13,
 aG 15 14 false (aV 0), aG 16 14 false (.indexStr (aT 15) (aN 0)),
 aG 17 14 false (aC 151 [(.av (.str [43, 45, 46, 48, 49, 50, 51, 52, 53, 54, 55, 56, 57])), (aT 16)]),
 aG 18 14 false (aB .geq (aT 17) (aN 0)), aI 19 (.pick (aT 14) (.av (.bool true)) (aT 18))] (.cond (aT 19)
 (aQ [aI 2 (.move (.av (.bool false)))] (.ret)) (.skip))) (.seq (aQ [aM 20 0, aI 21 (.len .str (aT 20)), aI 22 (.move (aN 0))] (.block 0 (.loop
 (aQ [aI 23 (aB .lss (aT 22) (aT 21))] (.seq (.cond (aT 23) (.skip) (.exit 0)) (.seq (.block 1 (aQ [aM 24 22, aM 3 24]
 (aQ [aM 25 0, aM 26 3, aI 27 (.indexStr (aT 25) (aT 26)), aI 28 (aC 178 [(aT 27)]), aM 29 28, aG 30 29 false (aV 0),
 aG 31 29 false (aV 3), aG 32 29 false (.indexStr (aT 30) (aT 31)), aG 33 29 false (aC 179 [(aT 32)]),
 aI 34 (.pick (aT 29) (.av (.bool true)) (aT 33))] (.cond (aT 34) (aQ [aI 2 (.move (.av (.bool false)))] (.ret)) (.skip)))))
 (aR [aI 35 (aB .add (aT 22) (aN 1)), aM 22 35]))))))) (aQ [aI 2 (.move (.av (.bool true)))] (.ret))))⟩
def ac136 : AF := ⟨27, [.tmp 4], aQ [aI 4 (.move (aN 0))] (aQ [aM 5 1, aI 6 (.minmax true [(aT 5), (aN 0)]), aM 7 0, aI 8 (.len .str (aT 7)),
 aI 9 (.minmax false [(aT 6), (aT 8)]), aM 1 9] (.block 0 (.loop (.block 1 (aQ [aM 10 0, aM 11 1,
 aI 12 (aC 200 [(aT 10), (aT 11), (.av (.fn (.func 178) [] []))]), aM 1 12] (.seq (aQ [aM 13 1, aM 14 0, aI 15 (.len .str (aT 14)),
 aI 16 (aB .eql (aT 13) (aT 15)), aM 17 16, aG 18 17 false (aV 0), aG 19 17 false (aV 1), aG 20 17 false (.indexStr (aT 18) (aT 19)),
 aG 21 17 false (.bin .neq .other false (aT 20) (.av (.int .u8 37))), aI 22 (.pick (aT 17) (.av (.bool true)) (aT 21))] (.cond (aT 22) (aQ [aM 23 1,
 aM 4 23] (.ret)) (.skip))) (aR [aM 24 0, aM 25 1, aI 26 (aC 200 [(aT 24), (aT 25), (.av (.fn (.func 201) [] []))]),
 aM 1 26])))))))⟩
def ac137 : AF := ⟨71, [.cell 4 (some 6), .tmp 5], aQ [aI 3 (.box 138 (aT 1)),
 aI 4 (.alloc 138 [(.int .i64 0), (.int .i64 0), (.str []), (.bool false), (.int .i64 0), (.int .i64 0)]), aI 5 (.move (aN 0))] (aQ [aM 10 0,
 aI 11 (aF 4 3), aI 12 (aL 11), aI 13 (.slice .str (aT 10) (some (aT 12)) none), aM 6 13]
 (.seq (aQ [aI 14 (.build (List.replicate 8 (.str [])) [(4, 1, (.av (.str [91]))), (5, 1, (.av (.str [93]))), (6, 1, (.av (.str [60, 60]))), (7, 1, (.av (.str [62, 62])))]),
 aI 15 (.move (aN 0))] (.block 0 (.loop (aQ [aI 16 (aB .lss (aT 15) (aN 8))] (.seq (.cond (aT 16) (.skip) (.exit 0)) (.seq (.block 1
 (aQ [aM 17 15, aI 18 (.indexArr 8 1 false (aT 14) (aT 15)), aM 7 17, aM 8 18] (aQ [aM 19 8, aI 20 (.bin .neq .other false (aT 19) (.av (.str []))),
 aM 21 20, aG 22 21 true (aV 6), aG 23 21 true (aV 8), aG 24 21 true (aC 185 [(aT 22), (aT 23)]),
 aI 25 (.pick (aT 21) (aT 24) (.av (.bool false)))] (.cond (aT 25) (aQ [aM 26 7, aI 27 (aF 4 3), aI 28 (aL 27), aM 29 8,
 aI 30 (.len .str (aT 29)), aI 31 (aB .add (aT 28) (aT 30)), aI 32 (aF 0 3), aJ (.store 1 (aT 32) (aT 26)), aI 33 (aF 5 3),
 aJ (.store 1 (aT 33) (aT 31))] (aQ [aI 34 (aK 6 3), aJ (.store 6 (aT 4) (aT 34)), aI 5 (.move (aN 0))] (.ret))) (.skip)))))
 (aR [aI 35 (aB .add (aT 15) (aN 1)), aM 15 35]))))))) (.seq (aQ [aM 36 6, aI 37 (.indexStr (aT 36) (aN 0)), aM 9 37] (.block 2
 (aQ [aM 39 9, aI 40 (.bin .eql .other false (aT 39) (.av (.int .u8 47))), aM 38 40] (.cond (aT 38) (aQ [aM 41 0, aI 42 (aK 6 3),
 aI 43 (aC 202 [(aT 41), (aT 42)]), aI 44 (aE 43 0), aI 45 (aE 43 1), aJ (.store 6 (aT 4) (aT 44)), aM 5 45] (.ret))
 (aQ [aM 47 9, aI 48 (.bin .eql .other false (aT 47) (.av (.int .u8 40))), aM 46 48] (.cond (aT 46) (aQ [aM 49 0, aI 50 (aK 6 3),
 aI 51 (aC 203 [(aT 49), (aT 50)]), aI 52 (aE 51 0), aI 53 (aE 51 1), aJ (.store 6 (aT 4) (aT 52)), aM 5 53] (.ret))
 (aQ [aM 55 9, aI 56 (.bin .eql .other false (aT 55) (.av (.int .u8 60))), aM 54 56] (.cond (aT 54) (aQ [aM 57 0, aI 58 (aK 6 3),
 aI 59 (aC 204 [(aT 57), (aT 58)]), aI 60 (aE 59 0), aI 61 (aE 59 1), aJ (.store 6 (aT 4) (aT 60)), aM 5 61] (.ret))
 (aQ [aM 63 9, aI 64 (aC 179 [(aT 63)]), aM 62 64] (.cond (aT 62)
 (aQ [aI 65 (.build [(.int .i64 0), (.int .i64 0), (.str []), (.bool false), (.int .i64 0), (.int .i64 0)] []), aJ (.store 6 (aT 4) (aT 65)),
 aI 5 (.move (aN 3))] (.ret)) (.skip))))))))))) (aQ [aM 66 0, aI 67 (aK 6 3), aI 68 (aC 205 [(aT 66), (aT 67)]),
 aI 69 (aE 68 0), aI 70 (aE 68 1), aJ (.store 6 (aT 4) (aT 69)), aM 5 70] (.ret)))))⟩
def ac138 : AF := ⟨13, [.tmp 2], aQ [aI 2 (.move (.av (.bool false)))] (aQ [aM 3 0,
 aI 4 (.bin .eql .other false (aT 3) (.av (.str [116, 114, 117, 101]))), aM 5 4, aG 6 5 false (aV 0),
 aG 7 5 false (.bin .eql .other false (aT 6) (.av (.str [102, 97, 108, 115, 101]))), aI 8 (.pick (aT 5) (.av (.bool true)) (aT 7)), aM 9 8, aG 10 9 false (aV 0),
 aG 11 9 false (.bin .eql .other false (aT 10) (.av (.str [110, 117, 108, 108]))), aI 12 (.pick (aT 9) (.av (.bool true)) (aT 11)), aM 2 12] (.ret))⟩
def ac139 : AF := ⟨44, [.tmp 4], aQ [aI 4 (.move (aN 0))] (aQ [aM 5 1, aI 6 (.minmax true [(aT 5), (aN 0)]), aM 7 0, aI 8 (.len .str (aT 7)),
 aI 9 (.minmax false [(aT 6), (aT 8)]), aM 1 9] (.seq (.block 0 (.loop (.seq (aQ [aM 10 1, aM 11 0, aI 12 (.len .str (aT 11)),
 aI 13 (aB .lss (aT 10) (aT 12))] (.cond (aT 13) (.skip) (.exit 0))) (.block 1 (.seq (aQ [aM 14 0, aM 15 1, aI 16 (.indexStr (aT 14) (aT 15)),
 aI 17 (aC 206 [(aT 16)])] (.cond (aT 17) (aQ [aM 18 1, aI 19 (aB .add (aT 18) (aN 1)), aM 1 19] (.exit 1))
 (.skip))) (.seq (aQ [aM 20 0, aM 21 1, aI 22 (.indexStr (aT 20) (aT 21)), aI 23 (.bin .neq .other false (aT 22) (.av (.int .u8 37)))] (.cond (aT 23)
 (aQ [aM 24 1, aM 4 24] (.ret)) (.skip))) (.block 2 (.loop (.seq (aQ [aM 25 1, aM 26 0, aI 27 (.len .str (aT 26)),
 aI 28 (aB .lss (aT 25) (aT 27)), aM 29 28, aG 30 29 true (aV 0), aG 31 29 true (aV 1), aG 32 29 true (.indexStr (aT 30) (aT 31)),
 aG 33 29 true (.bin .neq .other false (aT 32) (.av (.int .u8 10))), aI 34 (.pick (aT 29) (aT 33) (.av (.bool false))), aM 35 34, aG 36 35 true (aV 0),
 aG 37 35 true (aV 1), aG 38 35 true (.indexStr (aT 36) (aT 37)), aG 39 35 true (.bin .neq .other false (aT 38) (.av (.int .u8 13))),
 aI 40 (.pick (aT 35) (aT 39) (.av (.bool false)))] (.cond (aT 40) (.skip) (.exit 2))) (.block 3 (aR [aM 41 1, aI 42 (aB .add (aT 41) (aN 1)),
 aM 1 42]))))))))))) (aQ [aM 43 1, aM 4 43] (.ret))))⟩
def ac140 : AF := ⟨20, [.tmp 4], aQ [aI 4 (.move (.av (.bool false)))] (.seq (.region [aM 5 1, aI 6 (aB .add (aT 5) (aN 1)), aM 7 0,
 aI 8 (.len .str (aT 7)), aI 9 (aB .lss (aT 6) (aT 8)), aM 10 9, aG 11 10 true (aV 0), aG 12 10 true (aV 1),
 aG 13 10 true (.indexStr (aT 11) (aT 12)), aG 14 10 true (aV 0), aG 15 10 true (aV 1), aG 16 10 true (aB .add (aT 15) (aN 1)),
 aG 17 10 true (.indexStr (aT 14) (aT 16)), aG 18 10 true (.bin .eql .other false (aT 13) (aT 17)), aI 19 (.pick (aT 10) (aT 18) (.av (.bool false))), aM 4 19] true) (.ret))⟩
def ac141 : AF := ⟨70, [.tmp 4, .tmp 5, .tmp 6], aQ [aI 4 (.move (.av (.str []))), aI 5 (.move (aN 0)), aI 6 (.move (aN 0))] (aQ [aM 10 0, aM 11 1,
 aI 12 (aC 207 [(aT 10), (aT 11)]), aM 7 12] (aQ [aI 8 (.move (.av (.lit (.slice none 0 0))))] (.seq (aQ [aM 13 1,
 aM 9 13] (.block 0 (.loop (.seq (aQ [aM 14 9, aM 15 7, aI 16 (aB .lss (aT 14) (aT 15))] (.cond (aT 16) (.skip) (.exit 0))) (.seq (.block 1
 (.seq (aQ [aM 19 0, aM 20 9, aI 21 (.indexStr (aT 19) (aT 20)), aI 22 (.bin .neq .other false (aT 21) (.av (.int .u8 35)))] (.cond (aT 22)
 (aQ [aM 23 8, aM 24 0, aM 25 9, aI 26 (.indexStr (aT 24) (aT 25)), aI 27 (.buildSlice false 5 1 1 [(.int .u8 0)] [(0, (aT 26))]),
 aI 28 (.append 5 1 1 [(.int .u8 0)] (aT 23) (aT 27)), aM 8 28] (.exit 1)) (.skip))) (.seq (aQ [aM 29 9, aI 30 (aB .add (aT 29) (aN 2)), aM 31 7,
 aI 32 (aB .geq (aT 30) (aT 31)), aM 33 32, aG 34 33 false (aV 0), aG 35 33 false (aV 9), aG 36 33 false (aB .add (aT 35) (aN 1)),
 aG 37 33 false (.indexStr (aT 34) (aT 36)), aG 38 33 false (aC 208 [(aT 37)]), aG 39 33 false (aB .lss (aT 38) (aN 0)),
 aI 40 (.pick (aT 33) (.av (.bool true)) (aT 39)), aM 41 40, aG 42 41 false (aV 0), aG 43 41 false (aV 9), aG 44 41 false (aB .add (aT 43) (aN 2)),
 aG 45 41 false (.indexStr (aT 42) (aT 44)), aG 46 41 false (aC 208 [(aT 45)]), aG 47 41 false (aB .lss (aT 46) (aN 0)),
 aI 48 (.pick (aT 41) (.av (.bool true)) (aT 47))] (.cond (aT 48) (aQ [aI 4 (.move (.av (.str []))), aI 5 (.move (aN 0)), aI 6 (.move (aN 3))] (.ret))
 (.skip))) (.seq (.region [aM 49 8, aM 50 0, aM 51 9, aI 52 (aB .add (aT 51) (aN 1)), aI 53 (.indexStr (aT 50) (aT 52)),
 aI 54 (aC 208 [(aT 53)]), aI 55 (aB .mul (aN 16) (aT 54)), aM 56 0, aM 57 9, aI 58 (aB .add (aT 57) (aN 2)),
 aI 59 (.indexStr (aT 56) (aT 58)), aI 60 (aC 208 [(aT 59)]), aI 61 (aB .add (aT 55) (aT 60)), aI 62 (.conv (.int .u8) (aT 61)),
 aI 63 (.buildSlice false 5 1 1 [(.int .u8 0)] [(0, (aT 62))]), aI 64 (.append 5 1 1 [(.int .u8 0)] (aT 49) (aT 63)), aM 8 64] true) (aR [aM 65 9,
 aI 66 (aB .add (aT 65) (aN 2)), aM 9 66]))))) (aR [aM 17 9, aI 18 (aB .add (aT 17) (aN 1)), aM 9 18])))))) (aQ [aM 67 8,
 aI 68 (.conv .ofBytes (aT 67)), aM 69 7, aM 4 68, aM 5 69, aI 6 (.move (aN 0))] (.ret)))))⟩
def ac142 : AF := ⟨85, [.tmp 4, .tmp 5, .tmp 6], aQ [aI 4 (.move (.av (.str []))), aI 5 (.move (aN 0)), aI 6 (.move (aN 0))]
 (aQ [aI 7 (.move (.av (.lit (.slice none 0 0))))] (aQ [aI 8 (.move (aN 0))] (.seq (.block 0 (.loop (.seq (aQ [aM 12 1, aM 13 0,
 aI 14 (.len .str (aT 13)), aI 15 (aB .lss (aT 12) (aT 14))] (.cond (aT 15) (.skip) (.exit 0))) (.block 1 (aQ [aM 16 0, aM 17 1,
 aI 18 (.indexStr (aT 16) (aT 17)), aM 9 18] (aQ [aM 19 1, aI 20 (aB .add (aT 19) (aN 1)), aM 1 20] (.seq (.block 2 (aQ [aM 22 9,
 aI 23 (.bin .eql .other false (aT 22) (.av (.int .u8 92))), aM 24 23, aG 25 24 true (aV 1), aG 26 24 true (aV 0), aG 27 24 true (.len .str (aT 26)),
 aG 28 24 true (aB .lss (aT 25) (aT 27)), aI 29 (.pick (aT 24) (aT 28) (.av (.bool false))), aM 21 29] (.cond (aT 21) (aQ [aM 31 0, aM 32 1,
 aI 33 (.slice .str (aT 31) (some (aT 32)) none), aI 34 (aC 209 [(aT 33)]), aM 30 34, aI 35 (aE 30 0), aI 36 (aE 30 1),
 aM 10 35, aM 11 36] (aQ [aM 37 7, aM 38 10, aI 39 (.append 5 1 1 [(.int .u8 0)] (aT 37) (aT 38)), aM 7 39] (aQ [aM 40 1, aM 41 11,
 aI 42 (aB .add (aT 40) (aT 41)), aM 1 42] (.exit 1)))) (aQ [aM 44 9, aI 45 (.bin .eql .other false (aT 44) (.av (.int .u8 92))), aM 43 45]
 (.cond (aT 43) (aQ [aI 4 (.move (.av (.str []))), aI 5 (.move (aN 0)), aI 6 (.move (aN 4))] (.ret)) (aQ [aM 47 9,
 aI 48 (.bin .eql .other false (aT 47) (.av (.int .u8 40))), aM 46 48] (.cond (aT 46) (aR [aM 49 8, aI 50 (aB .add (aT 49) (aN 1)), aM 8 50])
 (aQ [aM 52 9, aI 53 (.bin .eql .other false (aT 52) (.av (.int .u8 41))), aM 54 53, aG 55 54 true (aV 8), aG 56 54 true (aB .eql (aT 55) (aN 0)),
 aI 57 (.pick (aT 54) (aT 56) (.av (.bool false))), aM 51 57] (.cond (aT 51) (aQ [aM 58 7, aI 59 (.conv .ofBytes (aT 58)), aM 60 1, aM 4 59, aM 5 60,
 aI 6 (.move (aN 0))] (.ret)) (aQ [aM 62 9, aI 63 (.bin .eql .other false (aT 62) (.av (.int .u8 41))), aM 61 63] (.cond (aT 61) (aR [aM 64 8,
 aI 65 (aB .sub (aT 64) (aN 1)), aM 8 65]) (aQ [aM 67 9, aI 68 (.bin .eql .other false (aT 67) (.av (.int .u8 13))), aM 66 68] (.cond (aT 66)
 (.seq (aQ [aM 69 1, aM 70 0, aI 71 (.len .str (aT 70)), aI 72 (aB .lss (aT 69) (aT 71)), aM 73 72, aG 74 73 true (aV 0),
 aG 75 73 true (aV 1), aG 76 73 true (.indexStr (aT 74) (aT 75)), aG 77 73 true (.bin .eql .other false (aT 76) (.av (.int .u8 10))),
 aI 78 (.pick (aT 73) (aT 77) (.av (.bool false)))] (.cond (aT 78) (aR [aM 79 1, aI 80 (aB .add (aT 79) (aN 1)), aM 1 80]) (.skip)))
 (aR [aI 9 (.move (.av (.int .u8 10)))])) (.skip)))))))))))))) (aR [aM 81 7, aM 82 9, aI 83 (.buildSlice false 5 1 1 [(.int .u8 0)] [(0, (aT 82))]),
 aI 84 (.append 5 1 1 [(.int .u8 0)] (aT 81) (aT 83)), aM 7 84])))))))) (aQ [aI 4 (.move (.av (.str []))), aI 5 (.move (aN 0)), aI 6 (.move (aN 4))]
 (.ret)))))⟩
def ac143 : AF := ⟨68, [.tmp 4, .tmp 5, .tmp 6], aQ [aI 4 (.move (.av (.str []))), aI 5 (.move (aN 0)), aI 6 (.move (aN 0))]
 (aQ [aI 7 (.move (.av (.lit (.slice none 0 0))))] (.seq (.block 0 (.loop (.seq (aQ [aM 10 1, aM 11 0, aI 12 (.len .str (aT 11)),
 aI 13 (aB .lss (aT 10) (aT 12))] (.cond (aT 13) (.skip) (.exit 0))) (.seq (.block 1 (.seq (aQ [aM 16 0, aM 17 1,
 aI 18 (.indexStr (aT 16) (aT 17)), aI 19 (aC 206 [(aT 18)])] (.cond (aT 19) (.exit 1) (.skip))) (.seq (aQ [aM 20 0, aM 21 1,
 aI 22 (.indexStr (aT 20) (aT 21)), aI 23 (.bin .eql .other false (aT 22) (.av (.int .u8 62)))] (.cond (aT 23) (.seq (aQ [aM 24 7,
 aI 25 (.len (.slice 1) (aT 24)), aI 26 (aB .rem (aT 25) (aN 2)), aI 27 (aB .eql (aT 26) (aN 1))] (.cond (aT 27) (aR [aM 28 7,
 aI 29 (.buildSlice false 3 1 1 [(.int .i64 0)] [(0, (aN 0))]), aI 30 (.append 3 1 8 [(.int .i64 0)] (aT 28) (aT 29)), aM 7 30]) (.skip)))
 (aQ [aI 8 (.move (.av (.lit (.slice none 0 0))))] (.seq (aQ [aI 9 (.move (aN 0))] (.block 2 (.loop (.seq (aQ [aM 31 9, aM 32 7,
 aI 33 (.len (.slice 1) (aT 32)), aI 34 (aB .lss (aT 31) (aT 33))] (.cond (aT 34) (.skip) (.exit 2))) (.seq (.block 3 (.region [aM 37 8, aM 38 7, aM 39 9,
 aI 40 (.indexAddr none 1 (aT 38) (aT 39)), aI 41 (aL 40), aI 42 (aB .mul (aN 16) (aT 41)), aM 43 7, aM 44 9,
 aI 45 (aB .add (aT 44) (aN 1)), aI 46 (.indexAddr none 1 (aT 43) (aT 45)), aI 47 (aL 46), aI 48 (aB .add (aT 42) (aT 47)),
 aI 49 (.conv (.int .u8) (aT 48)), aI 50 (.buildSlice false 5 1 1 [(.int .u8 0)] [(0, (aT 49))]), aI 51 (.append 5 1 1 [(.int .u8 0)] (aT 37) (aT 50)), aM 8 51] true))
 (aR [aM 35 9, aI 36 (aB .add (aT 35) (aN 2)), aM 9 36])))))) (aQ [aM 52 8, aI 53 (.conv .ofBytes (aT 52)), aM 54 1,
 aI 55 (aB .add (aT 54) (aN 1)), aM 4 53, aM 5 55, aI 6 (.move (aN 0))] (.ret))))) (.skip))) (.seq (aQ [aM 56 0, aM 57 1,
 aI 58 (.indexStr (aT 56) (aT 57)), aI 59 (aC 208 [(aT 58)]), aI 60 (aB .lss (aT 59) (aN 0))] (.cond (aT 60)
 (aQ [aI 4 (.move (.av (.str []))), aI 5 (.move (aN 0)), aI 6 (.move (aN 3))] (.ret)) (.skip))) (aR [aM 61 7, aM 62 0, aM 63 1,
 aI 64 (.indexStr (aT 62) (aT 63)), aI 65 (aC 208 [(aT 64)]), aI 66 (.buildSlice false 3 1 1 [(.int .i64 0)] [(0, (aT 65))]),
 aI 67 (.append 3 1 8 [(.int .i64 0)] (aT 61) (aT 66)), aM 7 67]))))) (aR [aM 14 1, aI 15 (aB .add (aT 14) (aN 1)), aM 1 15])))))
 (aQ [aI 4 (.move (.av (.str []))), aI 5 (.move (aN 0)), aI 6 (.move (aN 4))] (.ret))))⟩
def ac144 : AF := ⟨16, [.tmp 2], aQ [aI 2 (.move (.av (.bool false)))] (aQ [aI 3 (.move (.av (.str [40, 41, 60, 62, 91, 93, 123, 125, 47, 37])))]
 (.seq (aQ [aI 4 (.move (aN 0))] (.block 0 (.loop (.seq (aQ [aM 5 4, aM 6 3, aI 7 (.len .str (aT 6)),
 aI 8 (aB .lss (aT 5) (aT 7))] (.cond (aT 8) (.skip) (.exit 0))) (.seq (.block 1 (aQ [aM 11 3, aM 12 4, aI 13 (.indexStr (aT 11) (aT 12)), aM 14 0,
 aI 15 (.bin .eql .other false (aT 13) (aT 14))] (.cond (aT 15) (aQ [aI 2 (.move (.av (.bool true)))] (.ret)) (.skip)))) (aR [aM 9 4,
 aI 10 (aB .add (aT 9) (aN 1)), aM 4 10])))))) (aQ [aI 2 (.move (.av (.bool false)))] (.ret))))⟩
def ac145 : AF := ⟨77, [.cell 4 (some 6), .tmp 5], aQ [aI 4 (.alloc 143 [(.int .i64 0), (.int .i64 0), (.str []), (.bool false), (.int .i64 0), (.int .i64 0)]),
 aI 5 (.move (aN 0))] (aQ [aM 11 1, aM 12 0, aM 13 1, aI 14 (aC 207 [(aT 12), (aT 13)]),
 aI 15 (.build [(.int .i64 0), (.int .i64 0), (.str []), (.bool false), (.int .i64 0), (.int .i64 0)] [(0, 1, (aN 8)), (4, 1, (aT 11)), (5, 1, (aT 14))]),
 aI 6 (.alloc 143 [(.int .i64 0), (.int .i64 0), (.str []), (.bool false), (.int .i64 0), (.int .i64 0)]), aJ (.store 6 (aT 6) (aT 15))] (aQ [aM 16 0, aM 17 1,
 aI 18 (aF 5 6), aI 19 (aL 18), aI 20 (.slice .str (aT 16) (some (aT 17)) (some (aT 19))), aI 21 (aF 2 6),
 aJ (.store 1 (aT 21) (aT 20))] (aQ [aM 22 0, aM 23 1, aI 24 (.indexStr (aT 22) (aT 23)), aM 7 24] (.seq (aQ [aM 25 7,
 aI 26 (.bin .neq .other false (aT 25) (.av (.int .u8 43))), aM 27 26, aG 28 27 true (aV 7), aG 29 27 true (.bin .neq .other false (aT 28) (.av (.int .u8 45))),
 aI 30 (.pick (aT 27) (aT 29) (.av (.bool false))), aM 31 30, aG 32 31 true (aV 7), aG 33 31 true (.bin .neq .other false (aT 32) (.av (.int .u8 46))),
 aI 34 (.pick (aT 31) (aT 33) (.av (.bool false))), aM 35 34, aG 36 35 true (aV 7), aG 37 35 true (.bin .lss .other false (aT 36) (.av (.int .u8 48))),
 aG 38 35 true (aV 37), aG 39 38 false (aV 7), aG 40 38 false (.bin .gtr .other false (aT 39) (.av (.int .u8 57))),
 aG 41 35 true (.pick (aT 38) (.av (.bool true)) (aT 40)), aI 42 (.pick (aT 35) (aT 41) (.av (.bool false)))] (.cond (aT 42) (aQ [aI 43 (aK 6 6),
 aJ (.store 6 (aT 4) (aT 43)), aI 5 (.move (aN 0))] (.ret)) (.skip))) (aQ [aI 44 (aF 0 6), aJ (.store 1 (aT 44) (aN 1))]
 (aQ [aI 45 (aF 3 6), aJ (.store 1 (aT 45) (.av (.bool true)))] (.seq (aQ [aI 8 (.move (aN 0))] (.block 0 (.loop
 (.seq (aQ [aM 46 8, aI 47 (aF 2 6), aI 48 (aL 47), aI 49 (.len .str (aT 48)), aI 50 (aB .lss (aT 46) (aT 49))]
 (.cond (aT 50) (.skip) (.exit 0))) (.seq (.block 1 (aR [aI 53 (aF 3 6), aI 54 (aL 53), aM 55 54, aG 56 55 true (aF 2 6),
 aG 57 55 true (aL 56), aG 58 55 true (aV 8), aG 59 55 true (.indexStr (aT 57) (aT 58)), aG 60 55 true (.bin .neq .other false (aT 59) (.av (.int .u8 46))),
 aI 61 (.pick (aT 55) (aT 60) (.av (.bool false))), aI 62 (aF 3 6), aJ (.store 1 (aT 62) (aT 61))])) (aR [aM 51 8,
 aI 52 (aB .add (aT 51) (aN 1)), aM 8 52])))))) (aQ [aI 64 (aF 2 6), aI 65 (aL 64),
 aI 66 (aC 210 [(aT 65)]), aM 63 66, aI 67 (aE 63 0), aI 68 (aE 63 1), aM 9 67, aM 10 68] (.seq (aQ [aM 69 10,
 aI 70 (aB .neq (aT 69) (aN 0))] (.cond (aT 70)
 (aQ [aI 71 (.build [(.int .i64 0), (.int .i64 0), (.str []), (.bool false), (.int .i64 0), (.int .i64 0)] []), aM 72 10, aJ (.store 6 (aT 4) (aT 71)), aM 5 72]
 (.ret)) (.skip))) (aQ [aM 73 9, aI 74 (aF 1 6), aJ (.store 1 (aT 74) (aT 73))] (aQ [aI 75 (aF 2 6),
 aJ (.store 1 (aT 75) (.av (.str [])))] (aQ [aI 76 (aK 6 6), aJ (.store 6 (aT 4) (aT 76)), aI 5 (.move (aN 0))] (.ret)))))))))))))⟩
def ac146 : AF := ⟨13, [.cell 4 (some 6), .tmp 5, .tmp 6],
 aQ [aI 4 (.alloc 26 [(.int .i64 0), (.int .i64 0), (.int .i64 0), (.str []), (.lit (.slice none 0 0)), (.lit (.slice none 0 0))]), aI 5 (.move (aN 0)),
 aI 6 (.move (aN 0))] (aQ [aM 7 0, aM 8 1, aI 9 (aC 211 [(aT 7), (aT 8), (aN 0)]), aI 10 (aE 9 0),
 aI 11 (aE 9 1), aI 12 (aE 9 2), aJ (.store 6 (aT 4) (aT 10)), aM 5 11, aM 6 12] (.ret))⟩
def ac147 : AF := ⟨30, [.tmp 4, .tmp 5], aQ [aI 4 (.move (.av (.int .u64 0))), aI 5 (.move (.av (.int .u64 0)))] (.seq (.cond (.av (.bool false))
 (aQ [aM 11 0, aI 12 (.conv (.int .u32) (aT 11)), aM 13 1, aI 14 (.conv (.int .u32) (aT 13)), aI 15 (aC 212 [(aT 12), (aT 14)]), aM 10 15,
 aI 16 (aE 10 0), aI 17 (aE 10 1), aM 6 16, aM 7 17] (aQ [aM 18 6, aI 19 (.conv (.int .u64) (aT 18)), aM 20 7,
 aI 21 (.conv (.int .u64) (aT 20)), aM 4 19, aM 5 21] (.ret))) (.skip)) (aQ [aM 23 0, aM 24 1, aI 25 (aC 213 [(aT 23), (aT 24)]),
 aM 22 25, aI 26 (aE 22 0), aI 27 (aE 22 1), aM 8 26, aM 9 27] (aQ [aM 28 8, aM 29 9, aM 4 28, aM 5 29] (.ret))))⟩
def ac148 : AF := ⟨27, [.tmp 4], aQ [aI 4 (.move (.av (.lit (.slice none 0 0))))] (.seq (aQ [aM 5 1, aI 6 (aB .lss (aT 5) (aN 0))]
 (.cond (aT 6) (aR [aI 7 (.mkIface 9 (.av (.str [99, 97, 110, 110, 111, 116, 32, 98, 101, 32, 110, 101, 103, 97, 116, 105, 118, 101]))), aJ (.xop .bad [])]) (.skip)))
 (.seq (aQ [aM 8 1, aM 9 0, aI 10 (.xop .cap [(aT 9)]), aM 11 0, aI 12 (.len (.slice 2) (aT 11)), aI 13 (aB .sub (aT 10) (aT 12)),
 aI 14 (aB .sub (aT 8) (aT 13)), aM 1 14] (aQ [aM 15 1, aI 16 (aB .gtr (aT 15) (aN 0))] (.cond (aT 16) (aR [aM 17 0,
 aM 18 0, aI 19 (.xop .cap [(aT 18)]), aI 20 (.slice (.slice 2) (aT 17) none (some (aT 19))), aM 21 1,
 aI 22 (.xop (.appendZ 47 2 40 [(.str []), (.lit (.slice none 0 0))]) [(aT 20), (aT 21)]), aM 23 0, aI 24 (.len (.slice 2) (aT 23)),
 aI 25 (.slice (.slice 2) (aT 22) none (some (aT 24))), aM 0 25]) (.skip)))) (aQ [aM 26 0, aM 4 26] (.ret))))⟩
def ac150 : AF := ⟨11, [.tmp 2], aQ [aI 2 (.move (.av (.bool false)))] (aQ [aM 3 0, aI 4 (aC 178 [(aT 3)]),
 aI 5 (.un .not false (aT 4)), aM 6 5, aG 7 6 true (aV 0), aG 8 6 true (aC 179 [(aT 7)]), aG 9 6 true (.un .not false (aT 8)),
 aI 10 (.pick (aT 6) (aT 9) (.av (.bool false))), aM 2 10] (.ret))⟩
def ac151 : AF := ⟨8, [.tmp 4], aQ [aI 4 (.move (aN 0))] (aQ [aM 5 0, aM 6 1, aI 7 (aC 214 [(aT 5), (aT 6)]),
 aM 4 7] (.ret))⟩
def ac152 : AF := ⟨11, [.tmp 4, .tmp 5], aQ [aI 4 (.move (.av (.str []))), aI 5 (.move (.av (.bool false)))] (aQ [aM 6 0, aM 7 1,
 aI 8 (aC 215 [(aT 6), (aT 7)]), aI 9 (aE 8 0), aI 10 (aE 8 1), aM 4 9, aM 5 10] (.ret))⟩
def ac153 : AF := ⟨8, [.tmp 4], aQ [aI 4 (.move (.av (.str [])))] (aQ [aM 5 0, aM 6 1, aI 7 (aC 216 [(aT 5), (aT 6)]),
 aM 4 7] (.ret))⟩
def ac154 : AF := ⟨37, [.tmp 4], aQ [aI 4 (.move (.av (.str [])))] (.seq (aQ [aM 7 0, aI 8 (.bin .eql .other false (aT 7) (.av (.str []))), aM 9 8,
 aG 10 9 false (aV 1), aG 11 9 false (.bin .eql .other false (aT 10) (.av (.str []))), aI 12 (.pick (aT 9) (.av (.bool true)) (aT 11))] (.cond (aT 12)
 (aQ [aM 13 0, aM 4 13] (.ret)) (.skip))) (.seq (aQ [aM 14 1, aI 15 (.len .str (aT 14)), aI 16 (aB .eql (aT 15) (aN 1)), aM 17 16,
 aG 18 17 true (aV 1), aG 19 17 true (.indexStr (aT 18) (aN 0)), aG 20 17 true (.bin .lss .other false (aT 19) (.av (.int .u8 128))),
 aI 21 (.pick (aT 17) (aT 20) (.av (.bool false)))] (.cond (aT 21) (aQ [aM 22 0, aM 23 1, aI 24 (.indexStr (aT 23) (aN 0)),
 aI 25 (aC 217 [(aT 22), (aT 24)]), aM 4 25] (.ret)) (.skip))) (.seq (aQ [aM 27 1,
 aI 28 (aC 218 [(aT 27)]), aM 26 28, aI 29 (aE 26 0), aI 30 (aE 26 1), aI 5 (.alloc 241 (List.replicate 256 (.bool false))),
 aJ (.store 256 (aT 5) (aT 29)), aM 6 30] (aQ [aM 31 6] (.cond (aT 31) (aQ [aM 32 0,
 aI 33 (aC 219 [(aT 32), (aT 5)]), aM 4 33] (.ret)) (.skip)))) (aQ [aM 34 0, aM 35 1,
 aI 36 (aC 220 [(aT 34), (aT 35)]), aM 4 36] (.ret)))))⟩
def ac156 : AF := ⟨11, [.tmp 2], aQ [aI 2 (.move (.av (.bool false)))] (aQ [aM 3 0, aI 4 (aC 206 [(aT 3)]),
 aI 5 (.un .not false (aT 4)), aM 6 5, aG 7 6 true (aV 0), aG 8 6 true (aC 144 [(aT 7)]), aG 9 6 true (.un .not false (aT 8)),
 aI 10 (.pick (aT 6) (aT 9) (.av (.bool false))), aM 2 10] (.ret))⟩
def ac159 : AF := ⟨11, [.tmp 2], aQ [aI 1 (.box 26 (aT 0)), aI 2 (.move (.av (.bool false)))] (aQ [aI 3 (aF 0 1), aI 4 (aL 3),
 aI 5 (aB .eql (aT 4) (aN 6)), aM 6 5, aG 7 6 false (aF 0 1), aG 8 6 false (aL 7), aG 9 6 false (aB .eql (aT 8) (aN 8)),
 aI 10 (.pick (aT 6) (.av (.bool true)) (aT 9)), aM 2 10] (.ret))⟩
def ac160 : AF := ⟨8, [.tmp 4], aQ [aI 3 (.box 9 (aT 1)), aI 4 (.move (aN 0))] (aQ [aM 5 0, aI 6 (.mkFunc (.func 226) [] [(aT 3)]),
 aI 7 (aC 225 [(aT 5), (aT 6)]), aM 4 7] (.ret))⟩
def ac161 : AF := ⟨42, [.tmp 4], aQ [aI 4 (.move (.av (.lit (.slice none 0 0))))] (aQ [aM 8 0, aM 9 1,
 aI 10 (aC 225 [(aT 8), (aT 9)]), aM 5 10] (.seq (aQ [aM 11 5, aI 12 (aB .eql (aT 11) (aN (-1)))]
 (.cond (aT 12) (aQ [aM 13 0, aM 4 13] (.ret)) (.skip))) (.seq (aQ [aM 14 5, aI 15 (aB .add (aT 14) (aN 1)), aM 6 15] (.block 0
 (.loop (.seq (aQ [aM 16 6, aM 17 0, aI 18 (.len (.slice 7) (aT 17)), aI 19 (aB .lss (aT 16) (aT 18))] (.cond (aT 19) (.skip) (.exit 0)))
 (.seq (.block 1 (aQ [aM 22 0, aM 23 6, aI 24 (.indexAddr none 7 (aT 22) (aT 23)), aI 25 (aK 7 24),
 aI 7 (.alloc 106 [(.str []), (.int .i64 0), (.int .i64 0), (.int .i64 0), (.str []), (.lit (.slice none 0 0)), (.lit (.slice none 0 0))]), aJ (.store 7 (aT 7) (aT 25))]
 (aQ [aM 26 1, aI 27 (aK 7 7), aI 28 (.call (aT 26) [(aT 27)]), aI 29 (.un .not false (aT 28))] (.cond (aT 29) (aQ [aM 30 0, aM 31 5,
 aI 32 (aK 7 7), aI 33 (.indexAddr none 7 (aT 30) (aT 31)), aJ (.store 7 (aT 33) (aT 32))] (aR [aM 34 5, aI 35 (aB .add (aT 34) (aN 1)),
 aM 5 35])) (.skip))))) (aR [aM 20 6, aI 21 (aB .add (aT 20) (aN 1)), aM 6 21])))))) (aQ [aM 36 0, aM 37 5,
 aI 38 (.slice (.slice 7) (aT 36) (some (aT 37)) none),
 aJ (.xop (.clear 7 [(.str []), (.int .i64 0), (.int .i64 0), (.int .i64 0), (.str []), (.lit (.slice none 0 0)), (.lit (.slice none 0 0))]) [(aT 38)])]
 (aQ [aM 39 0, aM 40 5, aI 41 (.slice (.slice 7) (aT 39) none (some (aT 40))), aM 4 41] (.ret))))))⟩
def ac162 : AF := ⟨8, [.tmp 2], aQ [aI 2 (.move (.av (.lit (.slice none 0 0))))] (.seq (aQ [aM 3 0,
 aI 4 (.bin .eql .slice false (aT 3) (.av (.lit (.slice none 0 0))))] (.cond (aT 4) (aQ [aI 2 (.move (.av (.lit (.slice none 0 0))))] (.ret)) (.skip)))
 (aQ [aI 5 (.buildSlice true 106 7 0 [(.str []), (.int .i64 0), (.int .i64 0), (.int .i64 0), (.str []), (.lit (.slice none 0 0)), (.lit (.slice none 0 0))] []),
 aM 6 0, aI 7 (.append 106 7 104 [(.str []), (.int .i64 0), (.int .i64 0), (.int .i64 0), (.str []), (.lit (.slice none 0 0)), (.lit (.slice none 0 0))] (aT 5) (aT 6)),
 aM 2 7] (.ret)))⟩
def ac163 : AF := ⟨8, [.tmp 3], aQ [aI 2 (.box 106 (aT 0)), aI 3 (.move (.av (.bool false)))] (aQ [aI 4 (aF 0 2), aI 5 (aL 4),
 aI 6 (aL 1), aI 7 (.bin .eql .other false (aT 5) (aT 6)), aM 3 7] (.ret))⟩
def ac164 : AF := ⟨95, [.tmp 6], aQ [aI 6 (.move (.av (.lit (.slice none 0 0))))] (aQ [aM 10 0, aM 11 1,
 aI 12 (.slice (.slice 7) (aT 10) (some (aT 11)) none)] (aQ [aM 13 2, aI 14 (.len (.slice 7) (aT 13)), aM 7 14] (.seq (aQ [aM 15 7,
 aI 16 (aB .eql (aT 15) (aN 0))] (.cond (aT 16) (aQ [aM 17 0, aM 6 17] (.ret)) (.skip))) (aQ [aM 18 0,
 aI 19 (.len (.slice 7) (aT 18)), aM 8 19] (.seq (aQ [aM 20 1, aM 21 8, aI 22 (aB .eql (aT 20) (aT 21))] (.cond (aT 22)
 (aQ [aM 23 0, aM 24 2,
 aI 25 (.append 106 7 104 [(.str []), (.int .i64 0), (.int .i64 0), (.int .i64 0), (.str []), (.lit (.slice none 0 0)), (.lit (.slice none 0 0))] (aT 23) (aT 24)), aM 6 25]
 (.ret)) (.skip))) (.seq (aQ [aM 26 8, aM 27 7, aI 28 (aB .add (aT 26) (aT 27)), aM 29 0, aI 30 (.xop .cap [(aT 29)]),
 aI 31 (aB .gtr (aT 28) (aT 30))] (.cond (aT 31) (aQ [aM 32 0, aM 33 1, aI 34 (.slice (.slice 7) (aT 32) none (some (aT 33))), aM 35 8, aM 36 7,
 aI 37 (aB .add (aT 35) (aT 36)), aM 38 1, aI 39 (aB .sub (aT 37) (aT 38)),
 aI 40 (.xop (.appendZ 106 7 104 [(.str []), (.int .i64 0), (.int .i64 0), (.int .i64 0), (.str []), (.lit (.slice none 0 0)), (.lit (.slice none 0 0))]) [(aT 34), (aT 39)]),
 aM 9 40] (aQ [aM 41 9, aM 42 1, aI 43 (.slice (.slice 7) (aT 41) (some (aT 42)) none), aM 44 2, aI 45 (.xop (.copy 7) [(aT 43), (aT 44)])]
 (.seq (.region [aM 46 9, aM 47 1, aM 48 7, aI 49 (aB .add (aT 47) (aT 48)), aI 50 (.slice (.slice 7) (aT 46) (some (aT 49)) none), aM 51 0, aM 52 1,
 aI 53 (.slice (.slice 7) (aT 51) (some (aT 52)) none), aI 54 (.xop (.copy 7) [(aT 50), (aT 53)])] true) (aQ [aM 55 9, aM 6 55] (.ret))))) (.skip)))
 (aQ [aM 56 0, aM 57 8, aM 58 7, aI 59 (aB .add (aT 57) (aT 58)), aI 60 (.slice (.slice 7) (aT 56) none (some (aT 59))), aM 0 60]
 (.seq (aQ [aM 61 2, aM 62 0, aM 63 1, aM 64 7, aI 65 (aB .add (aT 63) (aT 64)), aI 66 (.slice (.slice 7) (aT 62) (some (aT 65)) none),
 aI 67 (aC 227 [(aT 61), (aT 66)]), aI 68 (.un .not false (aT 67))] (.cond (aT 68) (.seq (.region [aM 69 0, aM 70 1, aM 71 7,
 aI 72 (aB .add (aT 70) (aT 71)), aI 73 (.slice (.slice 7) (aT 69) (some (aT 72)) none), aM 74 0, aM 75 1, aI 76 (.slice (.slice 7) (aT 74) (some (aT 75)) none),
 aI 77 (.xop (.copy 7) [(aT 73), (aT 76)])] true) (aQ [aM 78 0, aM 79 1, aI 80 (.slice (.slice 7) (aT 78) (some (aT 79)) none), aM 81 2,
 aI 82 (.xop (.copy 7) [(aT 80), (aT 81)])] (aQ [aM 83 0, aM 6 83] (.ret)))) (.skip))) (aQ [aM 84 0, aM 85 8,
 aI 86 (.slice (.slice 7) (aT 84) (some (aT 85)) none), aM 87 2, aI 88 (.xop (.copy 7) [(aT 86), (aT 87)])] (aQ [aM 89 0, aM 90 1,
 aI 91 (.slice (.slice 7) (aT 89) (some (aT 90)) none), aM 92 7, aI 93 (aC 228 [(aT 91), (aT 92)])] (aQ [aM 94 0, aM 6 94]
 (.ret))))))))))))⟩
def ac166 : AF := ⟨8, [.tmp 2, .tmp 3], aQ [aI 2 (.move (aN 0)), aI 3 (.move (aN 0))] (.seq (aQ [aM 4 0,
 aI 5 (aC 109 [(aT 4)]), aI 6 (.un .not false (aT 5))] (.cond (aT 6) (aQ [aI 2 (.move (aN 0)), aI 3 (.move (aN 2))] (.ret))
 (.skip))) (aQ [aM 7 0, aM 2 7, aI 3 (.move (aN 0))] (.ret)))⟩
def ac169 : AF := ⟨65, [.cell 4 (some 6)], aQ [aI 3 (.box 138 (aT 1)),
 aI 4 (.alloc 26 [(.int .i64 0), (.int .i64 0), (.int .i64 0), (.str []), (.lit (.slice none 0 0)), (.lit (.slice none 0 0))])] (aQ [aI 11 (aF 1 3),
 aI 12 (aL 11),
 aI 13 (.build [(.int .i64 0), (.int .i64 0), (.int .i64 0), (.str []), (.lit (.slice none 0 0)), (.lit (.slice none 0 0))] [(0, 1, (aN 2)), (2, 1, (aT 12))]),
 aI 5 (.alloc 26 [(.int .i64 0), (.int .i64 0), (.int .i64 0), (.str []), (.lit (.slice none 0 0)), (.lit (.slice none 0 0))]), aJ (.store 6 (aT 5) (aT 13))]
 (.seq (aQ [aI 14 (aF 3 3), aI 15 (aL 14)] (.cond (aT 15) (aR [aI 16 (aF 1 5), aJ (.store 1 (aT 16) (aN 1))])
 (.skip))) (aQ [aM 17 0, aI 18 (.nilCheck (aT 17)), aI 19 (aK 3 18), aI 6 (.alloc 109 [(.str []), (.int .i64 0), (.int .i64 0)]),
 aJ (.store 3 (aT 6) (aT 19))] (aQ [aI 21 (aC 115 [(aT 6)]), aM 20 21, aI 22 (aE 20 0), aI 23 (aE 20 1),
 aI 7 (.alloc 138 [(.int .i64 0), (.int .i64 0), (.str []), (.bool false), (.int .i64 0), (.int .i64 0)]), aJ (.store 6 (aT 7) (aT 22)), aM 8 23]
 (.seq (aQ [aI 24 (aK 6 3), aI 25 (aC 229 [(aT 24)]), aI 26 (.un .not false (aT 25)), aM 27 26,
 aG 28 27 false (aV 8), aG 29 27 false (aB .neq (aT 28) (aN 0)), aI 30 (.pick (aT 27) (.av (.bool true)) (aT 29)), aM 31 30,
 aG 32 31 false (aK 6 7), aG 33 31 false (aC 229 [(aT 32)]), aG 34 31 false (.un .not false (aT 33)),
 aI 35 (.pick (aT 31) (.av (.bool true)) (aT 34))] (.cond (aT 35) (aQ [aI 36 (aK 6 5), aJ (.store 6 (aT 4) (aT 36))] (.ret)) (.skip)))
 (.seq (aQ [aI 38 (aC 115 [(aT 6)]), aM 37 38, aI 39 (aE 37 0), aI 40 (aE 37 1),
 aI 9 (.alloc 138 [(.int .i64 0), (.int .i64 0), (.str []), (.bool false), (.int .i64 0), (.int .i64 0)]), aJ (.store 6 (aT 9) (aT 39)), aM 10 40] (aQ [aM 41 10,
 aI 42 (aB .neq (aT 41) (aN 0)), aM 43 42, aG 44 43 false (aF 0 9), aG 45 43 false (aL 44),
 aG 46 43 false (aB .neq (aT 45) (aN 8)), aI 47 (.pick (aT 43) (.av (.bool true)) (aT 46)), aM 48 47, aG 49 48 false (aF 2 9),
 aG 50 48 false (aL 49), aG 51 48 false (.bin .neq .other false (aT 50) (.av (.str [82]))), aI 52 (.pick (aT 48) (.av (.bool true)) (aT 51))] (.cond (aT 52)
 (aQ [aI 53 (aK 6 5), aJ (.store 6 (aT 4) (aT 53))] (.ret)) (.skip)))) (aQ [aM 54 0, aI 55 (aF 1 6),
 aI 56 (aL 55), aI 57 (.nilCheck (aT 54)), aI 58 (aF 1 57), aJ (.store 1 (aT 58) (aT 56))] (aQ [aI 59 (aF 1 3),
 aI 60 (aL 59), aI 61 (aB .quo (aT 60) (aN 1000)), aI 62 (aF 1 7), aI 63 (aL 62),
 aI 64 (.build [(.int .i64 0), (.int .i64 0), (.int .i64 0), (.str []), (.lit (.slice none 0 0)), (.lit (.slice none 0 0))] [(0, 1, (aN 7)), (1, 1, (aT 61)), (2, 1, (aT 63))]),
 aJ (.store 6 (aT 4) (aT 64))] (.ret)))))))))⟩
def ac170 : AF := ⟨5, [.cell 2 (some 6)],
 aQ [aI 2 (.alloc 26 [(.int .i64 0), (.int .i64 0), (.int .i64 0), (.str []), (.lit (.slice none 0 0)), (.lit (.slice none 0 0))])] (aQ [aM 3 0,
 aI 4 (.build [(.int .i64 0), (.int .i64 0), (.int .i64 0), (.str []), (.lit (.slice none 0 0)), (.lit (.slice none 0 0))] [(0, 1, (aN 3)), (3, 1, (aT 3))]),
 aJ (.store 6 (aT 2) (aT 4))] (.ret))⟩
def ac171 : AF := ⟨38, [.cell 4 (some 6), .tmp 5],
 aQ [aI 4 (.alloc 26 [(.int .i64 0), (.int .i64 0), (.int .i64 0), (.str []), (.lit (.slice none 0 0)), (.lit (.slice none 0 0))]), aI 5 (.move (aN 0))]
 (.seq (aQ [aM 8 0, aI 9 (.nilCheck (aT 8)), aI 10 (aF 2 9), aI 11 (aL 10), aI 12 (aB .eql (aT 11) (aN 64))]
 (.cond (aT 12) (aQ [aI 13 (.build [(.int .i64 0), (.int .i64 0), (.int .i64 0), (.str []), (.lit (.slice none 0 0)), (.lit (.slice none 0 0))] []),
 aJ (.store 6 (aT 4) (aT 13)), aI 5 (.move (aN 5))] (.ret)) (.skip))) (aQ [aM 14 0, aI 15 (.nilCheck (aT 14)), aI 16 (aF 2 15),
 aI 17 (aL 16), aI 18 (aB .add (aT 17) (aN 1)), aI 19 (.nilCheck (aT 14)), aI 20 (aF 2 19), aJ (.store 1 (aT 20) (aT 18))]
 (aQ [aM 22 1, aI 23 (.call (aT 22) []), aM 21 23, aI 24 (aE 21 0), aI 25 (aE 21 1),
 aI 6 (.alloc 26 [(.int .i64 0), (.int .i64 0), (.int .i64 0), (.str []), (.lit (.slice none 0 0)), (.lit (.slice none 0 0))]), aJ (.store 6 (aT 6) (aT 24)), aM 7 25]
 (aQ [aM 26 0, aI 27 (.nilCheck (aT 26)), aI 28 (aF 2 27), aI 29 (aL 28), aI 30 (aB .sub (aT 29) (aN 1)),
 aI 31 (.nilCheck (aT 26)), aI 32 (aF 2 31), aJ (.store 1 (aT 32) (aT 30))] (.seq (aQ [aM 33 7, aI 34 (aB .neq (aT 33) (aN 0))]
 (.cond (aT 34) (aQ [aI 35 (.build [(.int .i64 0), (.int .i64 0), (.int .i64 0), (.str []), (.lit (.slice none 0 0)), (.lit (.slice none 0 0))] []), aM 36 7,
 aJ (.store 6 (aT 4) (aT 35)), aM 5 36] (.ret)) (.skip))) (aQ [aI 37 (aK 6 6), aJ (.store 6 (aT 4) (aT 37)), aI 5 (.move (aN 0))]
 (.ret)))))))⟩
def ac172 : AF := ⟨51, [.cell 2 (some 6), .tmp 3],
 aQ [aI 2 (.alloc 26 [(.int .i64 0), (.int .i64 0), (.int .i64 0), (.str []), (.lit (.slice none 0 0)), (.lit (.slice none 0 0))]), aI 3 (.move (aN 0))]
 (aQ [aI 8 (.build [(.int .i64 0), (.int .i64 0), (.int .i64 0), (.str []), (.lit (.slice none 0 0)), (.lit (.slice none 0 0))] [(0, 1, (aN 5))]),
 aI 4 (.alloc 26 [(.int .i64 0), (.int .i64 0), (.int .i64 0), (.str []), (.lit (.slice none 0 0)), (.lit (.slice none 0 0))]), aJ (.store 6 (aT 4) (aT 8))] (.block 0
 (.loop (.block 1 (aQ [aM 10 0, aI 11 (aC 115 [(aT 10)]), aM 9 11, aI 12 (aE 9 0), aI 13 (aE 9 1),
 aI 5 (.alloc 138 [(.int .i64 0), (.int .i64 0), (.str []), (.bool false), (.int .i64 0), (.int .i64 0)]), aJ (.store 6 (aT 5) (aT 12)), aM 6 13] (.seq (.block 2
 (aQ [aM 15 6, aI 16 (aB .neq (aT 15) (aN 0)), aM 14 16] (.cond (aT 14) (aQ [aI 17 (aK 6 4), aM 18 6,
 aJ (.store 6 (aT 2) (aT 17)), aM 3 18] (.ret)) (aQ [aI 20 (aF 0 5), aI 21 (aL 20), aI 22 (aB .eql (aT 21) (aN 5)),
 aM 19 22] (.cond (aT 19) (aQ [aI 23 (aK 6 4), aJ (.store 6 (aT 2) (aT 23)), aI 3 (.move (aN 0))] (.ret))
 (aQ [aI 25 (aF 0 5), aI 26 (aL 25), aI 27 (aB .neq (aT 26) (aN 0)), aM 28 27, aG 29 28 true (aF 4 4),
 aG 30 28 true (aL 29), aG 31 28 true (.len (.slice 6) (aT 30)), aG 32 28 true (aB .eql (aT 31) (aN 1024)),
 aI 33 (.pick (aT 28) (aT 32) (.av (.bool false))), aM 24 33] (.cond (aT 24) (aQ [aI 34 (aK 6 4), aJ (.store 6 (aT 2) (aT 34)),
 aI 3 (.move (aN 6))] (.ret)) (.skip)))))))) (aQ [aM 36 0, aI 37 (aK 6 5), aI 38 (aC 116 [(aT 36), (aT 37)]),
 aM 35 38, aI 39 (aE 35 0), aI 40 (aE 35 1),
 aI 7 (.alloc 26 [(.int .i64 0), (.int .i64 0), (.int .i64 0), (.str []), (.lit (.slice none 0 0)), (.lit (.slice none 0 0))]), aJ (.store 6 (aT 7) (aT 39)), aM 6 40]
 (.seq (aQ [aM 41 6, aI 42 (aB .neq (aT 41) (aN 0))] (.cond (aT 42) (aQ [aI 43 (aK 6 4), aM 44 6,
 aJ (.store 6 (aT 2) (aT 43)), aM 3 44] (.ret)) (.skip))) (aR [aI 45 (aF 4 4), aI 46 (aL 45), aI 47 (aK 6 7),
 aI 48 (.buildSlice false 26 6 1 [(.int .i64 0), (.int .i64 0), (.int .i64 0), (.str []), (.lit (.slice none 0 0)), (.lit (.slice none 0 0))] [(0, (aT 47))]),
 aI 49 (.append 26 6 88 [(.int .i64 0), (.int .i64 0), (.int .i64 0), (.str []), (.lit (.slice none 0 0)), (.lit (.slice none 0 0))] (aT 46) (aT 48)), aI 50 (aF 4 4),
 aJ (.store 1 (aT 50) (aT 49))])))))))))⟩
def ac173 : AF := ⟨55, [.cell 2 (some 6), .tmp 3],
 aQ [aI 2 (.alloc 26 [(.int .i64 0), (.int .i64 0), (.int .i64 0), (.str []), (.lit (.slice none 0 0)), (.lit (.slice none 0 0))]), aI 3 (.move (aN 0))]
 (aQ [aI 9 (.build [(.int .i64 0), (.int .i64 0), (.int .i64 0), (.str []), (.lit (.slice none 0 0)), (.lit (.slice none 0 0))] [(0, 1, (aN 6))]),
 aI 4 (.alloc 26 [(.int .i64 0), (.int .i64 0), (.int .i64 0), (.str []), (.lit (.slice none 0 0)), (.lit (.slice none 0 0))]), aJ (.store 6 (aT 4) (aT 9))]
 (aQ [aI 5 (.move (aN 0))] (.block 0 (.loop (.seq (.block 1 (aQ [aM 13 0, aI 14 (aC 115 [(aT 13)]), aM 12 14,
 aI 15 (aE 12 0), aI 16 (aE 12 1), aI 6 (.alloc 138 [(.int .i64 0), (.int .i64 0), (.str []), (.bool false), (.int .i64 0), (.int .i64 0)]),
 aJ (.store 6 (aT 6) (aT 15)), aM 7 16] (.seq (.block 2 (aQ [aM 18 7, aI 19 (aB .neq (aT 18) (aN 0)), aM 17 19] (.cond (aT 17)
 (aQ [aI 20 (aK 6 4), aM 21 7, aJ (.store 6 (aT 2) (aT 20)), aM 3 21] (.ret)) (aQ [aI 23 (aF 0 6),
 aI 24 (aL 23), aI 25 (aB .eql (aT 24) (aN 7)), aM 22 25] (.cond (aT 22) (aQ [aI 26 (aK 6 4),
 aJ (.store 6 (aT 2) (aT 26)), aI 3 (.move (aN 0))] (.ret)) (aQ [aI 28 (aF 0 6), aI 29 (aL 28),
 aI 30 (aB .eql (aT 29) (aN 0)), aM 27 30] (.cond (aT 27) (aQ [aI 31 (aK 6 4), aJ (.store 6 (aT 2) (aT 31)),
 aI 3 (.move (aN 4))] (.ret)) (aQ [aM 33 5, aI 34 (aB .eql (aT 33) (aN 1024)), aM 32 34] (.cond (aT 32)
 (aQ [aI 35 (aK 6 4), aJ (.store 6 (aT 2) (aT 35)), aI 3 (.move (aN 6))] (.ret)) (aQ [aI 37 (aF 0 6),
 aI 38 (aL 37), aI 39 (aB .neq (aT 38) (aN 2)), aM 36 39] (.cond (aT 36) (aQ [aI 40 (aK 6 4),
 aJ (.store 6 (aT 2) (aT 40)), aI 3 (.move (aN 3))] (.ret)) (.skip)))))))))))) (aQ [aM 42 0, aI 43 (aC 64 [(aT 42)]), aM 41 43,
 aI 44 (aE 41 0), aI 45 (aE 41 1),
 aI 8 (.alloc 26 [(.int .i64 0), (.int .i64 0), (.int .i64 0), (.str []), (.lit (.slice none 0 0)), (.lit (.slice none 0 0))]), aJ (.store 6 (aT 8) (aT 44)), aM 7 45]
 (.seq (aQ [aM 46 7, aI 47 (aB .neq (aT 46) (aN 0))] (.cond (aT 47) (aQ [aI 48 (aK 6 4), aM 49 7,
 aJ (.store 6 (aT 2) (aT 48)), aM 3 49] (.ret)) (.skip))) (aR [aI 50 (aK 6 4), aI 51 (aF 2 6), aI 52 (aL 51),
 aI 53 (aK 6 8), aI 54 (aC 106 [(aT 50), (aT 52), (aT 53)]), aJ (.store 6 (aT 4) (aT 54))])))))) (aR [aM 10 5,
 aI 11 (aB .add (aT 10) (aN 1)), aM 5 11]))))))⟩
def ac174 : AF := ⟨15, [.cell 2 (some 6), .tmp 3],
 aQ [aI 2 (.alloc 26 [(.int .i64 0), (.int .i64 0), (.int .i64 0), (.str []), (.lit (.slice none 0 0)), (.lit (.slice none 0 0))]), aI 3 (.move (aN 0))]
 (.seq (aQ [aM 4 0] (.block 0 (aQ [aI 6 (.bin .eql .other false (aT 4) (.av (.str [116, 114, 117, 101]))), aM 5 6] (.cond (aT 5)
 (aQ [aI 7 (.build [(.int .i64 0), (.int .i64 0), (.int .i64 0), (.str []), (.lit (.slice none 0 0)), (.lit (.slice none 0 0))] [(0, 1, (aN 1)), (1, 1, (aN 1))]),
 aJ (.store 6 (aT 2) (aT 7)), aI 3 (.move (aN 0))] (.ret)) (aQ [aI 9 (.bin .eql .other false (aT 4) (.av (.str [102, 97, 108, 115, 101]))), aM 8 9]
 (.cond (aT 8) (aQ [aI 10 (.build [(.int .i64 0), (.int .i64 0), (.int .i64 0), (.str []), (.lit (.slice none 0 0)), (.lit (.slice none 0 0))] [(0, 1, (aN 1))]),
 aJ (.store 6 (aT 2) (aT 10)), aI 3 (.move (aN 0))] (.ret)) (aQ [aI 12 (.bin .eql .other false (aT 4) (.av (.str [110, 117, 108, 108]))), aM 11 12]
 (.cond (aT 11) (aQ [aI 13 (.build [(.int .i64 0), (.int .i64 0), (.int .i64 0), (.str []), (.lit (.slice none 0 0)), (.lit (.slice none 0 0))] []),
 aJ (.store 6 (aT 2) (aT 13)), aI 3 (.move (aN 0))] (.ret)) (.skip)))))))))
 (aQ [aI 14 (.build [(.int .i64 0), (.int .i64 0), (.int .i64 0), (.str []), (.lit (.slice none 0 0)), (.lit (.slice none 0 0))] []), aJ (.store 6 (aT 2) (aT 14)),
 aI 3 (.move (aN 3))] (.ret)))⟩
def ac176 : AF := ⟨9, [.tmp 2, .tmp 3], aQ [aI 2 (.move (aN 0)), aI 3 (.move (aN 0))] (.seq (aQ [aM 4 0,
 aI 5 (.buildSlice false 22 1 1 [(.int .i64 0)] [(0, (aT 4))]), aI 6 (aC 117 [(aT 5)]), aI 7 (.un .not false (aT 6))] (.cond (aT 7)
 (aQ [aI 2 (.move (aN 0)), aI 3 (.move (aN 2))] (.ret)) (.skip))) (aQ [aM 8 0, aM 2 8, aI 3 (.move (aN 0))] (.ret)))⟩
def ac178 : AF := ⟨11, [.tmp 2], aQ [aI 2 (.move (.av (.bool false)))] (.seq (aQ [aM 3 0] (.block 0
 (.seq (aQ [aI 5 (.bin .eql .other false (aT 3) (.av (.int .u8 0))), aM 4 5] (.cond (aT 4) (.skip)
 (aQ [aI 6 (.bin .eql .other false (aT 3) (.av (.int .u8 9))), aM 4 6] (.cond (aT 4) (.skip)
 (aQ [aI 7 (.bin .eql .other false (aT 3) (.av (.int .u8 10))), aM 4 7] (.cond (aT 4) (.skip)
 (aQ [aI 8 (.bin .eql .other false (aT 3) (.av (.int .u8 12))), aM 4 8] (.cond (aT 4) (.skip)
 (aQ [aI 9 (.bin .eql .other false (aT 3) (.av (.int .u8 13))), aM 4 9] (.cond (aT 4) (.skip)
 (aR [aI 10 (.bin .eql .other false (aT 3) (.av (.int .u8 32))), aM 4 10]))))))))))) (.cond (aT 4) (aQ [aI 2 (.move (.av (.bool true)))] (.ret))
 (.skip))))) (aQ [aI 2 (.move (.av (.bool false)))] (.ret)))⟩
def ac179 : AF := ⟨6, [.tmp 2], aQ [aI 2 (.move (.av (.bool false)))] (aQ [aM 3 0,
 aI 4 (aC 151 [(.av (.str [40, 41, 60, 62, 91, 93, 123, 125, 47, 37])), (aT 3)]), aI 5 (aB .geq (aT 4) (aN 0)), aM 2 5] (.ret))⟩
def ac185 : AF := ⟨8, [.tmp 4], aQ [aI 4 (.move (.av (.bool false)))] (aQ [aM 5 0, aM 6 1, aI 7 (aC 231 [(aT 5), (aT 6)]),
 aM 4 7] (.ret))⟩
def ac200 : AF := ⟨21, [.tmp 6], aQ [aI 6 (.move (aN 0))] (.seq (.block 0 (.loop (.seq (aQ [aM 7 1, aM 8 0, aI 9 (.len .str (aT 8)),
 aI 10 (aB .lss (aT 7) (aT 9)), aM 11 10, aG 12 11 true (aV 2), aG 13 11 true (aV 0), aG 14 11 true (aV 1),
 aG 15 11 true (.indexStr (aT 13) (aT 14)), aG 16 11 true (.call (aT 12) [(aT 15)]), aI 17 (.pick (aT 11) (aT 16) (.av (.bool false)))] (.cond (aT 17) (.skip) (.exit 0)))
 (.block 1 (aR [aM 18 1, aI 19 (aB .add (aT 18) (aN 1)), aM 1 19]))))) (aQ [aM 20 1, aM 6 20] (.ret)))⟩
def ac201 : AF := ⟨9, [.tmp 2], aQ [aI 2 (.move (.av (.bool false)))] (aQ [aM 3 0, aI 4 (.bin .neq .other false (aT 3) (.av (.int .u8 10))), aM 5 4,
 aG 6 5 true (aV 0), aG 7 5 true (.bin .neq .other false (aT 6) (.av (.int .u8 13))), aI 8 (.pick (aT 5) (aT 7) (.av (.bool false))), aM 2 8] (.ret))⟩
def ac202 : AF := ⟨28, [.cell 4 (some 6), .tmp 5], aQ [aI 3 (.box 138 (aT 1)),
 aI 4 (.alloc 138 [(.int .i64 0), (.int .i64 0), (.str []), (.bool false), (.int .i64 0), (.int .i64 0)]), aI 5 (.move (aN 0))] (aQ [aM 7 0,
 aI 8 (aF 4 3), aI 9 (aL 8), aI 10 (aB .add (aT 9) (aN 1)),
 aI 11 (aC 200 [(aT 7), (aT 10), (.av (.fn (.func 150) [] []))]), aI 12 (aF 0 3), aJ (.store 1 (aT 12) (aN 2)),
 aI 13 (aF 5 3), aJ (.store 1 (aT 13) (aT 11))] (aQ [aI 6 (.move (aN 0))] (aQ [aM 15 0, aI 16 (aF 4 3),
 aI 17 (aL 16), aI 18 (aB .add (aT 17) (aN 1)), aI 19 (aF 5 3), aI 20 (aL 19),
 aI 21 (.slice .str (aT 15) (some (aT 18)) (some (aT 20))), aI 22 (aC 238 [(aT 21)]), aM 14 22, aI 23 (aE 14 0),
 aI 24 (aE 14 1), aI 25 (aF 2 3), aJ (.store 1 (aT 25) (aT 23)), aM 6 24] (aQ [aI 26 (aK 6 3), aM 27 6,
 aJ (.store 6 (aT 4) (aT 26)), aM 5 27] (.ret)))))⟩
def ac203 : AF := ⟨68, [.cell 4 (some 6), .tmp 5], aQ [aI 3 (.box 138 (aT 1)),
 aI 4 (.alloc 138 [(.int .i64 0), (.int .i64 0), (.str []), (.bool false), (.int .i64 0), (.int .i64 0)]), aI 5 (.move (aN 0))] (aQ [aI 6 (.bld 90 5)]
 (aQ [aI 7 (.move (aN 0))] (.seq (aQ [aI 10 (aF 4 3), aI 11 (aL 10), aI 12 (aB .add (aT 11) (aN 1)),
 aM 8 12] (.block 0 (.loop (.seq (aQ [aM 13 8, aM 14 0, aI 15 (.len .str (aT 14)), aI 16 (aB .lss (aT 13) (aT 15))] (.cond (aT 16) (.skip)
 (.exit 0))) (.seq (.block 1 (.seq (aQ [aM 19 0, aM 20 8, aI 21 (.indexStr (aT 19) (aT 20)), aM 9 21] (aQ [aM 22 9] (.block 2
 (aQ [aI 24 (.bin .eql .other false (aT 22) (.av (.int .u8 92))), aM 23 24] (.cond (aT 23) (.seq (aQ [aM 25 8,
 aI 26 (aB .add (aT 25) (aN 1)), aM 27 0, aI 28 (.len .str (aT 27)), aI 29 (aB .eql (aT 26) (aT 28))] (.cond (aT 29)
 (aQ [aI 30 (.build [(.int .i64 0), (.int .i64 0), (.str []), (.bool false), (.int .i64 0), (.int .i64 0)] []), aJ (.store 6 (aT 4) (aT 30)),
 aI 5 (.move (aN 4))] (.ret)) (.skip))) (aQ [aM 31 8, aM 32 0, aM 33 8, aI 34 (aB .add (aT 33) (aN 1)),
 aI 35 (.slice .str (aT 32) (some (aT 34)) none), aI 36 (aC 239 [(aT 6), (aT 35)]), aI 37 (aB .add (aT 31) (aT 36)), aM 8 37]
 (.exit 1))) (aQ [aI 39 (.bin .eql .other false (aT 22) (.av (.int .u8 40))), aM 38 39] (.cond (aT 38) (aR [aM 40 7,
 aI 41 (aB .add (aT 40) (aN 1)), aM 7 41]) (aQ [aI 43 (.bin .eql .other false (aT 22) (.av (.int .u8 41))), aM 42 43] (.cond (aT 42)
 (.seq (aQ [aM 44 7, aI 45 (aB .eql (aT 44) (aN 0))] (.cond (aT 45) (aQ [aI 46 (aC 53 [(aT 6)]), aM 47 8,
 aI 48 (aB .add (aT 47) (aN 1)), aI 49 (aF 0 3), aJ (.store 1 (aT 49) (aN 3)), aI 50 (aF 2 3), aJ (.store 1 (aT 50) (aT 46)),
 aI 51 (aF 5 3), aJ (.store 1 (aT 51) (aT 48))] (aQ [aI 52 (aK 6 3), aJ (.store 6 (aT 4) (aT 52)), aI 5 (.move (aN 0))]
 (.ret))) (.skip))) (aR [aM 53 7, aI 54 (aB .sub (aT 53) (aN 1)), aM 7 54])) (aQ [aI 56 (.bin .eql .other false (aT 22) (.av (.int .u8 13))),
 aM 55 56] (.cond (aT 55) (.seq (aQ [aM 57 0, aM 58 8, aI 59 (.slice .str (aT 57) (some (aT 58)) none),
 aI 60 (aC 185 [(aT 59), (.av (.str [13, 10]))]), aI 61 (.un .not false (aT 60))] (.cond (aT 61)
 (aR [aI 62 (aC 98 [(aT 6), (.av (.int .u8 10))])]) (.skip))) (.exit 1)) (.skip)))))))))))) (aR [aM 63 0, aM 64 8,
 aI 65 (.indexStr (aT 63) (aT 64)), aI 66 (aC 98 [(aT 6), (aT 65)])]))) (aR [aM 17 8, aI 18 (aB .add (aT 17) (aN 1)),
 aM 8 18])))))) (aQ [aI 67 (.build [(.int .i64 0), (.int .i64 0), (.str []), (.bool false), (.int .i64 0), (.int .i64 0)] []), aJ (.store 6 (aT 4) (aT 67)),
 aI 5 (.move (aN 4))] (.ret)))))⟩
def ac204 : AF := ⟨77, [.cell 4 (some 6), .tmp 5], aQ [aI 3 (.box 138 (aT 1)),
 aI 4 (.alloc 138 [(.int .i64 0), (.int .i64 0), (.str []), (.bool false), (.int .i64 0), (.int .i64 0)]), aI 5 (.move (aN 0))]
 (aQ [aI 6 (.move (.av (.lit (.slice none 0 0))))] (.seq (aQ [aI 11 (aF 4 3), aI 12 (aL 11),
 aI 13 (aB .add (aT 12) (aN 1)), aM 7 13] (.block 0 (.loop (.seq (aQ [aM 14 7, aM 15 0, aI 16 (.len .str (aT 15)),
 aI 17 (aB .lss (aT 14) (aT 16))] (.cond (aT 17) (.skip) (.exit 0))) (.seq (.block 1 (aQ [aM 21 0, aM 22 7, aI 23 (.indexStr (aT 21) (aT 22)),
 aI 24 (aC 240 [(aT 23)]), aM 20 24, aI 25 (aE 20 0), aI 26 (aE 20 1), aM 8 25, aM 9 26] (.block 2
 (aQ [aM 28 9, aM 27 28] (.cond (aT 27) (aR [aM 29 6, aM 30 8, aI 31 (.buildSlice false 5 1 1 [(.int .u8 0)] [(0, (aT 30))]),
 aI 32 (.append 5 1 1 [(.int .u8 0)] (aT 29) (aT 31)), aM 6 32]) (aQ [aM 34 0, aM 35 7, aI 36 (.indexStr (aT 34) (aT 35)),
 aI 37 (.bin .eql .other false (aT 36) (.av (.int .u8 62))), aM 33 37] (.cond (aT 33) (aQ [aM 38 6,
 aI 39 (.buildSlice false 5 1 1 [(.int .u8 0)] [(0, (.av (.int .u8 0)))]), aI 40 (.append 5 1 1 [(.int .u8 0)] (aT 38) (aT 39)), aM 6 40] (aQ [aM 41 7,
 aI 42 (aB .add (aT 41) (aN 1)), aI 43 (aF 0 3), aJ (.store 1 (aT 43) (aN 3)), aI 44 (aF 5 3), aJ (.store 1 (aT 44) (aT 42))]
 (.seq (aQ [aI 10 (.move (aN 1))] (.block 3 (.loop (.seq (aQ [aM 45 10, aM 46 6, aI 47 (.len (.slice 1) (aT 46)),
 aI 48 (aB .lss (aT 45) (aT 47))] (.cond (aT 48) (.skip) (.exit 3))) (.seq (.block 4 (.region [aI 51 (aF 2 3), aI 52 (aL 51),
 aM 53 6, aM 54 10, aI 55 (aB .sub (aT 54) (aN 1)), aI 56 (.indexAddr none 1 (aT 53) (aT 55)), aI 57 (aL 56),
 aI 58 (.bin .shl .other false (aT 57) (.av (.int .u64 4))), aM 59 6, aM 60 10, aI 61 (.indexAddr none 1 (aT 59) (aT 60)), aI 62 (aL 61),
 aI 63 (.bin .or .other false (aT 58) (aT 62)), aI 64 (.buildSlice false 5 1 1 [(.int .u8 0)] [(0, (aT 63))]), aI 65 (.conv .ofBytes (aT 64)),
 aI 66 (.bin .add .other false (aT 52) (aT 65)), aI 67 (aF 2 3), aJ (.store 1 (aT 67) (aT 66))] true)) (aR [aM 49 10,
 aI 50 (aB .add (aT 49) (aN 2)), aM 10 50])))))) (aQ [aI 68 (aK 6 3), aJ (.store 6 (aT 4) (aT 68)), aI 5 (.move (aN 0))]
 (.ret))))) (aQ [aM 70 0, aM 71 7, aI 72 (.indexStr (aT 70) (aT 71)), aI 73 (aC 178 [(aT 72)]), aI 74 (.un .not false (aT 73)),
 aM 69 74] (.cond (aT 69) (aQ [aI 75 (.build [(.int .i64 0), (.int .i64 0), (.str []), (.bool false), (.int .i64 0), (.int .i64 0)] []),
 aJ (.store 6 (aT 4) (aT 75)), aI 5 (.move (aN 3))] (.ret)) (.skip)))))))))) (aR [aM 18 7, aI 19 (aB .add (aT 18) (aN 1)), aM 7 19]))))))
 (aQ [aI 76 (.build [(.int .i64 0), (.int .i64 0), (.str []), (.bool false), (.int .i64 0), (.int .i64 0)] []), aJ (.store 6 (aT 4) (aT 76)),
 aI 5 (.move (aN 4))] (.ret))))⟩
def ac205 : AF := ⟨42, [.cell 4 (some 6), .tmp 5], aQ [aI 3 (.box 138 (aT 1)),
 aI 4 (.alloc 138 [(.int .i64 0), (.int .i64 0), (.str []), (.bool false), (.int .i64 0), (.int .i64 0)]), aI 5 (.move (aN 0))] (aQ [aM 7 0,
 aI 8 (aF 4 3), aI 9 (aL 8), aI 10 (aC 200 [(aT 7), (aT 9), (.av (.fn (.func 150) [] []))]), aI 11 (aF 0 3),
 aJ (.store 1 (aT 11) (aN 8)), aI 12 (aF 5 3), aJ (.store 1 (aT 12) (aT 10))] (aQ [aM 13 0, aI 14 (aF 4 3), aI 15 (aL 14),
 aI 16 (aF 5 3), aI 17 (aL 16), aI 18 (.slice .str (aT 13) (some (aT 15)) (some (aT 17))), aI 19 (aF 2 3),
 aJ (.store 1 (aT 19) (aT 18))] (.seq (aQ [aI 20 (aF 2 3), aI 21 (aL 20), aI 22 (.indexStr (aT 21) (aN 0)),
 aI 23 (aC 151 [(.av (.str [43, 45, 46, 48, 49, 50, 51, 52, 53, 54, 55, 56, 57])), (aT 22)]), aI 24 (aB .lss (aT 23) (aN 0))]
 (.cond (aT 24) (aQ [aI 25 (aK 6 3), aJ (.store 6 (aT 4) (aT 25)), aI 5 (.move (aN 0))] (.ret)) (.skip)))
 (aQ [aI 6 (.move (aN 0))] (aQ [aI 27 (aF 2 3), aI 28 (aL 27), aI 29 (aC 241 [(aT 28)]),
 aM 26 29, aI 30 (aE 26 0), aI 31 (aE 26 1), aI 32 (aF 1 3), aJ (.store 1 (aT 32) (aT 30)), aM 6 31]
 (aQ [aI 33 (aF 2 3), aI 34 (aL 33), aI 35 (aC 242 [(aT 34), (.av (.str [46]))]), aI 36 (.un .not false (aT 35)),
 aI 37 (aF 0 3), aJ (.store 1 (aT 37) (aN 1)), aI 38 (aF 3 3), aJ (.store 1 (aT 38) (aT 36)), aI 39 (aF 2 3),
 aJ (.store 1 (aT 39) (.av (.str [])))] (aQ [aI 40 (aK 6 3), aM 41 6, aJ (.store 6 (aT 4) (aT 40)), aM 5 41] (.ret))))))))⟩
def ac206 : AF := ⟨25, [.tmp 2], aQ [aI 2 (.move (.av (.bool false)))] (aQ [aM 3 0, aI 4 (.bin .eql .other false (aT 3) (.av (.int .u8 0))), aM 5 4,
 aG 6 5 false (aV 0), aG 7 5 false (.bin .eql .other false (aT 6) (.av (.int .u8 9))), aI 8 (.pick (aT 5) (.av (.bool true)) (aT 7)), aM 9 8, aG 10 9 false (aV 0),
 aG 11 9 false (.bin .eql .other false (aT 10) (.av (.int .u8 10))), aI 12 (.pick (aT 9) (.av (.bool true)) (aT 11)), aM 13 12, aG 14 13 false (aV 0),
 aG 15 13 false (.bin .eql .other false (aT 14) (.av (.int .u8 12))), aI 16 (.pick (aT 13) (.av (.bool true)) (aT 15)), aM 17 16, aG 18 17 false (aV 0),
 aG 19 17 false (.bin .eql .other false (aT 18) (.av (.int .u8 13))), aI 20 (.pick (aT 17) (.av (.bool true)) (aT 19)), aM 21 20, aG 22 21 false (aV 0),
 aG 23 21 false (.bin .eql .other false (aT 22) (.av (.int .u8 32))), aI 24 (.pick (aT 21) (.av (.bool true)) (aT 23)), aM 2 24] (.ret))⟩
def ac207 : AF := ⟨18, [.tmp 4], aQ [aI 4 (.move (aN 0))] (.seq (.block 0 (.loop (.seq (aQ [aM 5 1, aM 6 0, aI 7 (.len .str (aT 6)),
 aI 8 (aB .lss (aT 5) (aT 7)), aM 9 8, aG 10 9 true (aV 0), aG 11 9 true (aV 1), aG 12 9 true (.indexStr (aT 10) (aT 11)),
 aG 13 9 true (aC 156 [(aT 12)]), aI 14 (.pick (aT 9) (aT 13) (.av (.bool false)))] (.cond (aT 14) (.skip) (.exit 0))) (.block 1
 (aR [aM 15 1, aI 16 (aB .add (aT 15) (aN 1)), aM 1 16]))))) (aQ [aM 17 1, aM 4 17] (.ret)))⟩
def ac208 : AF := ⟨19, [.tmp 2], aQ [aI 2 (.move (aN 0))] (.seq (aQ [aI 3 (.move (aN 0))] (.block 0 (.loop (.seq (aQ [aM 4 3,
 aI 5 (aB .lss (aT 4) (aN 16))] (.cond (aT 5) (.skip) (.exit 0))) (.seq (.block 1 (aQ [aM 8 0, aM 9 3,
 aI 10 (.indexStr (.av (.str [48, 49, 50, 51, 52, 53, 54, 55, 56, 57, 97, 98, 99, 100, 101, 102])) (aT 9)), aI 11 (.bin .eql .other false (aT 8) (aT 10)), aM 12 11,
 aG 13 12 false (aV 0), aG 14 12 false (aV 3), aG 15 12 false (.indexStr (.av (.str [48, 49, 50, 51, 52, 53, 54, 55, 56, 57, 65, 66, 67, 68, 69, 70])) (aT 14)),
 aG 16 12 false (.bin .eql .other false (aT 13) (aT 15)), aI 17 (.pick (aT 12) (.av (.bool true)) (aT 16))] (.cond (aT 17) (aQ [aM 18 3, aM 2 18] (.ret))
 (.skip)))) (aR [aM 6 3, aI 7 (aB .add (aT 6) (aN 1)), aM 3 7])))))) (aQ [aI 2 (.move (aN (-1)))] (.ret)))⟩
def ac209 : AF := ⟨78, [.tmp 2, .tmp 3], aQ [aI 2 (.move (.av (.lit (.slice none 0 0)))), aI 3 (.move (aN 0))] (aQ [aI 4 (.move (aN 0))]
 (aQ [aI 5 (.move (aN 0))] (.seq (.block 0 (.loop (.seq (aQ [aM 6 4, aM 7 0, aI 8 (.len .str (aT 7)), aI 9 (aB .lss (aT 6) (aT 8)),
 aM 10 9, aG 11 10 true (aV 4), aG 12 10 true (aB .lss (aT 11) (aN 3)), aI 13 (.pick (aT 10) (aT 12) (.av (.bool false))), aM 14 13,
 aG 15 14 true (aV 0), aG 16 14 true (aV 4), aG 17 14 true (.indexStr (aT 15) (aT 16)), aG 18 14 true (.bin .geq .other false (aT 17) (.av (.int .u8 48))),
 aI 19 (.pick (aT 14) (aT 18) (.av (.bool false))), aM 20 19, aG 21 20 true (aV 0), aG 22 20 true (aV 4), aG 23 20 true (.indexStr (aT 21) (aT 22)),
 aG 24 20 true (.bin .leq .other false (aT 23) (.av (.int .u8 55))), aI 25 (.pick (aT 20) (aT 24) (.av (.bool false)))] (.cond (aT 25) (.skip) (.exit 0))) (.block 1
 (aQ [aM 26 5, aI 27 (aB .mul (aN 8) (aT 26)), aM 28 0, aM 29 4, aI 30 (.indexStr (aT 28) (aT 29)),
 aI 31 (.bin .sub .other false (aT 30) (.av (.int .u8 48))), aI 32 (.conv (.int .i64) (aT 31)), aI 33 (aB .add (aT 27) (aT 32)), aM 5 33] (aR [aM 34 4,
 aI 35 (aB .add (aT 34) (aN 1)), aM 4 35])))))) (.seq (aQ [aM 36 4, aI 37 (aB .gtr (aT 36) (aN 0))] (.cond (aT 37)
 (aQ [aM 38 5, aI 39 (.conv (.int .u8) (aT 38)), aI 40 (.buildSlice true 5 1 1 [(.int .u8 0)] [(0, (aT 39))]), aM 41 4, aM 2 40, aM 3 41] (.ret)) (.skip)))
 (.seq (aQ [aM 42 0, aI 43 (.indexStr (aT 42) (aN 0)), aI 44 (.bin .eql .other false (aT 43) (.av (.int .u8 13))), aM 45 44, aG 46 45 true (aV 0),
 aG 47 45 true (.len .str (aT 46)), aG 48 45 true (aB .gtr (aT 47) (aN 1)), aI 49 (.pick (aT 45) (aT 48) (.av (.bool false))), aM 50 49,
 aG 51 50 true (aV 0), aG 52 50 true (.indexStr (aT 51) (aN 1)), aG 53 50 true (.bin .eql .other false (aT 52) (.av (.int .u8 10))),
 aI 54 (.pick (aT 50) (aT 53) (.av (.bool false)))] (.cond (aT 54) (aQ [aI 2 (.move (.av (.lit (.slice none 0 0)))), aI 3 (.move (aN 2))] (.ret))
 (.skip))) (.seq (aQ [aM 55 0, aI 56 (.indexStr (aT 55) (aN 0))] (.block 2 (aQ [aI 58 (.bin .eql .other false (aT 56) (.av (.int .u8 110))),
 aM 57 58] (.cond (aT 57) (aQ [aI 59 (.buildSlice true 5 1 1 [(.int .u8 0)] [(0, (.av (.int .u8 10)))]), aM 2 59, aI 3 (.move (aN 1))] (.ret))
 (aQ [aI 61 (.bin .eql .other false (aT 56) (.av (.int .u8 114))), aM 60 61] (.cond (aT 60)
 (aQ [aI 62 (.buildSlice true 5 1 1 [(.int .u8 0)] [(0, (.av (.int .u8 13)))]), aM 2 62, aI 3 (.move (aN 1))] (.ret))
 (aQ [aI 64 (.bin .eql .other false (aT 56) (.av (.int .u8 116))), aM 63 64] (.cond (aT 63)
 (aQ [aI 65 (.buildSlice true 5 1 1 [(.int .u8 0)] [(0, (.av (.int .u8 9)))]), aM 2 65, aI 3 (.move (aN 1))] (.ret))
 (aQ [aI 67 (.bin .eql .other false (aT 56) (.av (.int .u8 98))), aM 66 67] (.cond (aT 66)
 (aQ [aI 68 (.buildSlice true 5 1 1 [(.int .u8 0)] [(0, (.av (.int .u8 8)))]), aM 2 68, aI 3 (.move (aN 1))] (.ret))
 (aQ [aI 70 (.bin .eql .other false (aT 56) (.av (.int .u8 102))), aM 69 70] (.cond (aT 69)
 (aQ [aI 71 (.buildSlice true 5 1 1 [(.int .u8 0)] [(0, (.av (.int .u8 12)))]), aM 2 71, aI 3 (.move (aN 1))] (.ret))
 (.seq (aQ [aI 73 (.bin .eql .other false (aT 56) (.av (.int .u8 10))), aM 72 73] (.cond (aT 72) (.skip)
 (aR [aI 74 (.bin .eql .other false (aT 56) (.av (.int .u8 13))), aM 72 74]))) (.cond (aT 72) (aQ [aI 2 (.move (.av (.lit (.slice none 0 0)))),
 aI 3 (.move (aN 1))] (.ret)) (.skip))))))))))))))) (aQ [aM 75 0, aI 76 (.indexStr (aT 75) (aN 0)), aI 77 (.buildSlice true 5 1 1 [(.int .u8 0)] [(0, (aT 76))]),
 aM 2 77, aI 3 (.move (aN 1))] (.ret))))))))⟩
def ac210 : AF := ⟨117, [.tmp 2, .tmp 3], aQ [aI 2 (.move (aN 0)), aI 3 (.move (aN 0))] (.seq (aQ [aM 11 0, aI 12 (.len .str (aT 11)),
 aI 13 (aB .gtr (aT 12) (aN 400))] (.cond (aT 13) (aQ [aI 2 (.move (aN 0)), aI 3 (.move (aN 2))] (.ret)) (.skip))) (aQ [aM 14 0,
 aI 15 (.bin .neq .other false (aT 14) (.av (.str []))), aM 16 15, aG 17 16 true (aV 0), aG 18 16 true (.indexStr (aT 17) (aN 0)),
 aG 19 16 true (.bin .eql .other false (aT 18) (.av (.int .u8 45))), aI 20 (.pick (aT 16) (aT 19) (.av (.bool false))), aM 4 20] (.seq (aQ [aM 21 0,
 aI 22 (.bin .neq .other false (aT 21) (.av (.str []))), aM 23 22, aG 24 23 true (aV 0), aG 25 23 true (.indexStr (aT 24) (aN 0)),
 aG 26 23 true (.bin .eql .other false (aT 25) (.av (.int .u8 45))), aG 27 23 true (aV 26), aG 28 27 false (aV 0), aG 29 27 false (.indexStr (aT 28) (aN 0)),
 aG 30 27 false (.bin .eql .other false (aT 29) (.av (.int .u8 43))), aG 31 23 true (.pick (aT 27) (.av (.bool true)) (aT 30)),
 aI 32 (.pick (aT 23) (aT 31) (.av (.bool false)))] (.cond (aT 32) (aR [aM 33 0, aI 34 (.slice .str (aT 33) (some (aN 1)) none), aM 0 34]) (.skip)))
 (aQ [aM 35 0, aI 36 (aC 243 [(aT 35)]), aM 5 36] (aQ [aM 37 0, aM 38 5, aI 39 (.slice .str (aT 37) none (some (aT 38))),
 aM 6 39] (aQ [aI 7 (.move (.av (.str [])))] (.seq (aQ [aM 40 5, aM 41 0, aI 42 (.len .str (aT 41)),
 aI 43 (aB .lss (aT 40) (aT 42)), aM 44 43, aG 45 44 true (aV 0), aG 46 44 true (aV 5), aG 47 44 true (.indexStr (aT 45) (aT 46)),
 aG 48 44 true (.bin .eql .other false (aT 47) (.av (.int .u8 46))), aI 49 (.pick (aT 44) (aT 48) (.av (.bool false)))] (.cond (aT 49) (aQ [aM 50 0, aM 51 5,
 aI 52 (aB .add (aT 51) (aN 1)), aI 53 (.slice .str (aT 50) (some (aT 52)) none), aI 54 (aC 243 [(aT 53)]), aM 8 54]
 (aQ [aM 55 0, aM 56 5, aI 57 (aB .add (aT 56) (aN 1)), aM 58 5, aI 59 (aB .add (aT 58) (aN 1)), aM 60 8,
 aI 61 (aB .add (aT 59) (aT 60)), aI 62 (.slice .str (aT 55) (some (aT 57)) (some (aT 61))), aM 7 62] (aR [aM 63 5,
 aI 64 (aB .add (aT 63) (aN 1)), aM 65 8, aI 66 (aB .add (aT 64) (aT 65)), aM 5 66]))) (.skip))) (.seq (aQ [aM 67 5, aM 68 0,
 aI 69 (.len .str (aT 68)), aI 70 (aB .lss (aT 67) (aT 69)), aM 71 70, aG 72 71 false (aV 6), aG 73 71 false (.len .str (aT 72)),
 aG 74 71 false (aV 7), aG 75 71 false (.len .str (aT 74)), aG 76 71 false (aB .add (aT 73) (aT 75)), aG 77 71 false (aB .eql (aT 76) (aN 0)),
 aI 78 (.pick (aT 71) (.av (.bool true)) (aT 77))] (.cond (aT 78) (aQ [aI 2 (.move (aN 0)), aI 3 (.move (aN 3))] (.ret)) (.skip)))
 (aQ [aM 79 6, aM 80 7, aI 81 (.bin .add .other false (aT 80) (.av (.str [48, 48, 48, 48]))), aI 82 (.slice .str (aT 81) none (some (aN 3))),
 aI 83 (.bin .add .other false (aT 79) (aT 82)), aM 6 83] (aQ [aI 9 (.move (aN 0))] (.seq (aQ [aI 10 (.move (aN 0))] (.block 0 (.loop
 (.seq (aQ [aM 84 10, aM 85 6, aI 86 (.len .str (aT 85)), aI 87 (aB .lss (aT 84) (aT 86))] (.cond (aT 87) (.skip) (.exit 0))) (.seq (.block 1
 (aQ [aM 90 9, aI 91 (aB .mul (aT 90) (aN 10)), aM 92 6, aM 93 10, aI 94 (.indexStr (aT 92) (aT 93)),
 aI 95 (.bin .sub .other false (aT 94) (.av (.int .u8 48))), aI 96 (.conv (.int .i64) (aT 95)), aI 97 (aB .add (aT 91) (aT 96)), aM 9 97]
 (aQ [aM 98 9, aI 99 (aB .gtr (aT 98) (aN 1099511627776))] (.cond (aT 99) (aQ [aI 2 (.move (aN 0)), aI 3 (.move (aN 2))] (.ret))
 (.skip))))) (aR [aM 88 10, aI 89 (aB .add (aT 88) (aN 1)), aM 10 89])))))) (.seq (aQ [aM 100 7, aI 101 (.len .str (aT 100)),
 aI 102 (aB .gtr (aT 101) (aN 3)), aM 103 102, aG 104 103 true (aV 7), aG 105 103 true (.indexStr (aT 104) (aN 3)),
 aG 106 103 true (.bin .geq .other false (aT 105) (.av (.int .u8 53))), aI 107 (.pick (aT 103) (aT 106) (.av (.bool false)))] (.cond (aT 107) (aR [aM 108 9,
 aI 109 (aB .add (aT 108) (aN 1)), aM 9 109]) (.skip))) (.seq (aQ [aM 110 4] (.cond (aT 110) (aR [aM 111 9,
 aI 112 (.un .neg true (aT 111)), aM 9 112]) (.skip))) (aQ [aM 113 9, aI 114 (aC 166 [(aT 113)]), aI 115 (aE 114 0),
 aI 116 (aE 114 1), aM 2 115, aM 3 116] (.ret)))))))))))))))⟩
def ac211 : AF := ⟨95, [.cell 6 (some 6), .tmp 7, .tmp 8],
 aQ [aI 6 (.alloc 26 [(.int .i64 0), (.int .i64 0), (.int .i64 0), (.str []), (.lit (.slice none 0 0)), (.lit (.slice none 0 0))]), aI 7 (.move (aN 0)),
 aI 8 (.move (aN 0))] (aQ [aM 12 0, aM 13 1, aI 14 (aC 88 [(aT 12), (aT 13)]), aM 11 14, aI 15 (aE 11 0),
 aI 16 (aE 11 1), aI 9 (.alloc 143 [(.int .i64 0), (.int .i64 0), (.str []), (.bool false), (.int .i64 0), (.int .i64 0)]), aJ (.store 6 (aT 9) (aT 15)),
 aM 10 16] (.seq (aQ [aM 17 10, aI 18 (aB .neq (aT 17) (aN 0))] (.cond (aT 18)
 (aQ [aI 19 (.build [(.int .i64 0), (.int .i64 0), (.int .i64 0), (.str []), (.lit (.slice none 0 0)), (.lit (.slice none 0 0))] []), aM 20 10,
 aJ (.store 6 (aT 6) (aT 19)), aI 7 (.move (aN 0)), aM 8 20] (.ret)) (.skip))) (.seq (aQ [aI 21 (aF 0 9), aI 22 (aL 21)]
 (.block 0 (aQ [aI 24 (aB .eql (aT 22) (aN 0)), aM 23 24] (.cond (aT 23)
 (aQ [aI 25 (.build [(.int .i64 0), (.int .i64 0), (.int .i64 0), (.str []), (.lit (.slice none 0 0)), (.lit (.slice none 0 0))] []), aJ (.store 6 (aT 6) (aT 25)),
 aI 7 (.move (aN 0)), aI 8 (.move (aN 4))] (.ret)) (aQ [aI 27 (aB .eql (aT 22) (aN 1)), aM 26 27] (.cond (aT 26) (aQ [aM 28 0,
 aI 29 (aK 6 9), aI 30 (aC 244 [(aT 28), (aT 29)]), aI 31 (aE 30 0), aI 32 (aE 30 1), aI 33 (aE 30 2),
 aJ (.store 6 (aT 6) (aT 31)), aM 7 32, aM 8 33] (.ret)) (aQ [aI 35 (aB .eql (aT 22) (aN 2)), aM 34 35] (.cond (aT 34)
 (.seq (.region [aI 36 (aF 2 9), aI 37 (aL 36),
 aI 38 (.build [(.int .i64 0), (.int .i64 0), (.int .i64 0), (.str []), (.lit (.slice none 0 0)), (.lit (.slice none 0 0))] [(0, 1, (aN 3)), (3, 1, (aT 37))]),
 aI 39 (aF 5 9), aI 40 (.loadA none (aT 39) [(aT 6)]), aJ (.storeA 6 (aT 6) (aT 38) (aT 6) []), aM 7 40, aI 8 (.move (aN 0))] true) (.ret))
 (aQ [aI 42 (aB .eql (aT 22) (aN 3)), aM 41 42] (.cond (aT 41) (.seq (.region [aI 43 (aF 2 9), aI 44 (aL 43),
 aI 45 (.build [(.int .i64 0), (.int .i64 0), (.int .i64 0), (.str []), (.lit (.slice none 0 0)), (.lit (.slice none 0 0))] [(0, 1, (aN 4)), (3, 1, (aT 44))]),
 aI 46 (aF 5 9), aI 47 (.loadA none (aT 46) [(aT 6)]), aJ (.storeA 6 (aT 6) (aT 45) (aT 6) []), aM 7 47, aI 8 (.move (aN 0))] true) (.ret))
 (aQ [aI 49 (aB .eql (aT 22) (aN 8)), aM 48 49] (.cond (aT 48) (aQ [aI 50 (aF 2 9), aI 51 (aL 50)]
 (.block 1 (aQ [aI 53 (.bin .eql .other false (aT 51) (.av (.str [116, 114, 117, 101]))), aM 52 53] (.cond (aT 52)
 (.seq (.region [aI 54 (.build [(.int .i64 0), (.int .i64 0), (.int .i64 0), (.str []), (.lit (.slice none 0 0)), (.lit (.slice none 0 0))] [(0, 1, (aN 1)), (1, 1, (aN 1))]),
 aI 55 (aF 5 9), aI 56 (.loadA none (aT 55) [(aT 6)]), aJ (.storeA 6 (aT 6) (aT 54) (aT 6) []), aM 7 56, aI 8 (.move (aN 0))] true) (.ret))
 (aQ [aI 58 (.bin .eql .other false (aT 51) (.av (.str [102, 97, 108, 115, 101]))), aM 57 58] (.cond (aT 57)
 (.seq (.region [aI 59 (.build [(.int .i64 0), (.int .i64 0), (.int .i64 0), (.str []), (.lit (.slice none 0 0)), (.lit (.slice none 0 0))] [(0, 1, (aN 1))]),
 aI 60 (aF 5 9), aI 61 (.loadA none (aT 60) [(aT 6)]), aJ (.storeA 6 (aT 6) (aT 59) (aT 6) []), aM 7 61, aI 8 (.move (aN 0))] true) (.ret))
 (aQ [aI 63 (.bin .eql .other false (aT 51) (.av (.str [110, 117, 108, 108]))), aM 62 63] (.cond (aT 62)
 (.seq (.region [aI 64 (.build [(.int .i64 0), (.int .i64 0), (.int .i64 0), (.str []), (.lit (.slice none 0 0)), (.lit (.slice none 0 0))] []), aI 65 (aF 5 9),
 aI 66 (.loadA none (aT 65) [(aT 6)]), aJ (.storeA 6 (aT 6) (aT 64) (aT 6) []), aM 7 66, aI 8 (.move (aN 0))] true) (.ret)) (.skip)))))))))
 (.seq (aQ [aI 68 (aB .eql (aT 22) (aN 4)), aM 67 68] (.cond (aT 67) (.skip) (aR [aI 69 (aB .eql (aT 22) (aN 6)),
 aM 67 69]))) (.cond (aT 67) (.seq (aQ [aM 70 2, aI 71 (aB .geq (aT 70) (aN 64))] (.cond (aT 71)
 (aQ [aI 72 (.build [(.int .i64 0), (.int .i64 0), (.int .i64 0), (.str []), (.lit (.slice none 0 0)), (.lit (.slice none 0 0))] []), aJ (.store 6 (aT 6) (aT 72)),
 aI 7 (.move (aN 0)), aI 8 (.move (aN 5))] (.ret)) (.skip))) (.seq (aQ [aI 73 (aF 0 9), aI 74 (aL 73),
 aI 75 (aB .eql (aT 74) (aN 4))] (.cond (aT 75) (aQ [aM 76 0, aI 77 (aF 5 9), aI 78 (aL 77), aM 79 2,
 aI 80 (aB .add (aT 79) (aN 1)), aI 81 (aC 245 [(aT 76), (aT 78), (aT 80)]), aI 82 (aE 81 0), aI 83 (aE 81 1),
 aI 84 (aE 81 2), aJ (.store 6 (aT 6) (aT 82)), aM 7 83, aM 8 84] (.ret)) (.skip))) (aQ [aM 85 0, aI 86 (aF 5 9),
 aI 87 (aL 86), aM 88 2, aI 89 (aB .add (aT 88) (aN 1)), aI 90 (aC 246 [(aT 85), (aT 87), (aT 89)]),
 aI 91 (aE 90 0), aI 92 (aE 90 1), aI 93 (aE 90 2), aJ (.store 6 (aT 6) (aT 91)), aM 7 92, aM 8 93] (.ret)))) (.skip)))))))))))))))
 (aQ [aI 94 (.build [(.int .i64 0), (.int .i64 0), (.int .i64 0), (.str []), (.lit (.slice none 0 0)), (.lit (.slice none 0 0))] []), aJ (.store 6 (aT 6) (aT 94)),
 aI 7 (.move (aN 0)), aI 8 (.move (aN 3))] (.ret)))))⟩
def ac213 : AF := ⟨51, [.tmp 4, .tmp 5], aQ [aI 4 (.move (.av (.int .u64 0))), aI 5 (.move (.av (.int .u64 0)))] (aQ [aM 14 0,
 aI 15 (.bin .and .other false (aT 14) (.av (.int .u64 4294967295))), aM 6 15] (aQ [aM 16 0, aI 17 (.bin .shr .other false (aT 16) (.av (.int .u64 32))),
 aM 7 17] (aQ [aM 18 1, aI 19 (.bin .and .other false (aT 18) (.av (.int .u64 4294967295))), aM 8 19] (aQ [aM 20 1,
 aI 21 (.bin .shr .other false (aT 20) (.av (.int .u64 32))), aM 9 21] (aQ [aM 22 6, aM 23 8, aI 24 (.bin .mul .other false (aT 22) (aT 23)), aM 10 24]
 (aQ [aM 25 7, aM 26 8, aI 27 (.bin .mul .other false (aT 25) (aT 26)), aM 28 10, aI 29 (.bin .shr .other false (aT 28) (.av (.int .u64 32))),
 aI 30 (.bin .add .other false (aT 27) (aT 29)), aM 11 30] (aQ [aM 31 11, aI 32 (.bin .and .other false (aT 31) (.av (.int .u64 4294967295))), aM 12 32]
 (aQ [aM 33 11, aI 34 (.bin .shr .other false (aT 33) (.av (.int .u64 32))), aM 13 34] (aQ [aM 35 12, aM 36 6, aM 37 9,
 aI 38 (.bin .mul .other false (aT 36) (aT 37)), aI 39 (.bin .add .other false (aT 35) (aT 38)), aM 12 39] (aQ [aM 40 7, aM 41 9,
 aI 42 (.bin .mul .other false (aT 40) (aT 41)), aM 43 13, aI 44 (.bin .add .other false (aT 42) (aT 43)), aM 45 12, aI 46 (.bin .shr .other false (aT 45) (.av (.int .u64 32))),
 aI 47 (.bin .add .other false (aT 44) (aT 46)), aM 4 47] (aQ [aM 48 0, aM 49 1, aI 50 (.bin .mul .other false (aT 48) (aT 49)), aM 5 50]
 (.ret))))))))))))⟩
def ac214 : AF := ⟨8, [.tmp 4], aQ [aI 4 (.move (aN 0))] (aQ [aM 5 0, aM 6 1, aI 7 (aC 247 [(aT 5), (aT 6)]),
 aM 4 7] (.ret))⟩
def ac215 : AF := ⟨15, [.tmp 4, .tmp 5], aQ [aI 4 (.move (.av (.str []))), aI 5 (.move (.av (.bool false)))] (.seq (aQ [aM 6 0, aM 7 1,
 aI 8 (aC 231 [(aT 6), (aT 7)]), aI 9 (.un .not false (aT 8))] (.cond (aT 9) (aQ [aM 10 0, aM 4 10,
 aI 5 (.move (.av (.bool false)))] (.ret)) (.skip))) (aQ [aM 11 0, aM 12 1, aI 13 (.len .str (aT 12)), aI 14 (.slice .str (aT 11) (some (aT 13)) none), aM 4 14,
 aI 5 (.move (.av (.bool true)))] (.ret)))⟩
def ac216 : AF := ⟨16, [.tmp 4], aQ [aI 4 (.move (.av (.str [])))] (.seq (aQ [aM 5 0, aM 6 1,
 aI 7 (aC 248 [(aT 5), (aT 6)])] (.cond (aT 7) (aQ [aM 8 0, aM 9 0, aI 10 (.len .str (aT 9)), aM 11 1, aI 12 (.len .str (aT 11)),
 aI 13 (aB .sub (aT 10) (aT 12)), aI 14 (.slice .str (aT 8) none (some (aT 13))), aM 4 14] (.ret)) (.skip))) (aQ [aM 15 0, aM 4 15]
 (.ret)))⟩
def ac217 : AF := ⟨23, [.tmp 4], aQ [aI 4 (.move (.av (.str [])))] (.seq (.block 0 (.loop (.seq (aQ [aM 5 0, aI 6 (.len .str (aT 5)),
 aI 7 (aB .gtr (aT 6) (aN 0)), aM 8 7, aG 9 8 true (aV 0), aG 10 8 true (aV 0), aG 11 8 true (.len .str (aT 10)),
 aG 12 8 true (aB .sub (aT 11) (aN 1)), aG 13 8 true (.indexStr (aT 9) (aT 12)), aG 14 8 true (aV 1), aG 15 8 true (.bin .eql .other false (aT 13) (aT 14)),
 aI 16 (.pick (aT 8) (aT 15) (.av (.bool false)))] (.cond (aT 16) (.skip) (.exit 0))) (.block 1 (aR [aM 17 0, aM 18 0, aI 19 (.len .str (aT 18)),
 aI 20 (aB .sub (aT 19) (aN 1)), aI 21 (.slice .str (aT 17) none (some (aT 20))), aM 0 21]))))) (aQ [aM 22 0, aM 4 22] (.ret)))⟩
def ac218 : AF := ⟨21, [.cell 2 (some 256), .tmp 3], aQ [aI 2 (.alloc 241 (List.replicate 256 (.bool false))), aI 3 (.move (.av (.bool false)))]
 (.seq (aQ [aI 4 (.move (aN 0))] (.block 0 (.loop (.seq (aQ [aM 6 4, aM 7 0, aI 8 (.len .str (aT 7)),
 aI 9 (aB .lss (aT 6) (aT 8))] (.cond (aT 9) (.skip) (.exit 0))) (.seq (.block 1 (aQ [aM 12 0, aM 13 4, aI 14 (.indexStr (aT 12) (aT 13)),
 aM 5 14] (.seq (aQ [aM 15 5, aI 16 (.bin .geq .other false (aT 15) (.av (.int .u8 128)))] (.cond (aT 16) (aQ [aI 17 (aK 256 2),
 aJ (.store 256 (aT 2) (aT 17)), aI 3 (.move (.av (.bool false)))] (.ret)) (.skip))) (aR [aM 18 5, aI 19 (.indexAddr (some 256) 1 (aT 2) (aT 18)),
 aJ (.store 1 (aT 19) (.av (.bool true)))])))) (aR [aM 10 4, aI 11 (aB .add (aT 10) (aN 1)), aM 4 11]))))))
 (aQ [aI 20 (aK 256 2), aJ (.store 256 (aT 2) (aT 20)), aI 3 (.move (.av (.bool true)))] (.ret)))⟩
def ac219 : AF := ⟨22, [.tmp 4], aQ [aI 4 (.move (.av (.str [])))] (.seq (.block 0 (.loop (.seq (aQ [aM 5 0, aI 6 (.len .str (aT 5)),
 aI 7 (aB .gtr (aT 6) (aN 0))] (.cond (aT 7) (.skip) (.exit 0))) (.block 1 (.seq (aQ [aM 8 1, aM 9 0, aM 10 0, aI 11 (.len .str (aT 10)),
 aI 12 (aB .sub (aT 11) (aN 1)), aI 13 (.indexStr (aT 9) (aT 12)), aI 14 (aC 249 [(aT 8), (aT 13)]),
 aI 15 (.un .not false (aT 14))] (.cond (aT 15) (.exit 0) (.skip))) (aR [aM 16 0, aM 17 0, aI 18 (.len .str (aT 17)), aI 19 (aB .sub (aT 18) (aN 1)),
 aI 20 (.slice .str (aT 16) none (some (aT 19))), aM 0 20])))))) (aQ [aM 21 0, aM 4 21] (.ret)))⟩
def ac225 : AF := ⟨19, [.tmp 4], aQ [aI 4 (.move (aN 0))] (.seq (aQ [aM 6 0, aI 7 (.len (.slice 7) (aT 6)), aI 8 (.move (aN 0))] (.block 0 (.loop
 (aQ [aI 9 (aB .lss (aT 8) (aT 7))] (.seq (.cond (aT 9) (.skip) (.exit 0)) (.seq (.block 1 (aQ [aM 10 8, aM 5 10]
 (aQ [aM 11 1, aM 12 0, aM 13 5, aI 14 (.indexAddr none 7 (aT 12) (aT 13)), aI 15 (aK 7 14), aI 16 (.call (aT 11) [(aT 15)])] (.cond (aT 16)
 (aQ [aM 17 5, aM 4 17] (.ret)) (.skip))))) (aR [aI 18 (aB .add (aT 8) (aN 1)), aM 8 18])))))))
 (aQ [aI 4 (.move (aN (-1)))] (.ret)))⟩
def ac226 : AF := ⟨8, [.tmp 3], aQ [aI 2 (.box 106 (aT 0)), aI 3 (.move (.av (.bool false)))] (aQ [aI 4 (aF 0 2), aI 5 (aL 4),
 aI 6 (aL 1), aI 7 (.bin .eql .other false (aT 5) (aT 6)), aM 3 7] (.ret))⟩
def ac229 : AF := ⟨15, [.tmp 2], aQ [aI 1 (.box 138 (aT 0)), aI 2 (.move (.av (.bool false)))] (aQ [aI 3 (aF 0 1),
 aI 4 (aL 3), aI 5 (aB .eql (aT 4) (aN 1)), aM 6 5, aG 7 6 true (aF 3 1), aG 8 6 true (aL 7),
 aI 9 (.pick (aT 6) (aT 8) (.av (.bool false))), aM 10 9, aG 11 10 true (aF 1 1), aG 12 10 true (aL 11),
 aG 13 10 true (aB .geq (aT 12) (aN 0)), aI 14 (.pick (aT 10) (aT 13) (.av (.bool false))), aM 2 14] (.ret))⟩
def ac231 : AF := ⟨18, [.tmp 4], aQ [aI 4 (.move (.av (.bool false)))] (aQ [aM 5 0, aI 6 (.len .str (aT 5)), aM 7 1, aI 8 (.len .str (aT 7)),
 aI 9 (aB .geq (aT 6) (aT 8)), aM 10 9, aG 11 10 true (aV 0), aG 12 10 true (aV 1), aG 13 10 true (.len .str (aT 12)),
 aG 14 10 true (.slice .str (aT 11) none (some (aT 13))), aG 15 10 true (aV 1), aG 16 10 true (.bin .eql .other false (aT 14) (aT 15)),
 aI 17 (.pick (aT 10) (aT 16) (.av (.bool false))), aM 4 17] (.ret))⟩
def ac238 : AF := ⟨32, [.tmp 2, .tmp 3], aQ [aI 2 (.move (.av (.str []))), aI 3 (.move (aN 0))] (aQ [aI 4 (.bld 90 5)] (.block 0 (.loop (.block 1
 (aQ [aM 11 0, aI 12 (aC 259 [(aT 11), (.av (.str [35]))]), aM 10 12, aI 13 (aE 10 0), aI 14 (aE 10 1),
 aI 15 (aE 10 2), aM 5 13, aM 6 14, aM 7 15] (aQ [aM 16 5, aI 17 (aC 56 [(aT 4), (aT 16)])]
 (.seq (aQ [aM 18 7, aI 19 (.un .not false (aT 18))] (.cond (aT 19) (aQ [aI 20 (aC 53 [(aT 4)]), aM 2 20,
 aI 3 (.move (aN 0))] (.ret)) (.skip))) (aQ [aM 22 6, aI 23 (aC 260 [(aT 22)]), aM 21 23, aI 24 (aE 21 0),
 aI 25 (aE 21 1), aM 8 24, aM 9 25] (.seq (aQ [aM 26 9, aI 27 (.un .not false (aT 26))] (.cond (aT 27)
 (aQ [aI 2 (.move (.av (.str []))), aI 3 (.move (aN 3))] (.ret)) (.skip))) (aQ [aM 28 8,
 aI 29 (aC 98 [(aT 4), (aT 28)])] (aR [aM 30 6, aI 31 (.slice .str (aT 30) (some (aN 2)) none), aM 0 31])))))))))))⟩
def ac239 : AF := ⟨38, [.tmp 4], aQ [aI 4 (.move (aN 0))] (.seq (aQ [aM 9 1, aI 10 (aC 261 [(aT 9)]), aM 8 10,
 aI 11 (aE 8 0), aI 12 (aE 8 1), aM 5 11, aM 6 12] (aQ [aM 13 6, aI 14 (aB .gtr (aT 13) (aN 0))] (.cond (aT 14)
 (aQ [aM 15 0, aM 16 5, aI 17 (aC 98 [(aT 15), (aT 16)])] (aQ [aM 18 6, aM 4 18] (.ret))) (.skip))))
 (.seq (aQ [aM 19 1, aI 20 (aC 185 [(aT 19), (.av (.str [13, 10]))])] (.cond (aT 20) (aQ [aI 4 (.move (aN 2))]
 (.ret)) (.skip))) (.seq (aQ [aM 21 1, aI 22 (.indexStr (aT 21) (aN 0)),
 aI 23 (aC 151 [(.av (.str [110, 114, 116, 98, 102, 10, 13])), (aT 22)]), aM 7 23] (.block 0 (aQ [aM 25 7,
 aI 26 (aB .lss (aT 25) (aN 0)), aM 24 26] (.cond (aT 24) (aR [aM 27 0, aM 28 1, aI 29 (.indexStr (aT 28) (aN 0)),
 aI 30 (aC 98 [(aT 27), (aT 29)])]) (aQ [aM 32 7, aI 33 (aB .lss (aT 32) (aN 5)), aM 31 33] (.cond (aT 31)
 (aR [aM 34 0, aM 35 7, aI 36 (.indexStr (.av (.str [10, 13, 9, 8, 12])) (aT 35)), aI 37 (aC 98 [(aT 34), (aT 36)])]) (.skip)))))))
 (aQ [aI 4 (.move (aN 1))] (.ret)))))⟩
def ac240 : AF := ⟨26, [.tmp 2, .tmp 3], aQ [aI 2 (.move (.av (.int .u8 0))), aI 3 (.move (.av (.bool false)))] (.seq (.block 0 (aQ [aM 5 0,
 aI 6 (.bin .geq .other false (aT 5) (.av (.int .u8 48))), aM 7 6, aG 8 7 true (aV 0), aG 9 7 true (.bin .leq .other false (aT 8) (.av (.int .u8 57))),
 aI 10 (.pick (aT 7) (aT 9) (.av (.bool false))), aM 4 10] (.cond (aT 4) (aQ [aM 11 0, aI 12 (.bin .sub .other false (aT 11) (.av (.int .u8 48))), aM 2 12,
 aI 3 (.move (.av (.bool true)))] (.ret)) (aQ [aM 14 0, aI 15 (.bin .or .other false (aT 14) (.av (.int .u8 32))),
 aI 16 (.bin .geq .other false (aT 15) (.av (.int .u8 97))), aM 17 16, aG 18 17 true (aV 0), aG 19 17 true (.bin .or .other false (aT 18) (.av (.int .u8 32))),
 aG 20 17 true (.bin .leq .other false (aT 19) (.av (.int .u8 102))), aI 21 (.pick (aT 17) (aT 20) (.av (.bool false))), aM 13 21] (.cond (aT 13) (aQ [aM 22 0,
 aI 23 (.bin .or .other false (aT 22) (.av (.int .u8 32))), aI 24 (.bin .sub .other false (aT 23) (.av (.int .u8 97))), aI 25 (.bin .add .other false (aT 24) (.av (.int .u8 10))),
 aM 2 25, aI 3 (.move (.av (.bool true)))] (.ret)) (.skip)))))) (aQ [aI 2 (.move (.av (.int .u8 0))), aI 3 (.move (.av (.bool false)))] (.ret)))⟩
def ac241 : AF := ⟨60, [.tmp 2, .tmp 3], aQ [aI 2 (.move (aN 0)), aI 3 (.move (aN 0))] (.seq (aQ [aM 9 0, aI 10 (.len .str (aT 9)),
 aI 11 (aB .gtr (aT 10) (aN 400))] (.cond (aT 11) (aQ [aI 2 (.move (aN 0)), aI 3 (.move (aN 2))] (.ret)) (.skip))) (aQ [aM 13 0,
 aI 14 (aC 262 [(aT 13)]), aM 12 14, aI 15 (aE 12 0), aI 16 (aE 12 1), aM 0 15, aM 4 16] (aQ [aM 18 0,
 aI 19 (aC 259 [(aT 18), (.av (.str [46]))]), aM 17 19, aI 20 (aE 17 0), aI 21 (aE 17 1), aI 22 (aE 17 2), aM 5 20,
 aM 6 21, aM 7 22] (.seq (aQ [aM 23 5, aI 24 (aC 263 [(aT 23)]), aI 25 (.un .not false (aT 24)), aM 26 25,
 aG 27 26 false (aV 6), aG 28 26 false (aC 263 [(aT 27)]), aG 29 26 false (.un .not false (aT 28)),
 aI 30 (.pick (aT 26) (.av (.bool true)) (aT 29)), aM 31 30, aG 32 31 false (aV 5), aG 33 31 false (aV 6), aG 34 31 false (.bin .add .other false (aT 32) (aT 33)),
 aG 35 31 false (.bin .eql .other false (aT 34) (.av (.str []))), aI 36 (.pick (aT 31) (.av (.bool true)) (aT 35))] (.cond (aT 36) (aQ [aI 2 (.move (aN 0)),
 aI 3 (.move (aN 3))] (.ret)) (.skip))) (aQ [aM 37 5, aM 38 6, aI 39 (.bin .add .other false (aT 38) (.av (.str [48, 48, 48]))),
 aI 40 (.slice .str (aT 39) none (some (aN 3))), aI 41 (.bin .add .other false (aT 37) (aT 40)), aI 42 (aC 264 [(aT 41)]), aM 8 42]
 (.seq (aQ [aM 43 6, aI 44 (.len .str (aT 43)), aI 45 (aB .gtr (aT 44) (aN 3)), aM 46 45, aG 47 46 true (aV 6),
 aG 48 46 true (.indexStr (aT 47) (aN 3)), aG 49 46 true (.bin .geq .other false (aT 48) (.av (.int .u8 53))), aI 50 (.pick (aT 46) (aT 49) (.av (.bool false)))]
 (.cond (aT 50) (aR [aM 51 8, aI 52 (aB .add (aT 51) (aN 1)), aM 8 52]) (.skip))) (.seq (aQ [aM 53 4] (.cond (aT 53) (aR [aM 54 8,
 aI 55 (.un .neg true (aT 54)), aM 8 55]) (.skip))) (aQ [aM 56 8, aI 57 (aC 176 [(aT 56)]), aI 58 (aE 57 0),
 aI 59 (aE 57 1), aM 2 58, aM 3 59] (.ret)))))))))⟩
def ac242 : AF := ⟨9, [.tmp 4], aQ [aI 4 (.move (.av (.bool false)))] (aQ [aM 5 0, aM 6 1, aI 7 (aC 265 [(aT 5), (aT 6)]),
 aI 8 (aB .geq (aT 7) (aN 0)), aM 4 8] (.ret))⟩
def ac243 : AF := ⟨23, [.tmp 2], aQ [aI 2 (.move (aN 0))] (aQ [aI 3 (.move (aN 0))] (.seq (.block 0 (.loop (.seq (aQ [aM 4 3, aM 5 0,
 aI 6 (.len .str (aT 5)), aI 7 (aB .lss (aT 4) (aT 6)), aM 8 7, aG 9 8 true (aV 0), aG 10 8 true (aV 3), aG 11 8 true (.indexStr (aT 9) (aT 10)),
 aG 12 8 true (.bin .geq .other false (aT 11) (.av (.int .u8 48))), aI 13 (.pick (aT 8) (aT 12) (.av (.bool false))), aM 14 13, aG 15 14 true (aV 0),
 aG 16 14 true (aV 3), aG 17 14 true (.indexStr (aT 15) (aT 16)), aG 18 14 true (.bin .leq .other false (aT 17) (.av (.int .u8 57))),
 aI 19 (.pick (aT 14) (aT 18) (.av (.bool false)))] (.cond (aT 19) (.skip) (.exit 0))) (.block 1 (aR [aM 20 3, aI 21 (aB .add (aT 20) (aN 1)),
 aM 3 21]))))) (aQ [aM 22 3, aM 2 22] (.ret))))⟩
def ac244 : AF := ⟨70, [.cell 4 (some 6), .tmp 5, .tmp 6], aQ [aI 3 (.box 143 (aT 1)),
 aI 4 (.alloc 26 [(.int .i64 0), (.int .i64 0), (.int .i64 0), (.str []), (.lit (.slice none 0 0)), (.lit (.slice none 0 0))]), aI 5 (.move (aN 0)), aI 6 (.move (aN 0))]
 (aQ [aI 11 (aF 1 3), aI 12 (aL 11),
 aI 13 (.build [(.int .i64 0), (.int .i64 0), (.int .i64 0), (.str []), (.lit (.slice none 0 0)), (.lit (.slice none 0 0))] [(0, 1, (aN 2)), (2, 1, (aT 12))]),
 aI 7 (.alloc 26 [(.int .i64 0), (.int .i64 0), (.int .i64 0), (.str []), (.lit (.slice none 0 0)), (.lit (.slice none 0 0))]), aJ (.store 6 (aT 7) (aT 13))]
 (.seq (aQ [aI 14 (aF 3 3), aI 15 (aL 14)] (.cond (aT 15) (aR [aI 16 (aF 1 7), aJ (.store 1 (aT 16) (aN 1))])
 (.skip))) (.seq (aQ [aI 17 (aK 6 3), aI 18 (aC 266 [(aT 17)]), aI 19 (.un .not false (aT 18))] (.cond (aT 19)
 (.seq (.region [aI 20 (aK 6 7), aI 21 (aF 5 3), aI 22 (.loadA none (aT 21) [(aT 4)]), aJ (.storeA 6 (aT 4) (aT 20) (aT 4) []), aM 5 22,
 aI 6 (.move (aN 0))] true) (.ret)) (.skip))) (aQ [aM 24 0, aI 25 (aF 5 3), aI 26 (aL 25),
 aI 27 (aC 88 [(aT 24), (aT 26)]), aM 23 27, aI 28 (aE 23 0), aI 29 (aE 23 1),
 aI 8 (.alloc 143 [(.int .i64 0), (.int .i64 0), (.str []), (.bool false), (.int .i64 0), (.int .i64 0)]), aJ (.store 6 (aT 8) (aT 28)), aM 9 29]
 (.seq (aQ [aM 30 9, aI 31 (aB .neq (aT 30) (aN 0)), aM 32 31, aG 33 32 false (aK 6 8),
 aG 34 32 false (aC 266 [(aT 33)]), aG 35 32 false (.un .not false (aT 34)), aI 36 (.pick (aT 32) (.av (.bool true)) (aT 35))] (.cond (aT 36)
 (.seq (.region [aI 37 (aK 6 7), aI 38 (aF 5 3), aI 39 (.loadA none (aT 38) [(aT 4)]), aJ (.storeA 6 (aT 4) (aT 37) (aT 4) []), aM 5 39,
 aI 6 (.move (aN 0))] true) (.ret)) (.skip))) (aQ [aM 41 0, aI 42 (aF 5 8), aI 43 (aL 42),
 aI 44 (aC 88 [(aT 41), (aT 43)]), aM 40 44, aI 45 (aE 40 0), aI 46 (aE 40 1),
 aI 10 (.alloc 143 [(.int .i64 0), (.int .i64 0), (.str []), (.bool false), (.int .i64 0), (.int .i64 0)]), aJ (.store 6 (aT 10) (aT 45)), aM 9 46]
 (.seq (aQ [aM 47 9, aI 48 (aB .neq (aT 47) (aN 0)), aM 49 48, aG 50 49 false (aF 0 10), aG 51 49 false (aL 50),
 aG 52 49 false (aB .neq (aT 51) (aN 8)), aI 53 (.pick (aT 49) (.av (.bool true)) (aT 52)), aM 54 53, aG 55 54 false (aF 2 10),
 aG 56 54 false (aL 55), aG 57 54 false (.bin .neq .other false (aT 56) (.av (.str [82]))), aI 58 (.pick (aT 54) (.av (.bool true)) (aT 57))] (.cond (aT 58)
 (.seq (.region [aI 59 (aK 6 7), aI 60 (aF 5 3), aI 61 (.loadA none (aT 60) [(aT 4)]), aJ (.storeA 6 (aT 4) (aT 59) (aT 4) []), aM 5 61,
 aI 6 (.move (aN 0))] true) (.ret)) (.skip))) (.seq (.region [aI 62 (aF 1 3), aI 63 (aL 62), aI 64 (aB .quo (aT 63) (aN 1000)),
 aI 65 (aF 1 8), aI 66 (aL 65),
 aI 67 (.build [(.int .i64 0), (.int .i64 0), (.int .i64 0), (.str []), (.lit (.slice none 0 0)), (.lit (.slice none 0 0))] [(0, 1, (aN 7)), (1, 1, (aT 64)), (2, 1, (aT 66))]),
 aI 68 (aF 5 10), aI 69 (.loadA none (aT 68) [(aT 4)]), aJ (.storeA 6 (aT 4) (aT 67) (aT 4) []), aM 5 69, aI 6 (.move (aN 0))] true) (.ret)))))))))⟩
def ac245 : AF := ⟨60, [.cell 6 (some 6), .tmp 7, .tmp 8],
 aQ [aI 6 (.alloc 26 [(.int .i64 0), (.int .i64 0), (.int .i64 0), (.str []), (.lit (.slice none 0 0)), (.lit (.slice none 0 0))]), aI 7 (.move (aN 0)),
 aI 8 (.move (aN 0))]
 (aQ [aI 14 (.build [(.int .i64 0), (.int .i64 0), (.int .i64 0), (.str []), (.lit (.slice none 0 0)), (.lit (.slice none 0 0))] [(0, 1, (aN 5))]),
 aI 9 (.alloc 26 [(.int .i64 0), (.int .i64 0), (.int .i64 0), (.str []), (.lit (.slice none 0 0)), (.lit (.slice none 0 0))]), aJ (.store 6 (aT 9) (aT 14))] (.block 0
 (.loop (.block 1 (aQ [aM 16 0, aM 17 1, aI 18 (aC 88 [(aT 16), (aT 17)]), aM 15 18, aI 19 (aE 15 0),
 aI 20 (aE 15 1), aI 10 (.alloc 143 [(.int .i64 0), (.int .i64 0), (.str []), (.bool false), (.int .i64 0), (.int .i64 0)]), aJ (.store 6 (aT 10) (aT 19)),
 aM 11 20] (.seq (aQ [aM 21 11, aI 22 (aB .neq (aT 21) (aN 0))] (.cond (aT 22)
 (aQ [aI 23 (.build [(.int .i64 0), (.int .i64 0), (.int .i64 0), (.str []), (.lit (.slice none 0 0)), (.lit (.slice none 0 0))] []), aM 24 11,
 aJ (.store 6 (aT 6) (aT 23)), aI 7 (.move (aN 0)), aM 8 24] (.ret)) (.skip))) (.seq (aQ [aI 25 (aF 0 10), aI 26 (aL 25),
 aI 27 (aB .eql (aT 26) (aN 5))] (.cond (aT 27) (.seq (.region [aI 28 (aK 6 9), aI 29 (aF 5 10),
 aI 30 (.loadA none (aT 29) [(aT 6)]), aJ (.storeA 6 (aT 6) (aT 28) (aT 6) []), aM 7 30, aI 8 (.move (aN 0))] true) (.ret)) (.skip)))
 (.seq (aQ [aI 31 (aF 4 9), aI 32 (aL 31), aI 33 (.len (.slice 6) (aT 32)), aI 34 (aB .eql (aT 33) (aN 1024)), aM 35 34,
 aG 36 35 true (aF 0 10), aG 37 35 true (aL 36), aG 38 35 true (aB .neq (aT 37) (aN 0)),
 aI 39 (.pick (aT 35) (aT 38) (.av (.bool false)))] (.cond (aT 39)
 (aQ [aI 40 (.build [(.int .i64 0), (.int .i64 0), (.int .i64 0), (.str []), (.lit (.slice none 0 0)), (.lit (.slice none 0 0))] []), aJ (.store 6 (aT 6) (aT 40)),
 aI 7 (.move (aN 0)), aI 8 (.move (aN 6))] (.ret)) (.skip))) (aQ [aM 42 0, aM 43 1, aM 44 2,
 aI 45 (aC 211 [(aT 42), (aT 43), (aT 44)]), aM 41 45, aI 46 (aE 41 0), aI 47 (aE 41 1), aI 48 (aE 41 2),
 aI 12 (.alloc 26 [(.int .i64 0), (.int .i64 0), (.int .i64 0), (.str []), (.lit (.slice none 0 0)), (.lit (.slice none 0 0))]), aJ (.store 6 (aT 12) (aT 46)), aM 13 47,
 aM 11 48] (.seq (aQ [aM 49 11, aI 50 (aB .neq (aT 49) (aN 0))] (.cond (aT 50)
 (aQ [aI 51 (.build [(.int .i64 0), (.int .i64 0), (.int .i64 0), (.str []), (.lit (.slice none 0 0)), (.lit (.slice none 0 0))] []), aM 52 11,
 aJ (.store 6 (aT 6) (aT 51)), aI 7 (.move (aN 0)), aM 8 52] (.ret)) (.skip))) (aQ [aI 53 (aF 4 9), aI 54 (aL 53),
 aI 55 (aK 6 12),
 aI 56 (.buildSlice false 26 6 1 [(.int .i64 0), (.int .i64 0), (.int .i64 0), (.str []), (.lit (.slice none 0 0)), (.lit (.slice none 0 0))] [(0, (aT 55))]),
 aI 57 (.append 26 6 88 [(.int .i64 0), (.int .i64 0), (.int .i64 0), (.str []), (.lit (.slice none 0 0)), (.lit (.slice none 0 0))] (aT 54) (aT 56)), aI 58 (aF 4 9),
 aJ (.store 1 (aT 58) (aT 57))] (aR [aM 59 13, aM 1 59]))))))))))))⟩
def ac246 : AF := ⟨69, [.cell 6 (some 6), .tmp 7, .tmp 8],
 aQ [aI 6 (.alloc 26 [(.int .i64 0), (.int .i64 0), (.int .i64 0), (.str []), (.lit (.slice none 0 0)), (.lit (.slice none 0 0))]), aI 7 (.move (aN 0)),
 aI 8 (.move (aN 0))]
 (aQ [aI 15 (.build [(.int .i64 0), (.int .i64 0), (.int .i64 0), (.str []), (.lit (.slice none 0 0)), (.lit (.slice none 0 0))] [(0, 1, (aN 6))]),
 aI 9 (.alloc 26 [(.int .i64 0), (.int .i64 0), (.int .i64 0), (.str []), (.lit (.slice none 0 0)), (.lit (.slice none 0 0))]), aJ (.store 6 (aT 9) (aT 15))]
 (aQ [aI 10 (.move (aN 0))] (.block 0 (.loop (.seq (.block 1 (aQ [aM 19 0, aM 20 1, aI 21 (aC 88 [(aT 19), (aT 20)]),
 aM 18 21, aI 22 (aE 18 0), aI 23 (aE 18 1), aI 11 (.alloc 143 [(.int .i64 0), (.int .i64 0), (.str []), (.bool false), (.int .i64 0), (.int .i64 0)]),
 aJ (.store 6 (aT 11) (aT 22)), aM 12 23] (.seq (.block 2 (aQ [aM 25 12, aI 26 (aB .neq (aT 25) (aN 0)), aM 24 26] (.cond (aT 24)
 (aQ [aI 27 (.build [(.int .i64 0), (.int .i64 0), (.int .i64 0), (.str []), (.lit (.slice none 0 0)), (.lit (.slice none 0 0))] []), aM 28 12,
 aJ (.store 6 (aT 6) (aT 27)), aI 7 (.move (aN 0)), aM 8 28] (.ret)) (aQ [aI 30 (aF 0 11), aI 31 (aL 30),
 aI 32 (aB .eql (aT 31) (aN 7)), aM 29 32] (.cond (aT 29) (.seq (.region [aI 33 (aK 6 9), aI 34 (aF 5 11),
 aI 35 (.loadA none (aT 34) [(aT 6)]), aJ (.storeA 6 (aT 6) (aT 33) (aT 6) []), aM 7 35, aI 8 (.move (aN 0))] true) (.ret)) (aQ [aI 37 (aF 0 11),
 aI 38 (aL 37), aI 39 (aB .eql (aT 38) (aN 0)), aM 36 39] (.cond (aT 36)
 (aQ [aI 40 (.build [(.int .i64 0), (.int .i64 0), (.int .i64 0), (.str []), (.lit (.slice none 0 0)), (.lit (.slice none 0 0))] []), aJ (.store 6 (aT 6) (aT 40)),
 aI 7 (.move (aN 0)), aI 8 (.move (aN 4))] (.ret)) (aQ [aM 42 10, aI 43 (aB .eql (aT 42) (aN 1024)), aM 41 43] (.cond (aT 41)
 (aQ [aI 44 (.build [(.int .i64 0), (.int .i64 0), (.int .i64 0), (.str []), (.lit (.slice none 0 0)), (.lit (.slice none 0 0))] []), aJ (.store 6 (aT 6) (aT 44)),
 aI 7 (.move (aN 0)), aI 8 (.move (aN 6))] (.ret)) (aQ [aI 46 (aF 0 11), aI 47 (aL 46), aI 48 (aB .neq (aT 47) (aN 2)),
 aM 45 48] (.cond (aT 45) (aQ [aI 49 (.build [(.int .i64 0), (.int .i64 0), (.int .i64 0), (.str []), (.lit (.slice none 0 0)), (.lit (.slice none 0 0))] []),
 aJ (.store 6 (aT 6) (aT 49)), aI 7 (.move (aN 0)), aI 8 (.move (aN 3))] (.ret)) (.skip)))))))))))) (aQ [aM 51 0, aI 52 (aF 5 11),
 aI 53 (aL 52), aM 54 2, aI 55 (aC 211 [(aT 51), (aT 53), (aT 54)]), aM 50 55, aI 56 (aE 50 0), aI 57 (aE 50 1),
 aI 58 (aE 50 2), aI 13 (.alloc 26 [(.int .i64 0), (.int .i64 0), (.int .i64 0), (.str []), (.lit (.slice none 0 0)), (.lit (.slice none 0 0))]),
 aJ (.store 6 (aT 13) (aT 56)), aM 14 57, aM 12 58] (.seq (aQ [aM 59 12, aI 60 (aB .neq (aT 59) (aN 0))] (.cond (aT 60)
 (aQ [aI 61 (.build [(.int .i64 0), (.int .i64 0), (.int .i64 0), (.str []), (.lit (.slice none 0 0)), (.lit (.slice none 0 0))] []), aM 62 12,
 aJ (.store 6 (aT 6) (aT 61)), aI 7 (.move (aN 0)), aM 8 62] (.ret)) (.skip))) (aQ [aI 63 (aK 6 9), aI 64 (aF 2 11),
 aI 65 (aL 64), aI 66 (aK 6 13), aI 67 (aC 59 [(aT 63), (aT 65), (aT 66)]), aJ (.store 6 (aT 9) (aT 67))]
 (aR [aM 68 14, aM 1 68]))))))) (aR [aM 16 10, aI 17 (aB .add (aT 16) (aN 1)), aM 10 17]))))))⟩
def ac248 : AF := ⟨21, [.tmp 4], aQ [aI 4 (.move (.av (.bool false)))] (aQ [aM 5 0, aI 6 (.len .str (aT 5)), aM 7 1, aI 8 (.len .str (aT 7)),
 aI 9 (aB .geq (aT 6) (aT 8)), aM 10 9, aG 11 10 true (aV 0), aG 12 10 true (aV 0), aG 13 10 true (.len .str (aT 12)), aG 14 10 true (aV 1),
 aG 15 10 true (.len .str (aT 14)), aG 16 10 true (aB .sub (aT 13) (aT 15)), aG 17 10 true (.slice .str (aT 11) (some (aT 16)) none), aG 18 10 true (aV 1),
 aG 19 10 true (.bin .eql .other false (aT 17) (aT 18)), aI 20 (.pick (aT 10) (aT 19) (.av (.bool false))), aM 4 20] (.ret))⟩
def ac249 : AF := ⟨10, [.tmp 4], aQ [aI 4 (.move (.av (.bool false)))] (aQ [aM 5 0, aM 6 1, aI 7 (.nilCheck (aT 5)),
 aI 8 (.indexAddr (some 256) 1 (aT 7) (aT 6)), aI 9 (aL 8), aM 4 9] (.ret))⟩
def ac259 : AF := ⟨13, [.tmp 4, .tmp 5, .tmp 6], aQ [aI 4 (.move (.av (.str []))), aI 5 (.move (.av (.str []))), aI 6 (.move (.av (.bool false)))]
 (aQ [aM 7 0, aM 8 1, aI 9 (aC 273 [(aT 7), (aT 8)]), aI 10 (aE 9 0), aI 11 (aE 9 1), aI 12 (aE 9 2),
 aM 4 10, aM 5 11, aM 6 12] (.ret))⟩
def ac260 : AF := ⟨31, [.tmp 2, .tmp 3], aQ [aI 2 (.move (.av (.int .u8 0))), aI 3 (.move (.av (.bool false)))] (.seq (aQ [aM 8 0,
 aI 9 (.len .str (aT 8)), aI 10 (aB .lss (aT 9) (aN 2))] (.cond (aT 10) (aQ [aI 2 (.move (.av (.int .u8 0))),
 aI 3 (.move (.av (.bool false)))] (.ret)) (.skip))) (aQ [aM 12 0, aI 13 (.indexStr (aT 12) (aN 0)), aI 14 (aC 240 [(aT 13)]),
 aM 11 14, aI 15 (aE 11 0), aI 16 (aE 11 1), aM 4 15, aM 5 16] (aQ [aM 18 0, aI 19 (.indexStr (aT 18) (aN 1)),
 aI 20 (aC 240 [(aT 19)]), aM 17 20, aI 21 (aE 17 0), aI 22 (aE 17 1), aM 6 21, aM 7 22] (aQ [aM 23 4,
 aI 24 (.bin .shl .other false (aT 23) (.av (.int .u64 4))), aM 25 6, aI 26 (.bin .or .other false (aT 24) (aT 25)), aM 27 5, aM 28 27, aG 29 28 true (aV 7),
 aI 30 (.pick (aT 28) (aT 29) (.av (.bool false))), aM 2 26, aM 3 30] (.ret)))))⟩
def ac261 : AF := ⟨36, [.tmp 2, .tmp 3], aQ [aI 2 (.move (.av (.int .u8 0))), aI 3 (.move (aN 0))] (aQ [aI 4 (.move (aN 0)), aI 5 (.move (aN 0))]
 (.seq (.block 0 (.loop (.seq (aQ [aM 6 4, aM 7 0, aI 8 (.len .str (aT 7)), aI 9 (.minmax false [(aT 8), (aN 3)]), aI 10 (aB .lss (aT 6) (aT 9)),
 aM 11 10, aG 12 11 true (aV 0), aG 13 11 true (aV 4), aG 14 11 true (.indexStr (aT 12) (aT 13)),
 aG 15 11 true (.bin .geq .other false (aT 14) (.av (.int .u8 48))), aI 16 (.pick (aT 11) (aT 15) (.av (.bool false))), aM 17 16, aG 18 17 true (aV 0),
 aG 19 17 true (aV 4), aG 20 17 true (.indexStr (aT 18) (aT 19)), aG 21 17 true (.bin .leq .other false (aT 20) (.av (.int .u8 55))),
 aI 22 (.pick (aT 17) (aT 21) (.av (.bool false)))] (.cond (aT 22) (.skip) (.exit 0))) (.block 1 (aQ [aM 23 5,
 aI 24 (aB .shl (aT 23) (.av (.int .u64 3))), aM 25 0, aM 26 4, aI 27 (.indexStr (aT 25) (aT 26)), aI 28 (.bin .sub .other false (aT 27) (.av (.int .u8 48))),
 aI 29 (.conv (.int .i64) (aT 28)), aI 30 (aB .or (aT 24) (aT 29)), aM 5 30] (aR [aM 31 4, aI 32 (aB .add (aT 31) (aN 1)),
 aM 4 32])))))) (aQ [aM 33 5, aI 34 (.conv (.int .u8) (aT 33)), aM 35 4, aM 2 34, aM 3 35] (.ret))))⟩
def ac262 : AF := ⟨15, [.tmp 2, .tmp 3], aQ [aI 2 (.move (.av (.str []))), aI 3 (.move (.av (.bool false)))] (.seq (aQ [aM 7 0,
 aI 8 (aC 152 [(aT 7), (.av (.str [45]))]), aM 6 8, aI 9 (aE 6 0), aI 10 (aE 6 1), aM 4 9, aM 5 10]
 (aQ [aM 11 5] (.cond (aT 11) (aQ [aM 12 4, aM 2 12, aI 3 (.move (.av (.bool true)))] (.ret)) (.skip)))) (aQ [aM 13 0,
 aI 14 (aC 274 [(aT 13), (.av (.str [43]))]), aM 2 14, aI 3 (.move (.av (.bool false)))] (.ret)))⟩
def ac263 : AF := ⟨6, [.tmp 2], aQ [aI 2 (.move (.av (.bool false)))] (aQ [aM 3 0,
 aI 4 (aC 275 [(aT 3), (.av (.str [48, 49, 50, 51, 52, 53, 54, 55, 56, 57]))]), aI 5 (.bin .eql .other false (aT 4) (.av (.str []))), aM 2 5]
 (.ret))⟩
def ac264 : AF := ⟨21, [.tmp 2], aQ [aI 2 (.move (aN 0))] (aQ [aI 3 (.move (aN 0))] (.seq (aQ [aM 5 0, aI 6 (.len .str (aT 5)),
 aI 7 (.move (aN 0))] (.block 0 (.loop (aQ [aI 8 (aB .lss (aT 7) (aT 6))] (.seq (.cond (aT 8) (.skip) (.exit 0)) (.seq (.block 1
 (aQ [aM 9 7, aM 4 9] (aR [aM 10 3, aI 11 (aB .mul (aT 10) (aN 10)), aM 12 0, aM 13 4, aI 14 (.indexStr (aT 12) (aT 13)),
 aI 15 (.bin .sub .other false (aT 14) (.av (.int .u8 48))), aI 16 (.conv (.int .i64) (aT 15)), aI 17 (aB .add (aT 11) (aT 16)),
 aI 18 (.minmax false [(aT 17), (aN 1099511627776)]), aM 3 18]))) (aR [aI 19 (aB .add (aT 7) (aN 1)), aM 7 19]))))))) (aQ [aM 20 3,
 aM 2 20] (.ret))))⟩
def ac265 : AF := ⟨8, [.tmp 4], aQ [aI 4 (.move (aN 0))] (aQ [aM 5 0, aM 6 1, aI 7 (aC 276 [(aT 5), (aT 6)]),
 aM 4 7] (.ret))⟩
def ac266 : AF := ⟨15, [.tmp 2], aQ [aI 1 (.box 143 (aT 0)), aI 2 (.move (.av (.bool false)))] (aQ [aI 3 (aF 0 1),
 aI 4 (aL 3), aI 5 (aB .eql (aT 4) (aN 1)), aM 6 5, aG 7 6 true (aF 3 1), aG 8 6 true (aL 7),
 aI 9 (.pick (aT 6) (aT 8) (.av (.bool false))), aM 10 9, aG 11 10 true (aF 1 1), aG 12 10 true (aL 11),
 aG 13 10 true (aB .geq (aT 12) (aN 0)), aI 14 (.pick (aT 10) (aT 13) (.av (.bool false))), aM 2 14] (.ret))⟩
def ac273 : AF := ⟨23, [.tmp 4, .tmp 5, .tmp 6], aQ [aI 4 (.move (.av (.str []))), aI 5 (.move (.av (.str []))), aI 6 (.move (.av (.bool false)))]
 (.seq (aQ [aM 8 0, aM 9 1, aI 10 (aC 276 [(aT 8), (aT 9)]), aM 7 10] (aQ [aM 11 7,
 aI 12 (aB .geq (aT 11) (aN 0))] (.cond (aT 12) (.seq (.region [aM 13 0, aM 14 7, aI 15 (.slice .str (aT 13) none (some (aT 14))), aM 16 0, aM 17 7, aM 18 1,
 aI 19 (.len .str (aT 18)), aI 20 (aB .add (aT 17) (aT 19)), aI 21 (.slice .str (aT 16) (some (aT 20)) none), aM 4 15, aM 5 21,
 aI 6 (.move (.av (.bool true)))] true) (.ret)) (.skip)))) (aQ [aM 22 0, aM 4 22, aI 5 (.move (.av (.str []))), aI 6 (.move (.av (.bool false)))] (.ret)))⟩
def ac274 : AF := ⟨8, [.tmp 4], aQ [aI 4 (.move (.av (.str [])))] (aQ [aM 5 0, aM 6 1, aI 7 (aC 281 [(aT 5), (aT 6)]),
 aM 4 7] (.ret))⟩
def ac275 : AF := ⟨43, [.tmp 4], aQ [aI 4 (.move (.av (.str [])))] (.seq (aQ [aM 7 0, aI 8 (.bin .eql .other false (aT 7) (.av (.str []))), aM 9 8,
 aG 10 9 false (aV 1), aG 11 9 false (.bin .eql .other false (aT 10) (.av (.str []))), aI 12 (.pick (aT 9) (.av (.bool true)) (aT 11))] (.cond (aT 12)
 (aQ [aM 13 0, aM 4 13] (.ret)) (.skip))) (.seq (aQ [aM 14 1, aI 15 (.len .str (aT 14)), aI 16 (aB .eql (aT 15) (aN 1)), aM 17 16,
 aG 18 17 true (aV 1), aG 19 17 true (.indexStr (aT 18) (aN 0)), aG 20 17 true (.bin .lss .other false (aT 19) (.av (.int .u8 128))),
 aI 21 (.pick (aT 17) (aT 20) (.av (.bool false)))] (.cond (aT 21) (.seq (.region [aM 22 0, aM 23 1, aI 24 (.indexStr (aT 23) (aN 0)),
 aI 25 (aC 217 [(aT 22), (aT 24)]), aM 26 1, aI 27 (.indexStr (aT 26) (aN 0)), aI 28 (aC 282 [(aT 25), (aT 27)]),
 aM 4 28] true) (.ret)) (.skip))) (.seq (aQ [aM 30 1, aI 31 (aC 218 [(aT 30)]), aM 29 31, aI 32 (aE 29 0),
 aI 33 (aE 29 1), aI 5 (.alloc 241 (List.replicate 256 (.bool false))), aJ (.store 256 (aT 5) (aT 32)), aM 6 33] (aQ [aM 34 6] (.cond (aT 34)
 (aQ [aM 35 0, aI 36 (aC 219 [(aT 35), (aT 5)]), aI 37 (aC 283 [(aT 36), (aT 5)]), aM 4 37] (.ret))
 (.skip)))) (aQ [aM 38 0, aM 39 1, aI 40 (aC 220 [(aT 38), (aT 39)]), aM 41 1,
 aI 42 (aC 284 [(aT 40), (aT 41)]), aM 4 42] (.ret)))))⟩
def ac276 : AF := ⟨143, [.tmp 4], aQ [aI 4 (.move (aN 0))] (aQ [aM 14 1, aI 15 (.len .str (aT 14)), aM 5 15] (.seq (.block 0
 (aQ [aM 17 5, aI 18 (aB .eql (aT 17) (aN 0)), aM 19 18, aG 20 19 false (aV 1), aG 21 19 false (aV 0),
 aG 22 19 false (.bin .eql .other false (aT 20) (aT 21)), aI 23 (.pick (aT 19) (.av (.bool true)) (aT 22)), aM 16 23] (.cond (aT 16)
 (aQ [aI 4 (.move (aN 0))] (.ret)) (aQ [aM 25 5, aI 26 (aB .eql (aT 25) (aN 1)), aM 24 26] (.cond (aT 24)
 (aQ [aM 27 0, aM 28 1, aI 29 (.indexStr (aT 28) (aN 0)), aI 30 (aC 214 [(aT 27), (aT 29)]), aM 4 30] (.ret))
 (aQ [aM 32 5, aM 33 0, aI 34 (.len .str (aT 33)), aI 35 (aB .geq (aT 32) (aT 34)), aM 31 35] (.cond (aT 31)
 (aQ [aI 4 (.move (aN (-1)))] (.ret)) (aQ [aM 37 5, ⟨(some 38), .load none (.av (.lit (.pointer (some ⟨0, 0, none⟩)))), none, false⟩,
 aI 39 (aB .leq (aT 37) (aT 38)), aM 40 39, aG 41 40 true (aV 0), aG 42 40 true (.len .str (aT 41)), aG 43 40 true (aB .leq (aT 42) (aN 64)),
 aI 44 (.pick (aT 40) (aT 43) (.av (.bool false))), aM 36 44] (.cond (aT 36) (aQ [aM 45 0, aM 46 1,
 aI 47 (aC 280 [(aT 45), (aT 46)]), aM 4 47] (.ret)) (.skip)))))))))) (aQ [aM 48 1, aI 49 (.indexStr (aT 48) (aN 0)),
 aM 6 49] (aQ [aM 50 1, aI 51 (.indexStr (aT 50) (aN 1)), aM 7 51] (aQ [aI 8 (.move (aN 0))] (aQ [aM 52 0,
 aI 53 (.len .str (aT 52)), aM 54 5, aI 55 (aB .sub (aT 53) (aT 54)), aI 56 (aB .add (aT 55) (aN 1)), aM 9 56]
 (aQ [aI 10 (.move (aN 0))] (.seq (.block 1 (.loop (.seq (aQ [aM 57 8, aM 58 9, aI 59 (aB .lss (aT 57) (aT 58))] (.cond (aT 59)
 (.skip) (.exit 1))) (.block 2 (.seq (aQ [aM 60 0, aM 61 8, aI 62 (.indexStr (aT 60) (aT 61)), aM 63 6, aI 64 (.bin .neq .other false (aT 62) (aT 63))]
 (.cond (aT 64) (aQ [aM 65 0, aM 66 8, aI 67 (aB .add (aT 66) (aN 1)), aM 68 9, aI 69 (.slice .str (aT 65) (some (aT 67)) (some (aT 68))), aM 70 6,
 aI 71 (aC 214 [(aT 69), (aT 70)]), aM 11 71] (.seq (aQ [aM 72 11, aI 73 (aB .lss (aT 72) (aN 0))]
 (.cond (aT 73) (aQ [aI 4 (.move (aN (-1)))] (.ret)) (.skip))) (aR [aM 74 8, aM 75 11, aI 76 (aB .add (aT 75) (aN 1)),
 aI 77 (aB .add (aT 74) (aT 76)), aM 8 77]))) (.skip))) (.seq (aQ [aM 78 0, aM 79 8, aI 80 (aB .add (aT 79) (aN 1)),
 aI 81 (.indexStr (aT 78) (aT 80)), aM 82 7, aI 83 (.bin .eql .other false (aT 81) (aT 82)), aM 84 83, aG 85 84 true (aV 0), aG 86 84 true (aV 8),
 aG 87 84 true (aV 8), aG 88 84 true (aV 5), aG 89 84 true (aB .add (aT 87) (aT 88)),
 aG 90 84 true (.slice .str (aT 85) (some (aT 86)) (some (aT 89))), aG 91 84 true (aV 1), aG 92 84 true (.bin .eql .other false (aT 90) (aT 91)),
 aI 93 (.pick (aT 84) (aT 92) (.av (.bool false)))] (.cond (aT 93) (aQ [aM 94 8, aM 4 94] (.ret)) (.skip))) (aQ [aM 95 8,
 aI 96 (aB .add (aT 95) (aN 1)), aM 8 96] (aQ [aM 97 10, aI 98 (aB .add (aT 97) (aN 1)), aM 10 98] (aQ [aM 99 5,
 ⟨(some 100), .load none (.av (.lit (.pointer (some ⟨0, 0, none⟩)))), none, false⟩, aI 101 (aB .leq (aT 99) (aT 100)), aM 102 101, aG 103 102 true (aV 10),
 aG 104 102 true (aV 8), aG 105 102 true (aC 279 [(aT 104)]), aG 106 102 true (aB .gtr (aT 103) (aT 105)),
 aI 107 (.pick (aT 102) (aT 106) (.av (.bool false)))] (.cond (aT 107) (aQ [aM 108 0, aM 109 8, aI 110 (.slice .str (aT 108) (some (aT 109)) none), aM 111 1,
 aI 112 (aC 280 [(aT 110), (aT 111)]), aM 12 112] (.seq (aQ [aM 113 12, aI 114 (aB .geq (aT 113) (aN 0))]
 (.cond (aT 114) (aQ [aM 115 12, aM 116 8, aI 117 (aB .add (aT 115) (aT 116)), aM 4 117] (.ret)) (.skip)))
 (aQ [aI 4 (.move (aN (-1)))] (.ret)))) (aQ [aM 118 5, ⟨(some 119), .load none (.av (.lit (.pointer (some ⟨0, 0, none⟩)))), none, false⟩,
 aI 120 (aB .gtr (aT 118) (aT 119)), aM 121 120, aG 122 121 true (aV 10), aG 123 121 true (aV 8),
 aG 124 121 true (aB .shr (aT 123) (.av (.int .u64 4))), aG 125 121 true (aB .add (aN 4) (aT 124)),
 aG 126 121 true (aB .geq (aT 122) (aT 125)), aI 127 (.pick (aT 121) (aT 126) (.av (.bool false))), aM 128 127, aG 129 128 true (aV 8),
 aG 130 128 true (aV 9), aG 131 128 true (aB .lss (aT 129) (aT 130)), aI 132 (.pick (aT 128) (aT 131) (.av (.bool false)))] (.cond (aT 132)
 (aQ [aM 133 0, aM 134 8, aI 135 (.slice .str (aT 133) (some (aT 134)) none), aM 136 1, aI 137 (aC 285 [(aT 135), (aT 136)]),
 aM 13 137] (.seq (aQ [aM 138 13, aI 139 (aB .lss (aT 138) (aN 0))] (.cond (aT 139) (aQ [aI 4 (.move (aN (-1)))] (.ret))
 (.skip))) (aQ [aM 140 8, aM 141 13, aI 142 (aB .add (aT 140) (aT 141)), aM 4 142] (.ret)))) (.skip)))))))))))))
 (aQ [aI 4 (.move (aN (-1)))] (.ret))))))))))⟩
def ac281 : AF := ⟨13, [.tmp 4], aQ [aI 4 (.move (.av (.str [])))] (.seq (aQ [aM 5 0, aM 6 1,
 aI 7 (aC 231 [(aT 5), (aT 6)])] (.cond (aT 7) (aQ [aM 8 0, aM 9 1, aI 10 (.len .str (aT 9)),
 aI 11 (.slice .str (aT 8) (some (aT 10)) none), aM 4 11] (.ret)) (.skip))) (aQ [aM 12 0, aM 4 12] (.ret)))⟩
def ac283 : AF := ⟨16, [.tmp 4], aQ [aI 4 (.move (.av (.str [])))] (.seq (.block 0 (.loop (.seq (aQ [aM 5 0, aI 6 (.len .str (aT 5)),
 aI 7 (aB .gtr (aT 6) (aN 0))] (.cond (aT 7) (.skip) (.exit 0))) (.block 1 (.seq (aQ [aM 8 1, aM 9 0, aI 10 (.indexStr (aT 9) (aN 0)),
 aI 11 (aC 249 [(aT 8), (aT 10)]), aI 12 (.un .not false (aT 11))] (.cond (aT 12) (.exit 0) (.skip))) (aR [aM 13 0,
 aI 14 (.slice .str (aT 13) (some (aN 1)) none), aM 0 14])))))) (aQ [aM 15 0, aM 4 15] (.ret)))⟩
end Ink.D
