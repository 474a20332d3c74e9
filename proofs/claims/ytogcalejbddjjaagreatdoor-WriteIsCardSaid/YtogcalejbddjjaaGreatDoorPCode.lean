import Derived.Test.YtogcalejbddjjaaGreatDoorInkBB
set_option linter.all false
namespace Ink.D
open Go
abbrev aT := AOpd.tmp
abbrev aN (n : Int) : AOpd := .av (.int .i64 n)
abbrev aI (d : Nat) (o : AOp) : AO := ⟨some d, o, none, false⟩
abbrev aJ (o : AOp) : AO := ⟨none, o, none, false⟩
abbrev aM (d s : Nat) : AO := ⟨some d, .move (.tmp s), none, false⟩
abbrev aG (d g : Nat) (b : Bool) (o : AOp) : AO := ⟨some d, o, some (g, b), false⟩
abbrev aF (k n : Nat) : AOp := .fieldAddr k (.tmp n)
abbrev aL (n : Nat) : AOp := .load none (.tmp n)
abbrev aK (k n : Nat) : AOp := .load (some k) (.tmp n)
abbrev aV (n : Nat) : AOp := .move (.tmp n)
abbrev aB (o : BinOp) (x y : AOpd) : AOp := .bin o .other true x y
abbrev aQ (l : List AO) (c : AC) : AC := .seq (.region l false) c
abbrev aE (n k : Nat) : AOp := .extract (.tmp n) k
abbrev aC (n : Nat) (l : List AOpd) : AOp := .call (.av (.fn (.func n) [] [])) l
abbrev aR (l : List AO) : AC := .region l false
def ac3 : AF := ⟨73, [.tmp 6], aQ [aI 5 (.box 26 (aT 2)), aI 6 (.move (.av (.bool false)))] (aQ [aI 16 (aC 17 []),
 aM 7 16] (.seq (aQ [aI 17 (aK 6 5), aI 18 (aC 18 [(aT 17), (aN 3000)]), aI 19 (.un .not false (aT 18))]
 (.cond (aT 19) (aQ [aM 20 7, aM 6 20] (.ret)) (.skip))) (aQ [aI 22 (aK 6 5), aI 23 (aC 19 [(aT 22)]),
 aM 21 23, aI 24 (aE 21 0), aI 25 (aE 21 1), aM 8 24, aM 9 25] (aQ [aI 27 (aK 6 5),
 aI 28 (aC 20 [(aT 27)]), aM 26 28, aI 29 (aE 26 0), aI 30 (aE 26 1), aM 10 29, aM 11 30] (aQ [aM 32 0,
 aM 33 1, aI 34 (aK 6 5), aI 35 (aC 21 [(aT 32), (aT 33), (aT 34)]), aM 31 35, aI 36 (aE 31 0), aI 37 (aE 31 1),
 aM 12 36, aM 13 37] (aQ [aM 39 0, aM 40 1, aI 41 (aK 6 5), aI 42 (aC 22 [(aT 39), (aT 40), (aT 41)]), aM 38 42,
 aI 43 (aE 38 0), aI 44 (aE 38 1), aM 14 43, aM 15 44] (.seq (.region [aM 45 7, aM 46 45, aG 47 46 true (aV 8), aG 48 46 true (aV 10),
 aG 49 46 true (.bin .eql .other false (aT 47) (aT 48)), aI 50 (.pick (aT 46) (aT 49) (.av (.bool false))), aM 51 50, aG 52 51 true (aV 9), aG 53 51 true (aV 11),
 aG 54 51 true (aB .eql (aT 52) (aT 53)), aI 55 (.pick (aT 51) (aT 54) (.av (.bool false))), aM 56 55, aG 57 56 true (aV 12), aG 58 56 true (aV 14),
 aG 59 56 true (.bin .eql .other false (aT 57) (aT 58)), aI 60 (.pick (aT 56) (aT 59) (.av (.bool false))), aM 61 60, aG 62 61 true (aV 13), aG 63 61 true (aV 15),
 aG 64 61 true (aB .eql (aT 62) (aT 63)), aI 65 (.pick (aT 61) (aT 64) (.av (.bool false))), aM 66 65, aG 67 66 true (aK 6 5),
 ⟨(some 68), .call (.av (.fn (.func 23) [] [])) [(aT 67)], (some (66, true)), true⟩, aG 69 66 true (aK 6 5),
 aG 70 66 true (aC 24 [(aT 69)]), aG 71 66 true (aB .eql (aT 68) (aT 70)), aI 72 (.pick (aT 66) (aT 71) (.av (.bool false))),
 aM 6 72] true) (.ret))))))))⟩
def ac17 : AF := ⟨37, [.tmp 0], aQ [aI 0 (.move (.av (.bool false)))]
 (aQ [aI 6 (.build [(.int .i64 0), (.int .i64 0), (.int .i64 0), (.str []), (.lit (.slice none 0 0)), (.lit (.slice none 0 0))] [(0, 1, (aN 2)), (2, 1, (aN 1000)), (1, 1, (aN 1))]),
 aI 7 (.build [(.int .i64 0), (.int .i64 0), (.int .i64 0), (.str []), (.lit (.slice none 0 0)), (.lit (.slice none 0 0))] [(0, 1, (aN 3)), (3, 1, (.av (.str [65])))]),
 aI 8 (.buildSlice false 26 6 2 [(.int .i64 0), (.int .i64 0), (.int .i64 0), (.str []), (.lit (.slice none 0 0)), (.lit (.slice none 0 0))] [(0, (aT 6)), (1, (aT 7))]),
 aI 9 (.build [(.int .i64 0), (.int .i64 0), (.int .i64 0), (.str []), (.lit (.slice none 0 0)), (.lit (.slice none 0 0))] [(0, 1, (aN 5)), (4, 1, (aT 8))]),
 aI 10 (aC 19 [(aT 9)]), aM 5 10, aI 11 (aE 5 0), aI 12 (aE 5 1), aM 1 11, aM 2 12]
 (aQ [aI 14 (.build [(.int .i64 0), (.int .i64 0), (.int .i64 0), (.str []), (.lit (.slice none 0 0)), (.lit (.slice none 0 0))] []),
 aI 15 (aC 21 [(aN 1), (aN 0), (aT 14)]), aM 13 15, aI 16 (aE 13 0), aI 17 (aE 13 1), aM 3 16, aM 4 17]
 (aQ [aM 18 1, aI 19 (.bin .eql .other false (aT 18) (.av (.str [91, 49, 32, 47, 65, 93]))), aM 20 19, aG 21 20 true (aV 2),
 aG 22 20 true (aB .eql (aT 21) (aN 0)), aI 23 (.pick (aT 20) (aT 22) (.av (.bool false))), aM 24 23, aG 25 24 true (aV 3),
 aG 26 24 true (.bin .eql .other false (aT 25) (.av (.str [49, 32, 48, 32, 111, 98, 106, 10, 110, 117, 108, 108, 10, 101, 110, 100, 111, 98, 106, 10]))),
 aI 27 (.pick (aT 24) (aT 26) (.av (.bool false))), aM 28 27, aG 29 28 true (aV 4), aG 30 28 true (aB .eql (aT 29) (aN 0)),
 aI 31 (.pick (aT 28) (aT 30) (.av (.bool false))), aM 32 31,
 aG 33 32 true (.build [(.int .i64 0), (.int .i64 0), (.int .i64 0), (.str []), (.lit (.slice none 0 0)), (.lit (.slice none 0 0))] [(0, 1, (aN 9))]),
 aG 34 32 true (aC 23 [(aT 33)]), aG 35 32 true (aB .eql (aT 34) (aN 1)), aI 36 (.pick (aT 32) (aT 35) (.av (.bool false))),
 aM 0 36] (.ret))))⟩
def ac18 : AF := ⟨9, [.tmp 4], aQ [aI 2 (.box 26 (aT 0)), aI 4 (.move (.av (.bool false)))] (aQ [aI 5 (aK 6 2), aM 6 1,
 aI 7 (aC 51 [(aT 5), (aT 6), (aN 0)]), aI 8 (aB .geq (aT 7) (aN 0)), aM 4 8] (.ret))⟩
def ac19 : AF := ⟨21, [.tmp 2, .tmp 3], aQ [aI 1 (.box 26 (aT 0)), aI 2 (.move (.av (.str []))), aI 3 (.move (aN 0))] (aQ [aI 6 (aK 6 1),
 aI 7 (aC 23 [(aT 6)]), aM 4 7] (.seq (aQ [aM 8 4, aI 9 (aB .eql (aT 8) (aN 0)), aM 10 9,
 aG 11 10 true (aF 0 1), aG 12 10 true (aL 11), aG 13 10 true (aB .eql (aT 12) (aN 8)),
 aI 14 (.pick (aT 10) (aT 13) (.av (.bool false)))] (.cond (aT 14) (aR [aI 4 (.move (aN 1))]) (.skip))) (.seq (aQ [aM 15 4,
 aI 16 (aB .neq (aT 15) (aN 0))] (.cond (aT 16) (aQ [aM 17 4, aI 2 (.move (.av (.str []))), aM 3 17] (.ret)) (.skip)))
 (aQ [aI 5 (.bld 90 5)] (aQ [aI 18 (aK 6 1), aI 19 (aC 52 [(aT 5), (aT 18)])]
 (aQ [aI 20 (aC 53 [(aT 5)]), aM 2 20, aI 3 (.move (aN 0))] (.ret)))))))⟩
def ac20 : AF := ⟨19, [.tmp 2, .tmp 3], aQ [aI 1 (.box 26 (aT 0)), aI 2 (.move (.av (.str []))), aI 3 (.move (aN 0))] (aQ [aI 5 (aK 6 1),
 aI 6 (aC 24 [(aT 5)]), aM 4 6] (.seq (aQ [aM 7 4, aI 8 (aB .eql (aT 7) (aN 0)), aM 9 8,
 aG 10 9 true (aF 0 1), aG 11 9 true (aL 10), aG 12 9 true (aB .eql (aT 11) (aN 8)),
 aI 13 (.pick (aT 9) (aT 12) (.av (.bool false)))] (.cond (aT 13) (aR [aI 4 (.move (aN 1))]) (.skip))) (.seq (aQ [aM 14 4,
 aI 15 (aB .neq (aT 14) (aN 0))] (.cond (aT 15) (aQ [aM 16 4, aI 2 (.move (.av (.str []))), aM 3 16] (.ret)) (.skip)))
 (aQ [aI 17 (aK 6 1), aI 18 (aC 54 [(aT 17)]), aM 2 18, aI 3 (.move (aN 0))] (.ret)))))⟩
def ac21 : AF := ⟨40, [.tmp 6, .tmp 7], aQ [aI 5 (.box 26 (aT 2)), aI 6 (.move (.av (.str []))), aI 7 (.move (aN 0))] (.seq (aQ [aM 10 0, aM 11 1,
 aI 12 (aK 6 5), aI 13 (aC 55 [(aT 10), (aT 11), (aT 12)]), aM 8 13] (aQ [aM 14 8,
 aI 15 (aB .neq (aT 14) (aN 0))] (.cond (aT 15) (aQ [aM 16 8, aI 6 (.move (.av (.str []))), aM 7 16] (.ret)) (.skip))))
 (aQ [aI 9 (.bld 90 5)] (aQ [aM 17 0, aI 18 (aC 57 [(aT 17)]), aI 19 (.bin .add .other false (aT 18) (.av (.str [32]))),
 aM 20 1, aI 21 (aC 57 [(aT 20)]), aI 22 (.bin .add .other false (aT 19) (aT 21)),
 aI 23 (.bin .add .other false (aT 22) (.av (.str [32, 111, 98, 106, 10]))), aI 24 (aC 56 [(aT 9), (aT 23)])]
 (.seq (aQ [aI 25 (aF 0 5), aI 26 (aL 25), aI 27 (aB .eql (aT 26) (aN 8))] (.cond (aT 27)
 (aQ [aI 28 (aK 6 5), aI 29 (aC 58 [(aT 28)]), aI 30 (aC 52 [(aT 9), (aT 29)])]
 (aR [aI 31 (aF 3 5), aI 32 (aL 31), aI 33 (.bin .add .other false (.av (.str [10, 115, 116, 114, 101, 97, 109, 10])) (aT 32)),
 aI 34 (.bin .add .other false (aT 33) (.av (.str [10, 101, 110, 100, 115, 116, 114, 101, 97, 109]))), aI 35 (aC 56 [(aT 9), (aT 34)])]))
 (aR [aI 36 (aK 6 5), aI 37 (aC 52 [(aT 9), (aT 36)])])))
 (aQ [aI 38 (aC 56 [(aT 9), (.av (.str [10, 101, 110, 100, 111, 98, 106, 10]))])]
 (aQ [aI 39 (aC 53 [(aT 9)]), aM 6 39, aI 7 (.move (aN 0))] (.ret)))))))⟩
def ac22 : AF := ⟨81, [.tmp 6, .tmp 7], aQ [aI 5 (.box 26 (aT 2)), aI 6 (.move (.av (.str []))), aI 7 (.move (aN 0))] (aQ [aI 10 (aK 6 5),
 aI 11 (aC 24 [(aT 10)]), aM 8 11] (.seq (.block 0 (aQ [aM 13 0, aI 14 (aB .lss (aT 13) (aN 0)), aM 15 14,
 aG 16 15 false (aV 1), aG 17 15 false (aB .lss (aT 16) (aN 0)), aI 18 (.pick (aT 15) (.av (.bool true)) (aT 17)), aM 12 18] (.cond (aT 12)
 (aQ [aI 6 (.move (.av (.str []))), aI 7 (.move (aN 1))] (.ret)) (aQ [aM 20 0, aI 21 (aB .gtr (aT 20) (aN 2147483)), aM 22 21,
 aG 23 22 false (aV 1), aG 24 22 false (aB .gtr (aT 23) (aN 2147483)), aI 25 (.pick (aT 22) (.av (.bool true)) (aT 24)), aM 19 25] (.cond (aT 19)
 (aQ [aI 6 (.move (.av (.str []))), aI 7 (.move (aN 2))] (.ret)) (aQ [aM 27 8, aI 28 (aB .neq (aT 27) (aN 0)), aM 26 28]
 (.cond (aT 26) (aQ [aM 29 8, aI 6 (.move (.av (.str []))), aM 7 29] (.ret)) (.seq (.region [aI 31 (aF 0 5), aI 32 (aL 31),
 aI 33 (aB .eql (aT 32) (aN 8)), aM 34 33, aG 35 34 true (aF 3 5), aG 36 34 true (aL 35), aG 37 34 true (.len .str (aT 36)),
 aG 38 34 true (aB .gtr (aT 37) (aN 1048576)), aG 39 34 true (aV 38), aG 40 39 false (aF 5 5), aG 41 39 false (aL 40),
 aG 42 39 false (.build [(.int .i64 0), (.int .i64 0), (.int .i64 0), (.str []), (.lit (.slice none 0 0)), (.lit (.slice none 0 0))] [(0, 1, (aN 6)), (5, 1, (aT 41))]),
 ⟨(some 43), .call (.av (.fn (.func 60) [] [])) [(aN 0)], (some (39, false)), true⟩,
 aG 44 39 false (aC 59 [(aT 42), (.av (.str [76, 101, 110, 103, 116, 104])), (aT 43)]), aG 45 39 false (.field 5 none (aT 44)),
 aG 46 39 false (.len (.slice 7) (aT 45)), aG 47 39 false (aB .gtr (aT 46) (aN 1024)), aG 48 34 true (.pick (aT 39) (.av (.bool true)) (aT 47)),
 aI 49 (.pick (aT 34) (aT 48) (.av (.bool false))), aM 30 49] true) (.cond (aT 30) (aQ [aI 6 (.move (.av (.str []))), aI 7 (.move (aN 6))] (.ret))
 (.skip)))))))))) (aQ [aI 9 (.move (.av (.str [])))] (.seq (aQ [aI 50 (aF 0 5), aI 51 (aL 50),
 aI 52 (aB .eql (aT 51) (aN 8))] (.cond (aT 52) (.region [aI 53 (aF 5 5), aI 54 (aL 53),
 aI 55 (.build [(.int .i64 0), (.int .i64 0), (.int .i64 0), (.str []), (.lit (.slice none 0 0)), (.lit (.slice none 0 0))] [(0, 1, (aN 6)), (5, 1, (aT 54))]),
 aI 56 (aF 3 5), aI 57 (aL 56), aI 58 (.len .str (aT 57)), ⟨(some 59), .call (.av (.fn (.func 60) [] [])) [(aT 58)], none, true⟩,
 ⟨(some 60), .call (.av (.fn (.func 59) [] [])) [(aT 55), (.av (.str [76, 101, 110, 103, 116, 104])), (aT 59)], none, true⟩,
 ⟨(some 61), .call (.av (.fn (.func 54) [] [])) [(aT 60)], none, true⟩, aI 62 (.bin .add .other false (aT 61) (.av (.str [10, 115, 116, 114, 101, 97, 109, 10]))),
 aI 63 (aF 3 5), aI 64 (aL 63), aI 65 (.bin .add .other false (aT 62) (aT 64)),
 aI 66 (.bin .add .other false (aT 65) (.av (.str [10, 101, 110, 100, 115, 116, 114, 101, 97, 109]))), aM 9 66] true) (aR [aI 67 (aK 6 5),
 aI 68 (aC 54 [(aT 67)]), aM 9 68]))) (aQ [aM 69 0, aI 70 (aB .mul (aN 1000) (aT 69)),
 aI 71 (aC 61 [(aT 70)]), aI 72 (.bin .add .other false (aT 71) (.av (.str [32]))), aM 73 1, aI 74 (aB .mul (aN 1000) (aT 73)),
 aI 75 (aC 61 [(aT 74)]), aI 76 (.bin .add .other false (aT 72) (aT 75)), aI 77 (.bin .add .other false (aT 76) (.av (.str [32, 111, 98, 106, 10]))),
 aM 78 9, aI 79 (.bin .add .other false (aT 77) (aT 78)), aI 80 (.bin .add .other false (aT 79) (.av (.str [10, 101, 110, 100, 111, 98, 106, 10]))), aM 6 80,
 aI 7 (.move (aN 0))] (.ret))))))⟩
def ac23 : AF := ⟨5, [.tmp 2], aQ [aI 1 (.box 26 (aT 0)), aI 2 (.move (aN 0))] (aQ [aI 3 (aK 6 1),
 aI 4 (aC 62 [(aT 3), (aN 0)]), aM 2 4] (.ret))⟩
def ac24 : AF := ⟨5, [.tmp 2], aQ [aI 1 (.box 26 (aT 0)), aI 2 (.move (aN 0))] (aQ [aI 3 (aK 6 1),
 aI 4 (aC 63 [(aT 3), (aN 0)]), aM 2 4] (.ret))⟩
def ac51 : AF := ⟨67, [.tmp 6], aQ [aI 3 (.box 26 (aT 0)), aI 6 (.move (aN 0))] (.seq (aQ [aM 9 2, aI 10 (aB .gtr (aT 9) (aN 200))]
 (.cond (aT 10) (aQ [aI 6 (.move (aN (-1)))] (.ret)) (.skip))) (aQ [aM 11 1, aI 12 (aB .sub (aT 11) (aN 1)),
 aI 13 (aF 3 3), aI 14 (aL 13), aI 15 (.len .str (aT 14)), aI 16 (aB .sub (aT 12) (aT 15)), aM 1 16]
 (.seq (aQ [aI 7 (.move (aN 0))] (.block 0 (.loop (.seq (aQ [aM 17 7, aI 18 (aF 4 3), aI 19 (aL 18),
 aI 20 (.len (.slice 6) (aT 19)), aI 21 (aB .lss (aT 17) (aT 20)), aM 22 21, aG 23 22 true (aV 1), aG 24 22 true (aB .geq (aT 23) (aN 0)),
 aI 25 (.pick (aT 22) (aT 24) (.av (.bool false)))] (.cond (aT 25) (.skip) (.exit 0))) (.seq (.block 1 (aR [aI 28 (aF 4 3), aI 29 (aL 28),
 aM 30 7, aI 31 (.indexAddr none 6 (aT 29) (aT 30)), aI 32 (aK 6 31), aM 33 1, aM 34 2, aI 35 (aB .add (aT 34) (aN 1)),
 aI 36 (aC 51 [(aT 32), (aT 33), (aT 35)]), aM 1 36])) (aR [aM 26 7, aI 27 (aB .add (aT 26) (aN 1)), aM 7 27]))))))
 (.seq (aQ [aI 8 (.move (aN 0))] (.block 2 (.loop (.seq (aQ [aM 37 8, aI 38 (aF 5 3), aI 39 (aL 38),
 aI 40 (.len (.slice 7) (aT 39)), aI 41 (aB .lss (aT 37) (aT 40)), aM 42 41, aG 43 42 true (aV 1), aG 44 42 true (aB .geq (aT 43) (aN 0)),
 aI 45 (.pick (aT 42) (aT 44) (.av (.bool false)))] (.cond (aT 45) (.skip) (.exit 2))) (.seq (.block 3 (.region [aI 48 (aF 5 3), aI 49 (aL 48),
 aM 50 8, aI 51 (.indexAddr none 7 (aT 49) (aT 50)), aI 52 (aF 1 51), aI 53 (aK 6 52), aM 54 1, aI 55 (aF 5 3),
 aI 56 (aL 55), aM 57 8, aI 58 (.indexAddr none 7 (aT 56) (aT 57)), aI 59 (aF 0 58), aI 60 (aL 59), aI 61 (.len .str (aT 60)),
 aI 62 (aB .sub (aT 54) (aT 61)), aM 63 2, aI 64 (aB .add (aT 63) (aN 1)), aI 65 (aC 51 [(aT 53), (aT 62), (aT 64)]),
 aM 1 65] true)) (aR [aM 46 8, aI 47 (aB .add (aT 46) (aN 1)), aM 8 47])))))) (aQ [aM 66 1, aM 6 66] (.ret))))))⟩
def ac52 : AF := ⟨75, [], aQ [aI 2 (.box 87 (aT 0)), aI 3 (.box 26 (aT 1))] (aQ [aI 4 (aF 0 3), aI 5 (aL 4)]
 (.block 0 (aQ [aI 18 (aB .eql (aT 5) (aN 0)), aM 17 18] (.cond (aT 17) (aR [aI 19 (aL 2),
 aI 20 (aC 56 [(aT 19), (.av (.str [110, 117, 108, 108]))])]) (aQ [aI 22 (aB .eql (aT 5) (aN 1)), aM 21 22]
 (.cond (aT 21) (.region [aI 23 (aL 2), aI 24 (aF 1 3), aI 25 (aL 24), aI 26 (aB .eql (aT 25) (aN 1)),
 ⟨(some 27), .call (.av (.fn (.func 93) [] [])) [(aT 26)], none, true⟩, aI 28 (aC 56 [(aT 23), (aT 27)])] true)
 (aQ [aI 30 (aB .eql (aT 5) (aN 2)), aM 29 30] (.cond (aT 29) (.region [aI 31 (aL 2), aI 32 (aK 6 3),
 ⟨(some 33), .call (.av (.fn (.func 94) [] [])) [(aT 32)], none, true⟩, aI 34 (aC 56 [(aT 31), (aT 33)])] true)
 (aQ [aI 36 (aB .eql (aT 5) (aN 3)), aM 35 36] (.cond (aT 35) (.region [aI 37 (aL 2), aI 38 (aF 3 3),
 aI 39 (aL 38), ⟨(some 40), .call (.av (.fn (.func 95) [] [])) [(aT 39)], none, true⟩, aI 41 (aC 56 [(aT 37), (aT 40)])] true)
 (aQ [aI 43 (aB .eql (aT 5) (aN 4)), aM 42 43] (.cond (aT 42) (.region [aI 44 (aL 2), aI 45 (aF 3 3),
 aI 46 (aL 45), ⟨(some 47), .call (.av (.fn (.func 96) [] [])) [(aT 46)], none, true⟩, aI 48 (aC 56 [(aT 44), (aT 47)])] true)
 (aQ [aI 50 (aB .eql (aT 5) (aN 7)), aM 49 50] (.cond (aT 49) (.region [aI 51 (aL 2), aI 52 (aF 1 3),
 aI 53 (aL 52), ⟨(some 54), .call (.av (.fn (.func 57) [] [])) [(aT 53)], none, true⟩, aI 55 (.bin .add .other false (aT 54) (.av (.str [32]))),
 aI 56 (aF 2 3), aI 57 (aL 56), ⟨(some 58), .call (.av (.fn (.func 97) [] [])) [(aT 57)], none, true⟩, aI 59 (.bin .add .other false (aT 55) (aT 58)),
 aI 60 (.bin .add .other false (aT 59) (.av (.str [32, 82]))), aI 61 (aC 56 [(aT 51), (aT 60)])] true)
 (aQ [aI 63 (aB .eql (aT 5) (aN 5)), aM 62 63] (.cond (aT 62) (aQ [aI 64 (aL 2),
 aI 65 (aC 98 [(aT 64), (.av (.int .u8 91))])] (.seq (.region [aI 66 (aF 4 3), aI 67 (aL 66),
 aI 68 (.len (.slice 6) (aT 67)), aI 69 (.mkFunc (.func 100) [] [(aT 2), (aT 3)]), ⟨(some 70), .call (.av (.fn (.func 99) [] [])) [(aT 68), (aT 69)], none, true⟩,
 aI 71 (aL 2), aI 72 (.call (aT 70) [(aT 71)])] true) (aR [aI 73 (aL 2),
 aI 74 (aC 98 [(aT 73), (.av (.int .u8 93))])]))) (aQ [aI 6 (aL 2),
 aI 7 (aC 56 [(aT 6), (.av (.str [60, 60]))])] (.seq (.region [aI 8 (aF 5 3), aI 9 (aL 8),
 aI 10 (.len (.slice 7) (aT 9)), aI 11 (.mkFunc (.func 101) [] [(aT 2), (aT 3)]), ⟨(some 12), .call (.av (.fn (.func 99) [] [])) [(aT 10), (aT 11)], none, true⟩,
 aI 13 (aL 2), aI 14 (.call (aT 12) [(aT 13)])] true) (aR [aI 15 (aL 2),
 aI 16 (aC 56 [(aT 15), (.av (.str [62, 62]))])])))))))))))))))))))⟩
def ac54 : AF := ⟨112, [.tmp 2], aQ [aI 1 (.box 26 (aT 0)), aI 2 (.move (.av (.str [])))] (aQ [aI 3 (.move (.av (.str [])))]
 (.seq (aQ [aI 6 (aF 0 1), aI 7 (aL 6)] (.block 0 (aQ [aI 9 (aB .eql (aT 7) (aN 0)), aM 8 9]
 (.cond (aT 8) (aQ [aI 2 (.move (.av (.str [110, 117, 108, 108])))] (.ret)) (aQ [aI 11 (aB .eql (aT 7) (aN 1)), aM 10 11]
 (.cond (aT 10) (aQ [aI 12 (.buildSlice false 9 1 2 [(.str [])] [(0, (.av (.str [102, 97, 108, 115, 101]))), (1, (.av (.str [116, 114, 117, 101])))]),
 aI 13 (aF 1 1), aI 14 (aL 13), aI 15 (.indexAddr none 1 (aT 12) (aT 14)), aI 16 (aL 15), aM 2 16] (.ret))
 (aQ [aI 18 (aB .eql (aT 7) (aN 2)), aM 17 18] (.cond (aT 17) (aQ [aI 19 (aF 2 1), aI 20 (aL 19),
 aI 21 (aC 61 [(aT 20)]), aM 3 21] (.seq (aQ [aI 22 (aF 1 1), aI 23 (aL 22),
 aI 24 (aB .eql (aT 23) (aN 0)), aM 25 24, aG 26 25 true (aF 2 1), aG 27 25 true (aL 26),
 aG 28 25 true (aB .rem (aT 27) (aN 1000)), aG 29 25 true (aB .eql (aT 28) (aN 0)), aI 30 (.pick (aT 25) (aT 29) (.av (.bool false)))]
 (.cond (aT 30) (aR [aM 31 3, aI 32 (.bin .add .other false (aT 31) (.av (.str [46, 48]))), aM 3 32]) (.skip))) (aQ [aM 33 3, aM 2 33] (.ret))))
 (aQ [aI 35 (aB .eql (aT 7) (aN 3)), aM 34 35] (.cond (aT 34) (aQ [aI 36 (aF 3 1), aI 37 (aL 36),
 aI 38 (aC 102 [(aT 37)]), aM 2 38] (.ret)) (aQ [aI 40 (aB .eql (aT 7) (aN 4)), aM 39 40] (.cond (aT 39)
 (aQ [aI 41 (aF 3 1), aI 42 (aL 41), aI 43 (aC 103 [(aT 42)]), aM 2 43] (.ret))
 (aQ [aI 45 (aB .eql (aT 7) (aN 7)), aM 44 45] (.cond (aT 44) (.seq (.region [aI 46 (aF 1 1), aI 47 (aL 46),
 aI 48 (aB .mul (aT 47) (aN 1000)), ⟨(some 49), .call (.av (.fn (.func 61) [] [])) [(aT 48)], none, true⟩, aI 50 (.bin .add .other false (aT 49) (.av (.str [32]))),
 aI 51 (aF 2 1), aI 52 (aL 51), aI 53 (aC 61 [(aT 52)]), aI 54 (.bin .add .other false (aT 50) (aT 53)),
 aI 55 (.bin .add .other false (aT 54) (.av (.str [32, 82]))), aM 2 55] true) (.ret)) (aQ [aI 57 (aB .eql (aT 7) (aN 5)), aM 56 57] (.cond (aT 56)
 (.seq (aQ [aI 4 (.move (aN 0))] (.block 1 (.loop (.seq (aQ [aM 58 4, aI 59 (aF 4 1), aI 60 (aL 59),
 aI 61 (.len (.slice 6) (aT 60)), aI 62 (aB .lss (aT 58) (aT 61))] (.cond (aT 62) (.skip) (.exit 1))) (.seq (.block 2 (.seq (aQ [aM 65 4,
 aI 66 (aB .gtr (aT 65) (aN 0))] (.cond (aT 66) (aR [aM 67 3, aI 68 (.bin .add .other false (aT 67) (.av (.str [32]))), aM 3 68]) (.skip)))
 (aR [aM 69 3, aI 70 (aF 4 1), aI 71 (aL 70), aM 72 4, aI 73 (.indexAddr none 6 (aT 71) (aT 72)), aI 74 (aK 6 73),
 aI 75 (aC 54 [(aT 74)]), aI 76 (.bin .add .other false (aT 69) (aT 75)), aM 3 76]))) (aR [aM 63 4,
 aI 64 (aB .add (aT 63) (aN 1)), aM 4 64])))))) (aQ [aM 77 3, aI 78 (.bin .add .other false (.av (.str [91])) (aT 77)),
 aI 79 (.bin .add .other false (aT 78) (.av (.str [93]))), aM 2 79] (.ret))) (.skip))))))))))))))))) (.seq (aQ [aI 5 (.move (aN 0))] (.block 3 (.loop
 (.seq (aQ [aM 80 5, aI 81 (aF 5 1), aI 82 (aL 81), aI 83 (.len (.slice 7) (aT 82)), aI 84 (aB .lss (aT 80) (aT 83))]
 (.cond (aT 84) (.skip) (.exit 3))) (.seq (.block 4 (.seq (aQ [aM 87 5, aI 88 (aB .gtr (aT 87) (aN 0))] (.cond (aT 88) (aR [aM 89 3,
 aI 90 (.bin .add .other false (aT 89) (.av (.str [32]))), aM 3 90]) (.skip))) (.region [aM 91 3, aI 92 (aF 5 1), aI 93 (aL 92), aM 94 5,
 aI 95 (.indexAddr none 7 (aT 93) (aT 94)), aI 96 (aF 0 95), aI 97 (aL 96), ⟨(some 98), .call (.av (.fn (.func 102) [] [])) [(aT 97)], none, true⟩,
 aI 99 (.bin .add .other false (aT 91) (aT 98)), aI 100 (.bin .add .other false (aT 99) (.av (.str [32]))), aI 101 (aF 5 1), aI 102 (aL 101), aM 103 5,
 aI 104 (.indexAddr none 7 (aT 102) (aT 103)), aI 105 (aF 1 104), aI 106 (aK 6 105), aI 107 (aC 54 [(aT 106)]),
 aI 108 (.bin .add .other false (aT 100) (aT 107)), aM 3 108] true))) (aR [aM 85 5, aI 86 (aB .add (aT 85) (aN 1)), aM 5 86]))))))
 (aQ [aM 109 3, aI 110 (.bin .add .other false (.av (.str [60, 60])) (aT 109)), aI 111 (.bin .add .other false (aT 110) (.av (.str [62, 62]))), aM 2 111]
 (.ret)))))⟩
def ac55 : AF := ⟨45, [.tmp 6], aQ [aI 5 (.box 26 (aT 2)), aI 6 (.move (aN 0))] (.seq (aQ [aI 8 (aK 6 5),
 aI 9 (aC 23 [(aT 8)]), aM 7 9] (.block 0 (aQ [aM 11 0, aI 12 (aB .lss (aT 11) (aN 0)), aM 13 12,
 aG 14 13 false (aV 1), aG 15 13 false (aB .lss (aT 14) (aN 0)), aI 16 (.pick (aT 13) (.av (.bool true)) (aT 15)), aM 10 16] (.cond (aT 10)
 (aQ [aI 6 (.move (aN 1))] (.ret)) (aQ [aM 18 0, aI 19 (aB .gtr (aT 18) (aN 2147483)), aM 20 19, aG 21 20 false (aV 1),
 aG 22 20 false (aB .gtr (aT 21) (aN 2147483)), aI 23 (.pick (aT 20) (.av (.bool true)) (aT 22)), aM 17 23] (.cond (aT 17)
 (aQ [aI 6 (.move (aN 2))] (.ret)) (aQ [aM 25 7, aI 26 (aB .neq (aT 25) (aN 0)), aM 24 26] (.cond (aT 24)
 (aQ [aM 27 7, aM 6 27] (.ret)) (aQ [aI 29 (aF 0 5), aI 30 (aL 29), aI 31 (aB .eql (aT 30) (aN 8)), aM 32 31,
 aG 33 32 true (aF 3 5), aG 34 32 true (aL 33), aG 35 32 true (.len .str (aT 34)), aG 36 32 true (aB .gtr (aT 35) (aN 1048576)),
 aG 37 32 true (aV 36), aG 38 37 false (aK 6 5), aG 39 37 false (aC 58 [(aT 38)]), aG 40 37 false (.field 5 none (aT 39)),
 aG 41 37 false (.len (.slice 7) (aT 40)), aG 42 37 false (aB .gtr (aT 41) (aN 1024)), aG 43 32 true (.pick (aT 37) (.av (.bool true)) (aT 42)),
 aI 44 (.pick (aT 32) (aT 43) (.av (.bool false))), aM 28 44] (.cond (aT 28) (aQ [aI 6 (.move (aN 6))] (.ret)) (.skip)))))))))))
 (aQ [aI 6 (.move (aN 0))] (.ret)))⟩
def ac56 : AF := ⟨19, [.tmp 4, .tmp 5], aQ [aI 4 (.move (aN 0)), aI 5 (.move (.av (.lit .nilIface)))] (aQ [aM 6 0,
 aI 7 (aC 104 [(aT 6)])] (aQ [aM 8 0, aM 9 0, aI 10 (.nilCheck (aT 9)), aI 11 (aF 1 10), aI 12 (aL 11),
 aM 13 1, aI 14 (.append 5 1 1 [(.int .u8 0)] (aT 12) (aT 13)), aI 15 (.nilCheck (aT 8)), aI 16 (aF 1 15), aJ (.store 1 (aT 16) (aT 14))]
 (aQ [aM 17 1, aI 18 (.len .str (aT 17)), aM 4 18, aI 5 (.move (.av (.lit .nilIface)))] (.ret))))⟩
def ac58 : AF := ⟨11, [.cell 2 (some 6)], aQ [aI 1 (.box 26 (aT 0)),
 aI 2 (.alloc 26 [(.int .i64 0), (.int .i64 0), (.int .i64 0), (.str []), (.lit (.slice none 0 0)), (.lit (.slice none 0 0))])] (.seq (.region [aI 3 (aF 5 1),
 aI 4 (aL 3),
 aI 5 (.build [(.int .i64 0), (.int .i64 0), (.int .i64 0), (.str []), (.lit (.slice none 0 0)), (.lit (.slice none 0 0))] [(0, 1, (aN 6)), (5, 1, (aT 4))]),
 aI 6 (aF 3 1), aI 7 (aL 6), aI 8 (.len .str (aT 7)), ⟨(some 9), .call (.av (.fn (.func 107) [] [])) [(aT 8)], none, true⟩,
 aI 10 (aC 106 [(aT 5), (.av (.str [76, 101, 110, 103, 116, 104])), (aT 9)]), aJ (.store 6 (aT 2) (aT 10))] true) (.ret))⟩
def ac59 : AF := ⟨71, [.cell 6 (some 6)], aQ [aI 3 (.box 26 (aT 0)), aI 5 (.box 26 (aT 2)),
 aI 6 (.alloc 26 [(.int .i64 0), (.int .i64 0), (.int .i64 0), (.str []), (.lit (.slice none 0 0)), (.lit (.slice none 0 0))])]
 (.seq (aQ [aI 10 (aF 0 3), aI 11 (aL 10), aI 12 (aB .neq (aT 11) (aN 6)), aM 13 12, aG 14 13 true (aF 0 3),
 aG 15 13 true (aL 14), aG 16 13 true (aB .neq (aT 15) (aN 8)), aI 17 (.pick (aT 13) (aT 16) (.av (.bool false)))] (.cond (aT 17)
 (aQ [aI 18 (aK 6 3), aJ (.store 6 (aT 6) (aT 18))] (.ret)) (.skip))) (aQ [aI 7 (.move (.av (.lit (.slice none 0 0))))]
 (aQ [aI 8 (.move (.av (.bool false)))] (.seq (aQ [aI 9 (.move (aN 0))] (.block 0 (.loop (.seq (aQ [aM 19 9,
 aI 20 (aF 5 3), aI 21 (aL 20), aI 22 (.len (.slice 7) (aT 21)), aI 23 (aB .lss (aT 19) (aT 22))] (.cond (aT 23) (.skip) (.exit 0)))
 (.seq (.block 1 (aQ [aI 26 (aF 5 3), aI 27 (aL 26), aM 28 9, aI 29 (.indexAddr none 7 (aT 27) (aT 28)), aI 30 (aF 0 29),
 aI 31 (aL 30), aM 32 1, aI 33 (.bin .neq .other false (aT 31) (aT 32))] (.cond (aT 33) (aR [aM 34 7, aI 35 (aF 5 3),
 aI 36 (aL 35), aM 37 9, aI 38 (.indexAddr none 7 (aT 36) (aT 37)), aI 39 (aK 7 38),
 aI 40 (.buildSlice false 106 7 1 [(.str []), (.int .i64 0), (.int .i64 0), (.int .i64 0), (.str []), (.lit (.slice none 0 0)), (.lit (.slice none 0 0))] [(0, (aT 39))]),
 aI 41 (.append 106 7 104 [(.str []), (.int .i64 0), (.int .i64 0), (.int .i64 0), (.str []), (.lit (.slice none 0 0)), (.lit (.slice none 0 0))] (aT 34) (aT 40)), aM 7 41])
 (aQ [aI 42 (aF 0 5), aI 43 (aL 42), aI 44 (aB .neq (aT 43) (aN 0)), aM 45 44, aG 46 45 true (aV 8),
 aG 47 45 true (.un .not false (aT 46)), aI 48 (.pick (aT 45) (aT 47) (.av (.bool false)))] (.cond (aT 48) (aQ [aM 49 7, aM 50 1, aI 51 (aK 6 5),
 aI 52 (.build [(.str []), (.int .i64 0), (.int .i64 0), (.int .i64 0), (.str []), (.lit (.slice none 0 0)), (.lit (.slice none 0 0))] [(0, 1, (aT 50)), (1, 6, (aT 51))]),
 aI 53 (.buildSlice false 106 7 1 [(.str []), (.int .i64 0), (.int .i64 0), (.int .i64 0), (.str []), (.lit (.slice none 0 0)), (.lit (.slice none 0 0))] [(0, (aT 52))]),
 aI 54 (.append 106 7 104 [(.str []), (.int .i64 0), (.int .i64 0), (.int .i64 0), (.str []), (.lit (.slice none 0 0)), (.lit (.slice none 0 0))] (aT 49) (aT 53)), aM 7 54]
 (aR [aI 8 (.move (.av (.bool true)))])) (.skip)))))) (aR [aM 24 9, aI 25 (aB .add (aT 24) (aN 1)), aM 9 25]))))))
 (.seq (aQ [aI 55 (aF 0 5), aI 56 (aL 55), aI 57 (aB .neq (aT 56) (aN 0)), aM 58 57, aG 59 58 true (aV 8),
 aG 60 58 true (.un .not false (aT 59)), aI 61 (.pick (aT 58) (aT 60) (.av (.bool false)))] (.cond (aT 61) (aR [aM 62 7, aM 63 1, aI 64 (aK 6 5),
 aI 65 (.build [(.str []), (.int .i64 0), (.int .i64 0), (.int .i64 0), (.str []), (.lit (.slice none 0 0)), (.lit (.slice none 0 0))] [(0, 1, (aT 63)), (1, 6, (aT 64))]),
 aI 66 (.buildSlice false 106 7 1 [(.str []), (.int .i64 0), (.int .i64 0), (.int .i64 0), (.str []), (.lit (.slice none 0 0)), (.lit (.slice none 0 0))] [(0, (aT 65))]),
 aI 67 (.append 106 7 104 [(.str []), (.int .i64 0), (.int .i64 0), (.int .i64 0), (.str []), (.lit (.slice none 0 0)), (.lit (.slice none 0 0))] (aT 62) (aT 66)), aM 7 67])
 (.skip))) (aQ [aM 68 7, aI 69 (aF 5 3), aJ (.store 1 (aT 69) (aT 68))] (aQ [aI 70 (aK 6 3),
 aJ (.store 6 (aT 6) (aT 70))] (.ret))))))))⟩
def ac60 : AF := ⟨15, [.cell 2 (some 6)],
 aQ [aI 2 (.alloc 26 [(.int .i64 0), (.int .i64 0), (.int .i64 0), (.str []), (.lit (.slice none 0 0)), (.lit (.slice none 0 0))])] (aQ [aM 6 0,
 aI 7 (aC 108 [(aT 6)]), aM 5 7, aI 8 (aE 5 0), aI 9 (aE 5 1), aM 3 8, aM 4 9] (.seq (aQ [aM 10 4,
 aI 11 (aB .neq (aT 10) (aN 0))] (.cond (aT 11)
 (aQ [aI 12 (.build [(.int .i64 0), (.int .i64 0), (.int .i64 0), (.str []), (.lit (.slice none 0 0)), (.lit (.slice none 0 0))] []),
 aJ (.store 6 (aT 2) (aT 12))] (.ret)) (.skip))) (aQ [aM 13 3,
 aI 14 (.build [(.int .i64 0), (.int .i64 0), (.int .i64 0), (.str []), (.lit (.slice none 0 0)), (.lit (.slice none 0 0))] [(0, 1, (aN 2)), (1, 1, (aN 1)), (2, 1, (aT 13))]),
 aJ (.store 6 (aT 2) (aT 14))] (.ret))))⟩
def ac61 : AF := ⟨47, [.tmp 2], aQ [aI 2 (.move (.av (.str [])))] (.seq (aQ [aM 8 0, aI 9 (aC 109 [(aT 8)]),
 aI 10 (.un .not false (aT 9))] (.cond (aT 10) (aQ [aI 2 (.move (.av (.str [])))] (.ret)) (.skip))) (aQ [aI 3 (.move (.av (.str [])))]
 (aQ [aM 11 0, aM 4 11] (.seq (aQ [aM 12 4, aI 13 (aB .lss (aT 12) (aN 0))] (.cond (aT 13)
 (aQ [aI 3 (.move (.av (.str [45])))] (aR [aM 14 4, aI 15 (.un .neg true (aT 14)), aM 4 15])) (.skip))) (aQ [aM 16 4,
 aI 17 (aB .rem (aT 16) (aN 1000)), aM 5 17] (aQ [aM 18 3, aM 19 4, aI 20 (aB .quo (aT 19) (aN 1000)),
 aI 21 (aC 110 [(aT 20)]), aI 22 (.bin .add .other false (aT 18) (aT 21)), aM 3 22] (.seq (aQ [aM 23 5,
 aI 24 (aB .eql (aT 23) (aN 0))] (.cond (aT 24) (aQ [aM 25 3, aM 2 25] (.ret)) (.skip))) (aQ [aM 26 3,
 aI 27 (.bin .add .other false (aT 26) (.av (.str [46]))), aM 3 27]
 (.seq (aQ [aI 28 (.buildSlice false 3 1 3 [(.int .i64 0)] [(0, (aN 100)), (1, (aN 10)), (2, (aN 1))]), aI 29 (.len (.slice 1) (aT 28)), aI 30 (.move (aN 0))]
 (.block 0 (.loop (aQ [aI 31 (aB .lss (aT 30) (aT 29))] (.seq (.cond (aT 31) (.skip) (.exit 0)) (.seq (.block 1
 (aQ [aI 32 (.indexAddr none 1 (aT 28) (aT 30)), aI 33 (aL 32), aM 7 33] (.seq (aQ [aM 34 5,
 aI 35 (aB .gtr (aT 34) (aN 0))] (.cond (aT 35) (aR [aM 36 3, aM 37 5, aM 38 7, aI 39 (aB .quo (aT 37) (aT 38)),
 aI 40 (aC 110 [(aT 39)]), aI 41 (.bin .add .other false (aT 36) (aT 40)), aM 3 41]) (.skip))) (aR [aM 42 5, aM 43 7,
 aI 44 (aB .rem (aT 42) (aT 43)), aM 5 44])))) (aR [aI 45 (aB .add (aT 30) (aN 1)), aM 30 45]))))))) (aQ [aM 46 3,
 aM 2 46] (.ret)))))))))))⟩
def ac62 : AF := ⟨37, [.tmp 4], aQ [aI 2 (.box 26 (aT 0)), aI 4 (.move (aN 0))] (.seq (aQ [aI 10 (aK 6 2), aM 11 1,
 aI 12 (aC 111 [(aT 10), (aT 11)]), aM 5 12] (aQ [aM 13 5, aI 14 (aB .neq (aT 13) (aN 0))] (.cond (aT 14)
 (aQ [aM 15 5, aM 4 15] (.ret)) (.skip)))) (.seq (aQ [aI 16 (aK 6 2), aM 17 1,
 aI 18 (aC 112 [(aT 16), (aT 17)]), aM 6 18] (aQ [aM 19 6, aI 20 (aB .neq (aT 19) (aN 0))] (.cond (aT 20)
 (aQ [aM 21 6, aM 4 21] (.ret)) (.skip)))) (.seq (aQ [aI 22 (aK 6 2), aI 23 (aC 113 [(aT 22)]),
 aI 24 (.len (.slice 6) (aT 23)), aI 25 (.move (aN 0))] (.block 0 (.loop (aQ [aI 26 (aB .lss (aT 25) (aT 24))] (.seq (.cond (aT 26) (.skip)
 (.exit 0)) (.seq (.block 1 (aQ [aI 27 (.indexAddr none 6 (aT 23) (aT 25)), aI 28 (aK 6 27),
 aI 8 (.alloc 26 [(.int .i64 0), (.int .i64 0), (.int .i64 0), (.str []), (.lit (.slice none 0 0)), (.lit (.slice none 0 0))]), aJ (.store 6 (aT 8) (aT 28))]
 (aQ [aI 29 (aK 6 8), aM 30 1, aI 31 (aB .add (aT 30) (aN 1)), aI 32 (aC 62 [(aT 29), (aT 31)]),
 aM 9 32] (aQ [aM 33 9, aI 34 (aB .neq (aT 33) (aN 0))] (.cond (aT 34) (aQ [aM 35 9, aM 4 35] (.ret)) (.skip))))))
 (aR [aI 36 (aB .add (aT 25) (aN 1)), aM 25 36]))))))) (aQ [aI 4 (.move (aN 0))] (.ret)))))⟩
def ac63 : AF := ⟨62, [.tmp 4], aQ [aI 2 (.box 26 (aT 0)), aI 4 (.move (aN 0))] (aQ [aI 8 (aK 6 2), aM 9 1,
 aI 10 (aC 114 [(aT 8), (aT 9)]), aM 5 10] (.seq (aQ [aM 11 5, aI 12 (aB .neq (aT 11) (aN 0))] (.cond (aT 12)
 (aQ [aM 13 5, aM 4 13] (.ret)) (.skip))) (.seq (aQ [aI 14 (aF 0 2), aI 15 (aL 14),
 aI 16 (aB .eql (aT 15) (aN 5))] (.cond (aT 16) (aQ [aI 6 (.move (aN 0))] (.block 0 (.loop (.seq (aQ [aM 17 6,
 aI 18 (aF 4 2), aI 19 (aL 18), aI 20 (.len (.slice 6) (aT 19)), aI 21 (aB .lss (aT 17) (aT 20))] (.cond (aT 21) (.skip) (.exit 0)))
 (.seq (.block 1 (aQ [aI 24 (aF 4 2), aI 25 (aL 24), aM 26 6, aI 27 (.indexAddr none 6 (aT 25) (aT 26)), aI 28 (aK 6 27),
 aM 29 1, aI 30 (aB .add (aT 29) (aN 1)), aI 31 (aC 63 [(aT 28), (aT 30)]), aM 5 31] (aQ [aM 32 5,
 aI 33 (aB .neq (aT 32) (aN 0))] (.cond (aT 33) (aQ [aM 34 5, aM 4 34] (.ret)) (.skip))))) (aR [aM 22 6,
 aI 23 (aB .add (aT 22) (aN 1)), aM 6 23])))))) (.skip))) (.seq (aQ [aI 35 (aF 0 2), aI 36 (aL 35),
 aI 37 (aB .eql (aT 36) (aN 6)), aM 38 37, aG 39 38 false (aF 0 2), aG 40 38 false (aL 39),
 aG 41 38 false (aB .eql (aT 40) (aN 8)), aI 42 (.pick (aT 38) (.av (.bool true)) (aT 41))] (.cond (aT 42) (aQ [aI 7 (.move (aN 0))]
 (.block 2 (.loop (.seq (aQ [aM 43 7, aI 44 (aF 5 2), aI 45 (aL 44), aI 46 (.len (.slice 7) (aT 45)),
 aI 47 (aB .lss (aT 43) (aT 46))] (.cond (aT 47) (.skip) (.exit 2))) (.seq (.block 3 (aQ [aI 50 (aF 5 2), aI 51 (aL 50),
 aM 52 7, aI 53 (.indexAddr none 7 (aT 51) (aT 52)), aI 54 (aF 1 53), aI 55 (aK 6 54), aM 56 1, aI 57 (aB .add (aT 56) (aN 1)),
 aI 58 (aC 63 [(aT 55), (aT 57)]), aM 5 58] (aQ [aM 59 5, aI 60 (aB .neq (aT 59) (aN 0))] (.cond (aT 60)
 (aQ [aM 61 5, aM 4 61] (.ret)) (.skip))))) (aR [aM 48 7, aI 49 (aB .add (aT 48) (aN 1)), aM 7 49])))))) (.skip)))
 (aQ [aI 4 (.move (aN 0))] (.ret))))))⟩
def ac93 : AF := ⟨5, [.tmp 2], aQ [aI 2 (.move (.av (.str [])))] (aQ [aM 3 0, aI 4 (aC 149 [(aT 3)]), aM 2 4]
 (.ret))⟩
def ac94 : AF := ⟨19, [.tmp 2], aQ [aI 1 (.box 26 (aT 0)), aI 2 (.move (.av (.str [])))] (aQ [aI 4 (aF 2 1), aI 5 (aL 4),
 aI 6 (aC 97 [(aT 5)]), aM 3 6] (.seq (aQ [aI 7 (aF 1 1), aI 8 (aL 7),
 aI 9 (aB .eql (aT 8) (aN 0)), aM 10 9, aG 11 10 true (aF 2 1), aG 12 10 true (aL 11),
 aG 13 10 true (aB .rem (aT 12) (aN 1000)), aG 14 10 true (aB .eql (aT 13) (aN 0)), aI 15 (.pick (aT 10) (aT 14) (.av (.bool false)))]
 (.cond (aT 15) (aR [aM 16 3, aI 17 (.bin .add .other false (aT 16) (.av (.str [46, 48]))), aM 3 17]) (.skip))) (aQ [aM 18 3, aM 2 18] (.ret))))⟩
def ac95 : AF := ⟨45, [.tmp 2], aQ [aI 2 (.move (.av (.str [])))] (aQ [aI 6 (.buildSlice true 5 1 1 [(.int .u8 0)] [(0, (.av (.int .u8 47)))]),
 aM 3 6] (.seq (aQ [aM 7 0, aI 8 (.len .str (aT 7)), aI 9 (.move (aN 0))] (.block 0 (.loop
 (aQ [aI 10 (aB .lss (aT 9) (aT 8))] (.seq (.cond (aT 10) (.skip) (.exit 0)) (.seq (.block 1 (aQ [aM 11 9, aM 4 11]
 (aQ [aM 12 0, aM 13 4, aI 14 (.indexStr (aT 12) (aT 13)), aM 5 14] (.seq (aQ [aM 15 5, aI 16 (aC 150 [(aT 15)]),
 aM 17 16, aG 18 17 true (aV 5), aG 19 17 true (.bin .neq .other false (aT 18) (.av (.int .u8 35))), aI 20 (.pick (aT 17) (aT 19) (.av (.bool false))), aM 21 20,
 aG 22 21 true (aV 5), aG 23 21 true (.bin .gtr .other false (aT 22) (.av (.int .u8 32))), aI 24 (.pick (aT 21) (aT 23) (.av (.bool false))), aM 25 24,
 aG 26 25 true (aV 5), aG 27 25 true (.bin .leq .other false (aT 26) (.av (.int .u8 126))), aI 28 (.pick (aT 25) (aT 27) (.av (.bool false)))] (.cond (aT 28)
 (aQ [aM 29 3, aM 30 5, aI 31 (.buildSlice false 5 1 1 [(.int .u8 0)] [(0, (aT 30))]), aI 32 (.append 5 1 1 [(.int .u8 0)] (aT 29) (aT 31)), aM 3 32] (.exit 1))
 (.skip))) (.region [aM 33 3, aM 34 5, aI 35 (.bin .shr .other false (aT 34) (.av (.int .u64 4))),
 aI 36 (.indexStr (.av (.str [48, 49, 50, 51, 52, 53, 54, 55, 56, 57, 65, 66, 67, 68, 69, 70])) (aT 35)), aM 37 5, aI 38 (.bin .and .other false (aT 37) (.av (.int .u8 15))),
 aI 39 (.indexStr (.av (.str [48, 49, 50, 51, 52, 53, 54, 55, 56, 57, 65, 66, 67, 68, 69, 70])) (aT 38)),
 aI 40 (.buildSlice false 5 1 3 [(.int .u8 0)] [(0, (.av (.int .u8 35))), (1, (aT 36)), (2, (aT 39))]), aI 41 (.append 5 1 1 [(.int .u8 0)] (aT 33) (aT 40)), aM 3 41] true)))))
 (aR [aI 42 (aB .add (aT 9) (aN 1)), aM 9 42]))))))) (aQ [aM 43 3, aI 44 (.conv .ofBytes (aT 43)), aM 2 44] (.ret))))⟩
def ac96 : AF := ⟨55, [.tmp 2], aQ [aI 2 (.move (.av (.str [])))] (aQ [aI 7 (.buildSlice true 5 1 1 [(.int .u8 0)] [(0, (.av (.int .u8 40)))]),
 aM 3 7] (.seq (aQ [aM 8 0, aI 9 (.len .str (aT 8)), aI 10 (.move (aN 0))] (.block 0 (.loop
 (aQ [aI 11 (aB .lss (aT 10) (aT 9))] (.seq (.cond (aT 11) (.skip) (.exit 0)) (.seq (.block 1 (aQ [aM 12 10, aM 4 12]
 (aQ [aM 13 0, aM 14 4, aI 15 (.indexStr (aT 13) (aT 14)), aM 5 15] (aQ [aM 16 5,
 aI 17 (aC 151 [(.av (.str [10, 13, 9, 8, 12, 40, 41, 92])), (aT 16)]), aM 6 17] (.block 2 (aQ [aM 23 6,
 aI 24 (aB .geq (aT 23) (aN 0)), aM 22 24] (.cond (aT 22) (aR [aM 25 3, aM 26 6,
 aI 27 (.indexStr (.av (.str [110, 114, 116, 98, 102, 40, 41, 92])) (aT 26)), aI 28 (.buildSlice false 5 1 2 [(.int .u8 0)] [(0, (.av (.int .u8 92))), (1, (aT 27))]),
 aI 29 (.append 5 1 1 [(.int .u8 0)] (aT 25) (aT 28)), aM 3 29]) (aQ [aM 31 5, aI 32 (.bin .lss .other false (aT 31) (.av (.int .u8 32))), aM 33 32,
 aG 34 33 false (aV 5), aG 35 33 false (.bin .gtr .other false (aT 34) (.av (.int .u8 126))), aI 36 (.pick (aT 33) (.av (.bool true)) (aT 35)), aM 30 36]
 (.cond (aT 30) (aR [aM 37 3, aM 38 5, aI 39 (.bin .shr .other false (aT 38) (.av (.int .u64 6))), aI 40 (.bin .add .other false (.av (.int .u8 48)) (aT 39)), aM 41 5,
 aI 42 (.bin .shr .other false (aT 41) (.av (.int .u64 3))), aI 43 (.bin .and .other false (aT 42) (.av (.int .u8 7))), aI 44 (.bin .add .other false (.av (.int .u8 48)) (aT 43)),
 aM 45 5, aI 46 (.bin .and .other false (aT 45) (.av (.int .u8 7))), aI 47 (.bin .add .other false (.av (.int .u8 48)) (aT 46)),
 aI 48 (.buildSlice false 5 1 4 [(.int .u8 0)] [(0, (.av (.int .u8 92))), (1, (aT 40)), (2, (aT 44)), (3, (aT 47))]), aI 49 (.append 5 1 1 [(.int .u8 0)] (aT 37) (aT 48)),
 aM 3 49]) (aR [aM 18 3, aM 19 5, aI 20 (.buildSlice false 5 1 1 [(.int .u8 0)] [(0, (aT 19))]), aI 21 (.append 5 1 1 [(.int .u8 0)] (aT 18) (aT 20)),
 aM 3 21])))))))))) (aR [aI 50 (aB .add (aT 10) (aN 1)), aM 10 50]))))))) (aQ [aM 51 3,
 aI 52 (.buildSlice false 5 1 1 [(.int .u8 0)] [(0, (.av (.int .u8 41)))]), aI 53 (.append 5 1 1 [(.int .u8 0)] (aT 51) (aT 52)), aI 54 (.conv .ofBytes (aT 53)), aM 2 54]
 (.ret))))⟩
def ac97 : AF := ⟨43, [.tmp 2], aQ [aI 2 (.move (.av (.str [])))] (.seq (aQ [aM 7 0, aI 8 (.buildSlice false 22 1 1 [(.int .i64 0)] [(0, (aT 7))]),
 aI 9 (aC 117 [(aT 8)]), aI 10 (.un .not false (aT 9))] (.cond (aT 10) (aQ [aI 2 (.move (.av (.str [])))] (.ret)) (.skip)))
 (aQ [aM 12 0, aI 13 (aC 57 [(aT 12)]), aI 14 (aC 152 [(aT 13), (.av (.str [45]))]), aM 11 14,
 aI 15 (aE 11 0), aI 16 (aE 11 1), aM 3 15, aM 4 16] (.seq (aQ [aM 17 3, aI 18 (.len .str (aT 17)),
 aI 19 (aB .leq (aT 18) (aN 3))] (.cond (aT 19) (aR [aM 20 3, aI 21 (.len .str (aT 20)), aI 22 (aB .sub (aN 4) (aT 21)),
 aI 23 (aC 127 [(.av (.str [48])), (aT 22)]), aM 24 3, aI 25 (.bin .add .other false (aT 23) (aT 24)), aM 3 25]) (.skip)))
 (aQ [aM 26 3, aI 27 (.len .str (aT 26)), aI 28 (aB .sub (aT 27) (aN 3)), aM 5 28] (.seq (.region [aM 29 3, aM 30 5,
 aI 31 (.slice .str (aT 29) none (some (aT 30))), aI 32 (.bin .add .other false (aT 31) (.av (.str [46]))), aM 33 3, aM 34 5, aI 35 (.slice .str (aT 33) (some (aT 34)) none),
 aI 36 (.bin .add .other false (aT 32) (aT 35)), aI 37 (aC 154 [(aT 36), (.av (.str [48]))]),
 aI 38 (aC 153 [(aT 37), (.av (.str [46]))]), aM 6 38] true) (.seq (aQ [aM 39 4] (.cond (aT 39) (aQ [aM 40 6,
 aI 41 (.bin .add .other false (.av (.str [45])) (aT 40)), aM 2 41] (.ret)) (.skip))) (aQ [aM 42 6, aM 2 42] (.ret))))))))⟩
def ac98 : AF := ⟨17, [.tmp 4], aQ [aI 4 (.move (.av (.lit .nilIface)))] (aQ [aM 5 0, aI 6 (aC 104 [(aT 5)])]
 (aQ [aM 7 0, aM 8 0, aI 9 (.nilCheck (aT 8)), aI 10 (aF 1 9), aI 11 (aL 10), aM 12 1,
 aI 13 (.buildSlice false 5 1 1 [(.int .u8 0)] [(0, (aT 12))]), aI 14 (.append 5 1 1 [(.int .u8 0)] (aT 11) (aT 13)), aI 15 (.nilCheck (aT 7)), aI 16 (aF 1 15),
 aJ (.store 1 (aT 16) (aT 14))] (aQ [aI 4 (.move (.av (.lit .nilIface)))] (.ret))))⟩
def ac99 : AF := ⟨6, [.tmp 4], aQ [aI 2 (.box 3 (aT 0)), aI 3 (.box 155 (aT 1)), aI 4 (.move (.av (.lit .nilFunc)))]
 (aQ [aI 5 (.mkFunc (.func 155) [] [(aT 2), (aT 3)]), aM 4 5] (.ret))⟩
def ac100 : AF := ⟨11, [], .region [aI 4 (aL 1), aI 5 (aF 4 2), aI 6 (aL 5), aM 7 0, aI 8 (.indexAddr none 6 (aT 6) (aT 7)),
 aI 9 (aK 6 8), aI 10 (aC 52 [(aT 4), (aT 9)])] true⟩
def ac101 : AF := ⟨22, [], .seq (.region [aI 4 (aL 1), aI 5 (aF 5 2), aI 6 (aL 5), aM 7 0, aI 8 (.indexAddr none 7 (aT 6) (aT 7)),
 aI 9 (aF 0 8), aI 10 (aL 9), ⟨(some 11), .call (.av (.fn (.func 95) [] [])) [(aT 10)], none, true⟩,
 aI 12 (.bin .add .other false (aT 11) (.av (.str [32]))), aI 13 (aC 56 [(aT 4), (aT 12)])] true) (.region [aI 14 (aL 1),
 aI 15 (aF 5 2), aI 16 (aL 15), aM 17 0, aI 18 (.indexAddr none 7 (aT 16) (aT 17)), aI 19 (aF 1 18), aI 20 (aK 6 19),
 aI 21 (aC 52 [(aT 14), (aT 20)])] true)⟩
def ac102 : AF := ⟨56, [.tmp 2], aQ [aI 2 (.move (.av (.str [])))] (aQ [aI 3 (.move (.av (.str [47])))]
 (aQ [aI 4 (.move (.av (.str [48, 49, 50, 51, 52, 53, 54, 55, 56, 57, 65, 66, 67, 68, 69, 70])))] (.seq (aQ [aI 5 (.move (aN 0))] (.block 0
 (.loop (.seq (aQ [aM 7 5, aM 8 0, aI 9 (.len .str (aT 8)), aI 10 (aB .lss (aT 7) (aT 9))] (.cond (aT 10) (.skip) (.exit 0))) (.seq (.block 1
 (aQ [aM 13 0, aM 14 5, aI 15 (.indexStr (aT 13) (aT 14)), aM 6 15] (aQ [aM 16 6, aI 17 (aC 156 [(aT 16)]), aM 18 17,
 aG 19 18 true (aV 6), aG 20 18 true (.bin .neq .other false (aT 19) (.av (.int .u8 35))), aI 21 (.pick (aT 18) (aT 20) (.av (.bool false))), aM 22 21,
 aG 23 22 true (aV 6), aG 24 22 true (.bin .geq .other false (aT 23) (.av (.int .u8 33))), aI 25 (.pick (aT 22) (aT 24) (.av (.bool false))), aM 26 25,
 aG 27 26 true (aV 6), aG 28 26 true (.bin .leq .other false (aT 27) (.av (.int .u8 126))), aI 29 (.pick (aT 26) (aT 28) (.av (.bool false)))] (.cond (aT 29)
 (aR [aM 30 3, aM 31 0, aM 32 5, aM 33 5, aI 34 (aB .add (aT 33) (aN 1)), aI 35 (.slice .str (aT 31) (some (aT 32)) (some (aT 34))),
 aI 36 (.bin .add .other false (aT 30) (aT 35)), aM 3 36]) (.region [aM 37 3, aI 38 (.bin .add .other false (aT 37) (.av (.str [35]))), aM 39 4, aM 40 6,
 aI 41 (.bin .quo .other false (aT 40) (.av (.int .u8 16))), aM 42 6, aI 43 (.bin .quo .other false (aT 42) (.av (.int .u8 16))),
 aI 44 (.bin .add .other false (aT 43) (.av (.int .u8 1))), aI 45 (.slice .str (aT 39) (some (aT 41)) (some (aT 44))), aI 46 (.bin .add .other false (aT 38) (aT 45)), aM 47 4,
 aM 48 6, aI 49 (.bin .rem .other false (aT 48) (.av (.int .u8 16))), aM 50 6, aI 51 (.bin .rem .other false (aT 50) (.av (.int .u8 16))),
 aI 52 (.bin .add .other false (aT 51) (.av (.int .u8 1))), aI 53 (.slice .str (aT 47) (some (aT 49)) (some (aT 52))), aI 54 (.bin .add .other false (aT 46) (aT 53)),
 aM 3 54] true))))) (aR [aM 11 5, aI 12 (aB .add (aT 11) (aN 1)), aM 5 12])))))) (aQ [aM 55 3, aM 2 55] (.ret)))))⟩
def ac103 : AF := ⟨96, [.tmp 2], aQ [aI 2 (.move (.av (.str [])))] (aQ [aI 3 (.move (.av (.str [40])))]
 (.seq (aQ [aI 4 (.move (aN 0))] (.block 0 (.loop (.seq (aQ [aM 7 4, aM 8 0, aI 9 (.len .str (aT 8)),
 aI 10 (aB .lss (aT 7) (aT 9))] (.cond (aT 10) (.skip) (.exit 0))) (.seq (.block 1 (aQ [aM 13 0, aM 14 4, aI 15 (.indexStr (aT 13) (aT 14)),
 aM 5 15] (aQ [aI 6 (.move (aN 0))] (.seq (.block 2 (.loop (.seq (aQ [aM 16 6, aI 17 (aB .lss (aT 16) (aN 5)), aM 18 17,
 aG 19 18 true (aV 6), aG 20 18 true (.indexStr (.av (.str [10, 13, 9, 8, 12])) (aT 19)), aG 21 18 true (aV 5),
 aG 22 18 true (.bin .neq .other false (aT 20) (aT 21)), aI 23 (.pick (aT 18) (aT 22) (.av (.bool false)))] (.cond (aT 23) (.skip) (.exit 2))) (.block 3 (aR [aM 24 6,
 aI 25 (aB .add (aT 24) (aN 1)), aM 6 25]))))) (.block 4 (aQ [aM 34 6, aI 35 (aB .lss (aT 34) (aN 5)), aM 33 35] (.cond (aT 33)
 (aR [aM 36 3, aI 37 (.bin .add .other false (aT 36) (.av (.str [92]))), aM 38 6, aM 39 6, aI 40 (aB .add (aT 39) (aN 1)),
 aI 41 (.slice .str (.av (.str [110, 114, 116, 98, 102])) (some (aT 38)) (some (aT 40))), aI 42 (.bin .add .other false (aT 37) (aT 41)), aM 3 42]) (aQ [aM 44 5,
 aI 45 (.bin .eql .other false (aT 44) (.av (.int .u8 40))), aM 46 45, aG 47 46 false (aV 5), aG 48 46 false (.bin .eql .other false (aT 47) (.av (.int .u8 41))),
 aI 49 (.pick (aT 46) (.av (.bool true)) (aT 48)), aM 50 49, aG 51 50 false (aV 5), aG 52 50 false (.bin .eql .other false (aT 51) (.av (.int .u8 92))),
 aI 53 (.pick (aT 50) (.av (.bool true)) (aT 52)), aM 43 53] (.cond (aT 43) (aR [aM 54 3, aI 55 (.bin .add .other false (aT 54) (.av (.str [92]))), aM 56 0, aM 57 4,
 aM 58 4, aI 59 (aB .add (aT 58) (aN 1)), aI 60 (.slice .str (aT 56) (some (aT 57)) (some (aT 59))), aI 61 (.bin .add .other false (aT 55) (aT 60)), aM 3 61])
 (aQ [aM 63 5, aI 64 (.bin .lss .other false (aT 63) (.av (.int .u8 32))), aM 65 64, aG 66 65 false (aV 5),
 aG 67 65 false (.bin .gtr .other false (aT 66) (.av (.int .u8 126))), aI 68 (.pick (aT 65) (.av (.bool true)) (aT 67)), aM 62 68] (.cond (aT 62) (.region [aM 69 3,
 aI 70 (.bin .add .other false (aT 69) (.av (.str [92]))), aM 71 5, aI 72 (.bin .quo .other false (aT 71) (.av (.int .u8 64))), aM 73 5,
 aI 74 (.bin .quo .other false (aT 73) (.av (.int .u8 64))), aI 75 (.bin .add .other false (aT 74) (.av (.int .u8 1))),
 aI 76 (.slice .str (.av (.str [48, 49, 50, 51, 52, 53, 54, 55])) (some (aT 72)) (some (aT 75))), aI 77 (.bin .add .other false (aT 70) (aT 76)), aM 78 5,
 aI 79 (.bin .quo .other false (aT 78) (.av (.int .u8 8))), aI 80 (.bin .rem .other false (aT 79) (.av (.int .u8 8))), aM 81 5,
 aI 82 (.bin .quo .other false (aT 81) (.av (.int .u8 8))), aI 83 (.bin .rem .other false (aT 82) (.av (.int .u8 8))), aI 84 (.bin .add .other false (aT 83) (.av (.int .u8 1))),
 aI 85 (.slice .str (.av (.str [48, 49, 50, 51, 52, 53, 54, 55])) (some (aT 80)) (some (aT 84))), aI 86 (.bin .add .other false (aT 77) (aT 85)), aM 87 5,
 aI 88 (.bin .rem .other false (aT 87) (.av (.int .u8 8))), aM 89 5, aI 90 (.bin .rem .other false (aT 89) (.av (.int .u8 8))),
 aI 91 (.bin .add .other false (aT 90) (.av (.int .u8 1))), aI 92 (.slice .str (.av (.str [48, 49, 50, 51, 52, 53, 54, 55])) (some (aT 88)) (some (aT 91))),
 aI 93 (.bin .add .other false (aT 86) (aT 92)), aM 3 93] true) (aR [aM 26 3, aM 27 0, aM 28 4, aM 29 4, aI 30 (aB .add (aT 29) (aN 1)),
 aI 31 (.slice .str (aT 27) (some (aT 28)) (some (aT 30))), aI 32 (.bin .add .other false (aT 26) (aT 31)), aM 3 32])))))))))))) (aR [aM 11 4,
 aI 12 (aB .add (aT 11) (aN 1)), aM 4 12])))))) (aQ [aM 94 3, aI 95 (.bin .add .other false (aT 94) (.av (.str [41]))), aM 2 95] (.ret))))⟩
def ac106 : AF := ⟨45, [.cell 6 (some 6)], aQ [aI 3 (.box 26 (aT 0)), aI 4 (.box 9 (aT 1)), aI 5 (.box 26 (aT 2)),
 aI 6 (.alloc 26 [(.int .i64 0), (.int .i64 0), (.int .i64 0), (.str []), (.lit (.slice none 0 0)), (.lit (.slice none 0 0))])]
 (.seq (aQ [aI 9 (aK 6 3), aI 10 (aC 159 [(aT 9)]), aI 11 (.un .not false (aT 10))] (.cond (aT 11)
 (aQ [aI 12 (aK 6 3), aJ (.store 6 (aT 6) (aT 12))] (.ret)) (.skip))) (aQ [aI 13 (aF 5 3), aI 14 (aL 13),
 aI 15 (aL 4), aI 16 (aC 160 [(aT 14), (aT 15)]), aM 7 16] (aQ [aI 17 (aF 5 3),
 aI 18 (aL 17), aI 19 (aC 162 [(aT 18)]), aI 20 (.mkFunc (.func 163) [] [(aT 4)]),
 aI 21 (aC 161 [(aT 19), (aT 20)]), aM 8 21] (.seq (.block 0 (aQ [aI 30 (aF 0 5), aI 31 (aL 30),
 aI 32 (aB .eql (aT 31) (aN 0)), aM 29 32] (.cond (aT 29) (.skip) (aQ [aM 34 7, aI 35 (aB .lss (aT 34) (aN 0)), aM 33 35]
 (.cond (aT 33) (aR [aM 36 8, aI 37 (aL 4), aI 38 (aK 6 5),
 aI 39 (.build [(.str []), (.int .i64 0), (.int .i64 0), (.int .i64 0), (.str []), (.lit (.slice none 0 0)), (.lit (.slice none 0 0))] [(0, 1, (aT 37)), (1, 6, (aT 38))]),
 aI 40 (.buildSlice false 106 7 1 [(.str []), (.int .i64 0), (.int .i64 0), (.int .i64 0), (.str []), (.lit (.slice none 0 0)), (.lit (.slice none 0 0))] [(0, (aT 39))]),
 aI 41 (.append 106 7 104 [(.str []), (.int .i64 0), (.int .i64 0), (.int .i64 0), (.str []), (.lit (.slice none 0 0)), (.lit (.slice none 0 0))] (aT 36) (aT 40)), aM 8 41])
 (aR [aM 22 8, aM 23 7, aI 24 (aL 4), aI 25 (aK 6 5),
 aI 26 (.build [(.str []), (.int .i64 0), (.int .i64 0), (.int .i64 0), (.str []), (.lit (.slice none 0 0)), (.lit (.slice none 0 0))] [(0, 1, (aT 24)), (1, 6, (aT 25))]),
 aI 27 (.buildSlice false 106 7 1 [(.str []), (.int .i64 0), (.int .i64 0), (.int .i64 0), (.str []), (.lit (.slice none 0 0)), (.lit (.slice none 0 0))] [(0, (aT 26))]),
 aI 28 (aC 164 [(aT 22), (aT 23), (aT 27)]), aM 8 28])))))) (aQ [aM 42 8, aI 43 (aF 5 3),
 aJ (.store 1 (aT 43) (aT 42))] (aQ [aI 44 (aK 6 3), aJ (.store 6 (aT 6) (aT 44))] (.ret)))))))⟩
def ac107 : AF := ⟨15, [.cell 2 (some 6)],
 aQ [aI 2 (.alloc 26 [(.int .i64 0), (.int .i64 0), (.int .i64 0), (.str []), (.lit (.slice none 0 0)), (.lit (.slice none 0 0))])] (aQ [aM 6 0,
 aI 7 (aC 165 [(aT 6)]), aM 5 7, aI 8 (aE 5 0), aI 9 (aE 5 1), aM 3 8, aM 4 9] (.seq (aQ [aM 10 4,
 aI 11 (aB .neq (aT 10) (aN 0))] (.cond (aT 11)
 (aQ [aI 12 (.build [(.int .i64 0), (.int .i64 0), (.int .i64 0), (.str []), (.lit (.slice none 0 0)), (.lit (.slice none 0 0))] []),
 aJ (.store 6 (aT 2) (aT 12))] (.ret)) (.skip))) (aQ [aM 13 3,
 aI 14 (.build [(.int .i64 0), (.int .i64 0), (.int .i64 0), (.str []), (.lit (.slice none 0 0)), (.lit (.slice none 0 0))] [(0, 1, (aN 2)), (1, 1, (aN 1)), (2, 1, (aT 13))]),
 aJ (.store 6 (aT 2) (aT 14))] (.ret))))⟩
def ac108 : AF := ⟨15, [.tmp 2, .tmp 3], aQ [aI 2 (.move (aN 0)), aI 3 (.move (aN 0))] (.seq (aQ [aM 4 0,
 aI 5 (aB .lss (aT 4) (aN (-3000000))), aM 6 5, aG 7 6 false (aV 0), aG 8 6 false (aB .gtr (aT 7) (aN 3000000)),
 aI 9 (.pick (aT 6) (.av (.bool true)) (aT 8))] (.cond (aT 9) (aQ [aI 2 (.move (aN 0)), aI 3 (.move (aN 2))] (.ret)) (.skip))) (aQ [aM 10 0,
 aI 11 (aB .mul (aN 1000) (aT 10)), aI 12 (aC 166 [(aT 11)]), aI 13 (aE 12 0), aI 14 (aE 12 1), aM 2 13,
 aM 3 14] (.ret)))⟩
def ac109 : AF := ⟨9, [.tmp 2], aQ [aI 2 (.move (.av (.bool false)))] (aQ [aM 3 0, aI 4 (aB .geq (aT 3) (aN (-2147483648))), aM 5 4,
 aG 6 5 true (aV 0), aG 7 5 true (aB .leq (aT 6) (aN 2147483648)), aI 8 (.pick (aT 5) (aT 7) (.av (.bool false))), aM 2 8] (.ret))⟩
def ac110 : AF := ⟨19, [.tmp 2], aQ [aI 2 (.move (.av (.str [])))] (.seq (aQ [aM 3 0, aI 4 (aB .lss (aT 3) (aN 10))] (.cond (aT 4)
 (aQ [aM 5 0, aM 6 0, aI 7 (aB .add (aT 6) (aN 1)), aI 8 (.slice .str (.av (.str [48, 49, 50, 51, 52, 53, 54, 55, 56, 57])) (some (aT 5)) (some (aT 7))),
 aM 2 8] (.ret)) (.skip))) (.seq (.region [aM 9 0, aI 10 (aB .quo (aT 9) (aN 10)), aI 11 (aC 110 [(aT 10)]), aM 12 0,
 aI 13 (aB .rem (aT 12) (aN 10)), aM 14 0, aI 15 (aB .rem (aT 14) (aN 10)), aI 16 (aB .add (aT 15) (aN 1)),
 aI 17 (.slice .str (.av (.str [48, 49, 50, 51, 52, 53, 54, 55, 56, 57])) (some (aT 13)) (some (aT 16))), aI 18 (.bin .add .other false (aT 11) (aT 17)), aM 2 18] true) (.ret)))⟩
def ac111 : AF := ⟨64, [.tmp 4], aQ [aI 2 (.box 26 (aT 0)), aI 4 (.move (aN 0))] (aQ [aI 7 (aF 2 2), aI 8 (aL 7),
 aI 9 (aB .rem (aT 8) (aN 1000)), aI 10 (aB .neq (aT 9) (aN 0)), aM 5 10] (aQ [aI 6 (.move (.av (.bool false)))]
 (.seq (aQ [aI 11 (aF 0 2), aI 12 (aL 11)] (.block 0 (.seq (aQ [aI 14 (aB .eql (aT 12) (aN 0)),
 aM 13 14] (.cond (aT 13) (.skip) (aQ [aI 15 (aB .eql (aT 12) (aN 3)), aM 13 15] (.cond (aT 13) (.skip)
 (aQ [aI 16 (aB .eql (aT 12) (aN 4)), aM 13 16] (.cond (aT 13) (.skip) (aR [aI 17 (aB .eql (aT 12) (aN 5)),
 aM 13 17]))))))) (.cond (aT 13) (.skip) (aQ [aI 19 (aB .eql (aT 12) (aN 1)), aM 18 19] (.cond (aT 18) (aR [aI 20 (aF 1 2),
 aI 21 (aL 20), aI 22 (aB .andNot (aT 21) (aN 1)), aI 23 (aB .neq (aT 22) (aN 0)), aM 6 23])
 (aQ [aI 25 (aB .eql (aT 12) (aN 2)), aM 24 25] (.cond (aT 24) (aR [aI 26 (aF 1 2), aI 27 (aL 26),
 aI 28 (aB .andNot (aT 27) (aN 1)), aI 29 (aB .neq (aT 28) (aN 0)), aM 30 29, aG 31 30 false (aF 1 2),
 aG 32 30 false (aL 31), aG 33 30 false (aB .eql (aT 32) (aN 1)), aG 34 30 false (aV 33), aG 35 34 true (aV 5),
 aG 36 30 false (.pick (aT 34) (aT 35) (.av (.bool false))), aI 37 (.pick (aT 30) (.av (.bool true)) (aT 36)), aM 6 37])
 (aQ [aI 39 (aB .eql (aT 12) (aN 7)), aM 38 39] (.cond (aT 38) (aR [aI 40 (aF 1 2), aI 41 (aL 40),
 aI 42 (aB .lss (aT 41) (aN 0)), aM 43 42, aG 44 43 false (aF 2 2), aG 45 43 false (aL 44),
 aG 46 43 false (aB .lss (aT 45) (aN 0)), aI 47 (.pick (aT 43) (.av (.bool true)) (aT 46)), aM 48 47, aG 49 48 false (aV 5),
 aI 50 (.pick (aT 48) (.av (.bool true)) (aT 49)), aM 6 50]) (aQ [aI 52 (aB .eql (aT 12) (aN 8)), aM 51 52] (.cond (aT 51)
 (.seq (aQ [aM 53 1, aI 54 (aB .gtr (aT 53) (aN 0))] (.cond (aT 54) (aQ [aI 4 (.move (aN 1))] (.ret)) (.skip)))
 (aQ [aI 55 (aF 5 2), aI 56 (aL 55), aI 57 (aC 167 [(aT 56)]), aM 4 57] (.ret)))
 (aQ [aI 59 (aB .eql (aT 12) (aN 6)), aM 58 59] (.cond (aT 58) (aQ [aI 60 (aF 5 2), aI 61 (aL 60),
 aI 62 (aC 167 [(aT 61)]), aM 4 62] (.ret)) (aR [aI 6 (.move (.av (.bool true)))])))))))))))))))
 (.seq (aQ [aM 63 6] (.cond (aT 63) (aQ [aI 4 (.move (aN 1))] (.ret)) (.skip))) (aQ [aI 4 (.move (aN 0))] (.ret))))))⟩
def ac112 : AF := ⟨52, [.tmp 4], aQ [aI 2 (.box 26 (aT 0)), aI 4 (.move (aN 0))] (aQ [aI 6 (aF 5 2), aI 7 (aL 6),
 aI 8 (.len (.slice 7) (aT 7)), aM 5 8] (.seq (aQ [aI 9 (aF 0 2), aI 10 (aL 9), aI 11 (aB .eql (aT 10) (aN 5))]
 (.cond (aT 11) (aR [aI 12 (aF 4 2), aI 13 (aL 12), aI 14 (.len (.slice 6) (aT 13)), aM 5 14]) (.skip))) (.seq (.block 0
 (.seq (aQ [aI 16 (aF 0 2), aI 17 (aL 16), aI 18 (aB .eql (aT 17) (aN 2)), aM 19 18, aG 20 19 true (aF 2 2),
 aG 21 19 true (aL 20), aG 22 19 true (.buildSlice false 22 1 1 [(.int .i64 0)] [(0, (aT 21))]), aG 23 19 true (aC 117 [(aT 22)]),
 aG 24 19 true (.un .not false (aT 23)), aI 25 (.pick (aT 19) (aT 24) (.av (.bool false))), aM 15 25] (.cond (aT 15) (.skip) (aR [aI 26 (aF 0 2),
 aI 27 (aL 26), aI 28 (aB .eql (aT 27) (aN 7)), aM 29 28, aG 30 29 true (aF 2 2), aG 31 29 true (aL 30),
 aG 32 29 true (.buildSlice false 22 1 1 [(.int .i64 0)] [(0, (aT 31))]), aG 33 29 true (aC 117 [(aT 32)]), aG 34 29 true (.un .not false (aT 33)),
 aG 35 29 true (aV 34), aG 36 35 false (aF 1 2), aG 37 35 false (aL 36), aG 38 35 false (aB .gtr (aT 37) (aN 2147483)),
 aG 39 29 true (.pick (aT 35) (.av (.bool true)) (aT 38)), aI 40 (.pick (aT 29) (aT 39) (.av (.bool false))), aM 15 40]))) (.cond (aT 15)
 (aQ [aI 4 (.move (aN 2))] (.ret)) (aQ [aI 42 (aF 0 2), aI 43 (aL 42),
 aI 44 (aC 168 [(aT 43)]), aI 45 (.un .not false (aT 44)), aM 41 45] (.cond (aT 41) (aQ [aI 4 (.move (aN 0))] (.ret))
 (aQ [aM 47 5, aI 48 (aB .gtr (aT 47) (aN 1024)), aM 46 48] (.cond (aT 46) (aQ [aI 4 (.move (aN 6))] (.ret))
 (aQ [aM 50 1, aI 51 (aB .geq (aT 50) (aN 64)), aM 49 51] (.cond (aT 49) (aQ [aI 4 (.move (aN 5))] (.ret)) (.skip))))))))))
 (aQ [aI 4 (.move (aN 0))] (.ret)))))⟩
def ac113 : AF := ⟨29, [.tmp 2], aQ [aI 1 (.box 26 (aT 0)), aI 2 (.move (.av (.lit (.slice none 0 0))))] (.seq (aQ [aI 6 (aF 0 1),
 aI 7 (aL 6)] (.block 0 (aQ [aI 9 (aB .eql (aT 7) (aN 5)), aM 8 9] (.cond (aT 8) (aQ [aI 10 (aF 4 1),
 aI 11 (aL 10), aM 2 11] (.ret)) (.seq (aQ [aI 13 (aB .eql (aT 7) (aN 6)), aM 12 13] (.cond (aT 12) (.skip)
 (aR [aI 14 (aB .eql (aT 7) (aN 8)), aM 12 14]))) (.cond (aT 12) (aQ [aI 3 (.move (.av (.lit (.slice none 0 0))))]
 (.seq (aQ [aI 15 (aF 5 1), aI 16 (aL 15), aI 17 (.len (.slice 7) (aT 16)), aI 18 (.move (aN 0))] (.block 1 (.loop
 (aQ [aI 19 (aB .lss (aT 18) (aT 17))] (.seq (.cond (aT 19) (.skip) (.exit 1)) (.seq (.block 2
 (aQ [aI 20 (.indexAddr none 7 (aT 16) (aT 18)), aI 21 (aK 7 20),
 aI 5 (.alloc 106 [(.str []), (.int .i64 0), (.int .i64 0), (.int .i64 0), (.str []), (.lit (.slice none 0 0)), (.lit (.slice none 0 0))]), aJ (.store 7 (aT 5) (aT 21))]
 (aR [aM 22 3, aI 23 (aF 1 5), aI 24 (aK 6 23),
 aI 25 (.buildSlice false 26 6 1 [(.int .i64 0), (.int .i64 0), (.int .i64 0), (.str []), (.lit (.slice none 0 0)), (.lit (.slice none 0 0))] [(0, (aT 24))]),
 aI 26 (.append 26 6 88 [(.int .i64 0), (.int .i64 0), (.int .i64 0), (.str []), (.lit (.slice none 0 0)), (.lit (.slice none 0 0))] (aT 22) (aT 25)), aM 3 26])))
 (aR [aI 27 (aB .add (aT 18) (aN 1)), aM 18 27]))))))) (aQ [aM 28 3, aM 2 28] (.ret)))) (.skip)))))))
 (aQ [aI 2 (.move (.av (.lit (.slice none 0 0))))] (.ret)))⟩
def ac114 : AF := ⟨175, [.tmp 4], aQ [aI 2 (.box 26 (aT 0)), aI 4 (.move (aN 0))] (aQ [aI 8 (aF 2 2), aI 9 (aL 8),
 aI 10 (aB .rem (aT 9) (aN 1000)), aI 11 (aB .neq (aT 10) (aN 0)), aM 5 11] (.seq (.block 0 (.seq (aQ [aI 13 (aF 0 2),
 aI 14 (aL 13), aI 15 (aB .lss (aT 14) (aN 0)), aM 16 15, aG 17 16 false (aF 0 2), aG 18 16 false (aL 17),
 aG 19 16 false (aB .gtr (aT 18) (aN 8)), aI 20 (.pick (aT 16) (.av (.bool true)) (aT 19)), aM 12 20] (.cond (aT 12) (.skip)
 (aQ [aI 21 (aF 0 2), aI 22 (aL 21), aI 23 (aB .eql (aT 22) (aN 1)), aM 24 23, aG 25 24 false (aF 0 2),
 aG 26 24 false (aL 25), aG 27 24 false (aB .eql (aT 26) (aN 2)), aI 28 (.pick (aT 24) (.av (.bool true)) (aT 27)), aM 29 28,
 aG 30 29 true (aF 1 2), aG 31 29 true (aL 30), aG 32 29 true (aB .neq (aT 31) (aN 0)), aI 33 (.pick (aT 29) (aT 32) (.av (.bool false))),
 aM 34 33, aG 35 34 true (aF 1 2), aG 36 34 true (aL 35), aG 37 34 true (aB .neq (aT 36) (aN 1)),
 aI 38 (.pick (aT 34) (aT 37) (.av (.bool false))), aM 12 38] (.cond (aT 12) (.skip) (aR [aI 39 (aF 0 2), aI 40 (aL 39),
 aI 41 (aB .eql (aT 40) (aN 2)), aM 42 41, aG 43 42 true (aF 1 2), aG 44 42 true (aL 43),
 aG 45 42 true (aB .eql (aT 44) (aN 1)), aI 46 (.pick (aT 42) (aT 45) (.av (.bool false))), aM 47 46, aG 48 47 true (aV 5),
 aI 49 (.pick (aT 47) (aT 48) (.av (.bool false))), aM 12 49]))))) (.cond (aT 12) (aQ [aI 4 (.move (aN 1))] (.ret))
 (.seq (aQ [aI 51 (aF 0 2), aI 52 (aL 51), aI 53 (aB .eql (aT 52) (aN 7)), aM 54 53, aG 55 54 true (aF 1 2),
 aG 56 54 true (aL 55), aG 57 54 true (aB .lss (aT 56) (aN 0)), aG 58 54 true (aV 57), aG 59 58 false (aF 2 2),
 aG 60 58 false (aL 59), aG 61 58 false (aB .lss (aT 60) (aN 0)), aG 62 54 true (.pick (aT 58) (.av (.bool true)) (aT 61)),
 aG 63 54 true (aV 62), aG 64 63 false (aV 5), aG 65 54 true (.pick (aT 63) (.av (.bool true)) (aT 64)), aI 66 (.pick (aT 54) (aT 65) (.av (.bool false))),
 aM 50 66] (.cond (aT 50) (.skip) (aR [aI 67 (aF 0 2), aI 68 (aL 67), aI 69 (aB .eql (aT 68) (aN 8)), aM 70 69,
 aG 71 70 true (aV 1), aG 72 70 true (aB .gtr (aT 71) (aN 0)), aI 73 (.pick (aT 70) (aT 72) (.av (.bool false))), aM 50 73]))) (.cond (aT 50)
 (aQ [aI 4 (.move (aN 1))] (.ret)) (.skip)))))) (.seq (aQ [aI 74 (aF 0 2), aI 75 (aL 74),
 aI 76 (aB .eql (aT 75) (aN 6)), aM 77 76, aG 78 77 false (aF 0 2), aG 79 77 false (aL 78),
 aG 80 77 false (aB .eql (aT 79) (aN 8)), aI 81 (.pick (aT 77) (.av (.bool true)) (aT 80))] (.cond (aT 81) (aQ [aI 6 (.move (aN 0))]
 (.block 1 (.loop (.seq (aQ [aM 82 6, aI 83 (aF 5 2), aI 84 (aL 83), aI 85 (.len (.slice 7) (aT 84)),
 aI 86 (aB .lss (aT 82) (aT 85))] (.cond (aT 86) (.skip) (.exit 1))) (.seq (.block 2 (.seq (aQ [aI 89 (aF 5 2),
 aI 90 (aL 89), aM 91 6, aI 92 (.indexAddr none 7 (aT 90) (aT 91)), aI 93 (aF 1 92), aI 94 (aF 0 93), aI 95 (aL 94),
 aI 96 (aB .eql (aT 95) (aN 0))] (.cond (aT 96) (aQ [aI 4 (.move (aN 1))] (.ret)) (.skip))) (aQ [aI 7 (.move (aN 0))]
 (.block 3 (.loop (.seq (aQ [aM 97 7, aM 98 6, aI 99 (aB .lss (aT 97) (aT 98))] (.cond (aT 99) (.skip) (.exit 3))) (.seq (.block 4
 (.seq (.region [aI 102 (aF 5 2), aI 103 (aL 102), aM 104 7, aI 105 (.indexAddr none 7 (aT 103) (aT 104)), aI 106 (aF 0 105),
 aI 107 (aL 106), aI 108 (aF 5 2), aI 109 (aL 108), aM 110 6, aI 111 (.indexAddr none 7 (aT 109) (aT 110)), aI 112 (aF 0 111),
 aI 113 (aL 112), aI 114 (.bin .eql .other false (aT 107) (aT 113))] true) (.cond (aT 114) (aQ [aI 4 (.move (aN 1))] (.ret)) (.skip))))
 (aR [aM 100 7, aI 101 (aB .add (aT 100) (aN 1)), aM 7 101])))))))) (aR [aM 87 6, aI 88 (aB .add (aT 87) (aN 1)), aM 6 88]))))))
 (.skip))) (.seq (.block 5 (.seq (aQ [aI 116 (aF 0 2), aI 117 (aL 116), aI 118 (aB .eql (aT 117) (aN 2)), aM 119 118,
 aG 120 119 false (aF 0 2), aG 121 119 false (aL 120), aG 122 119 false (aB .eql (aT 121) (aN 7)),
 aI 123 (.pick (aT 119) (.av (.bool true)) (aT 122)), aM 124 123, aG 125 124 true (aF 2 2), aG 126 124 true (aL 125),
 aG 127 124 true (aC 109 [(aT 126)]), aG 128 124 true (.un .not false (aT 127)), aI 129 (.pick (aT 124) (aT 128) (.av (.bool false))),
 aM 115 129] (.cond (aT 115) (.skip) (aR [aI 130 (aF 0 2), aI 131 (aL 130), aI 132 (aB .eql (aT 131) (aN 7)), aM 133 132,
 aG 134 133 true (aF 1 2), aG 135 133 true (aL 134), aG 136 133 true (aB .gtr (aT 135) (aN 2147483)),
 aI 137 (.pick (aT 133) (aT 136) (.av (.bool false))), aM 115 137]))) (.cond (aT 115) (aQ [aI 4 (.move (aN 2))] (.ret))
 (.seq (aQ [aI 139 (aF 0 2), aI 140 (aL 139), aI 141 (aB .eql (aT 140) (aN 5)), aM 142 141,
 aG 143 142 true (aF 4 2), aG 144 142 true (aL 143), aG 145 142 true (.len (.slice 6) (aT 144)),
 aG 146 142 true (aB .gtr (aT 145) (aN 1024)), aI 147 (.pick (aT 142) (aT 146) (.av (.bool false))), aM 138 147] (.cond (aT 138) (.skip)
 (aR [aI 148 (aF 0 2), aI 149 (aL 148), aI 150 (aB .eql (aT 149) (aN 6)), aM 151 150, aG 152 151 false (aF 0 2),
 aG 153 151 false (aL 152), aG 154 151 false (aB .eql (aT 153) (aN 8)), aI 155 (.pick (aT 151) (.av (.bool true)) (aT 154)), aM 156 155,
 aG 157 156 true (aF 5 2), aG 158 156 true (aL 157), aG 159 156 true (.len (.slice 7) (aT 158)),
 aG 160 156 true (aB .gtr (aT 159) (aN 1024)), aI 161 (.pick (aT 156) (aT 160) (.av (.bool false))), aM 138 161]))) (.cond (aT 138)
 (aQ [aI 4 (.move (aN 6))] (.ret)) (aQ [aI 163 (aF 0 2), aI 164 (aL 163), aI 165 (aB .geq (aT 164) (aN 5)),
 aM 166 165, aG 167 166 true (aF 0 2), aG 168 166 true (aL 167), aG 169 166 true (aB .neq (aT 168) (aN 7)),
 aI 170 (.pick (aT 166) (aT 169) (.av (.bool false))), aM 171 170, aG 172 171 true (aV 1), aG 173 171 true (aB .gtr (aT 172) (aN 63)),
 aI 174 (.pick (aT 171) (aT 173) (.av (.bool false))), aM 162 174] (.cond (aT 162) (aQ [aI 4 (.move (aN 5))] (.ret)) (.skip))))))))
 (aQ [aI 4 (.move (aN 0))] (.ret))))))⟩
def ac117 : AF := ⟨18, [.tmp 2], aQ [aI 2 (.move (.av (.bool false)))] (.seq (aQ [aM 5 0, aI 6 (.len (.slice 1) (aT 5)), aI 7 (.move (aN 0))]
 (.block 0 (.loop (aQ [aI 8 (aB .lss (aT 7) (aT 6))] (.seq (.cond (aT 8) (.skip) (.exit 0)) (.seq (.block 1
 (aQ [aI 9 (.indexAddr none 1 (aT 5) (aT 7)), aI 10 (aL 9), aM 4 10] (aQ [aM 11 4,
 aI 12 (aB .lss (aT 11) (aN (-2147483648))), aM 13 12, aG 14 13 false (aV 4), aG 15 13 false (aB .gtr (aT 14) (aN 2147483648)),
 aI 16 (.pick (aT 13) (.av (.bool true)) (aT 15))] (.cond (aT 16) (aQ [aI 2 (.move (.av (.bool false)))] (.ret)) (.skip)))))
 (aR [aI 17 (aB .add (aT 7) (aN 1)), aM 7 17]))))))) (aQ [aI 2 (.move (.av (.bool true)))] (.ret)))⟩
def ac144 : AF := ⟨16, [.tmp 2], aQ [aI 2 (.move (.av (.bool false)))] (aQ [aI 3 (.move (.av (.str [40, 41, 60, 62, 91, 93, 123, 125, 47, 37])))]
 (.seq (aQ [aI 4 (.move (aN 0))] (.block 0 (.loop (.seq (aQ [aM 5 4, aM 6 3, aI 7 (.len .str (aT 6)),
 aI 8 (aB .lss (aT 5) (aT 7))] (.cond (aT 8) (.skip) (.exit 0))) (.seq (.block 1 (aQ [aM 11 3, aM 12 4, aI 13 (.indexStr (aT 11) (aT 12)), aM 14 0,
 aI 15 (.bin .eql .other false (aT 13) (aT 14))] (.cond (aT 15) (aQ [aI 2 (.move (.av (.bool true)))] (.ret)) (.skip)))) (aR [aM 9 4,
 aI 10 (aB .add (aT 9) (aN 1)), aM 4 10])))))) (aQ [aI 2 (.move (.av (.bool false)))] (.ret))))⟩
def ac149 : AF := ⟨4, [.tmp 2], aQ [aI 2 (.move (.av (.str [])))] (.seq (aQ [aM 3 0] (.cond (aT 3)
 (aQ [aI 2 (.move (.av (.str [116, 114, 117, 101])))] (.ret)) (.skip))) (aQ [aI 2 (.move (.av (.str [102, 97, 108, 115, 101])))] (.ret)))⟩
def ac150 : AF := ⟨11, [.tmp 2], aQ [aI 2 (.move (.av (.bool false)))] (aQ [aM 3 0, aI 4 (aC 178 [(aT 3)]),
 aI 5 (.un .not false (aT 4)), aM 6 5, aG 7 6 true (aV 0), aG 8 6 true (aC 179 [(aT 7)]), aG 9 6 true (.un .not false (aT 8)),
 aI 10 (.pick (aT 6) (aT 9) (.av (.bool false))), aM 2 10] (.ret))⟩
def ac151 : AF := ⟨8, [.tmp 4], aQ [aI 4 (.move (aN 0))] (aQ [aM 5 0, aM 6 1, aI 7 (aC 214 [(aT 5), (aT 6)]),
 aM 4 7] (.ret))⟩
def ac152 : AF := ⟨11, [.tmp 4, .tmp 5], aQ [aI 4 (.move (.av (.str []))), aI 5 (.move (.av (.bool false)))] (aQ [aM 6 0, aM 7 1,
 aI 8 (aC 215 [(aT 6), (aT 7)]), aI 9 (aE 8 0), aI 10 (aE 8 1), aM 4 9, aM 5 10] (.ret))⟩
def ac153 : AF := ⟨8, [.tmp 4], aQ [aI 4 (.move (.av (.str [])))] (aQ [aM 5 0, aM 6 1, aI 7 (aC 216 [(aT 5), (aT 6)]),
 aM 4 7] (.ret))⟩
def ac154 : AF := ⟨37, [.tmp 4], aQ [aI 4 (.move (.av (.str [])))] (.seq (aQ [aM 7 0, aI 8 (.bin .eql .other false (aT 7) (.av (.str []))), aM 9 8,
 aG 10 9 false (aV 1), aG 11 9 false (.bin .eql .other false (aT 10) (.av (.str []))), aI 12 (.pick (aT 9) (.av (.bool true)) (aT 11))] (.cond (aT 12)
 (aQ [aM 13 0, aM 4 13] (.ret)) (.skip))) (.seq (aQ [aM 14 1, aI 15 (.len .str (aT 14)), aI 16 (aB .eql (aT 15) (aN 1)), aM 17 16,
 aG 18 17 true (aV 1), aG 19 17 true (.indexStr (aT 18) (aN 0)), aG 20 17 true (.bin .lss .other false (aT 19) (.av (.int .u8 128))),
 aI 21 (.pick (aT 17) (aT 20) (.av (.bool false)))] (.cond (aT 21) (aQ [aM 22 0, aM 23 1, aI 24 (.indexStr (aT 23) (aN 0)),
 aI 25 (aC 217 [(aT 22), (aT 24)]), aM 4 25] (.ret)) (.skip))) (.seq (aQ [aM 27 1,
 aI 28 (aC 218 [(aT 27)]), aM 26 28, aI 29 (aE 26 0), aI 30 (aE 26 1), aI 5 (.alloc 241 (List.replicate 256 (.bool false))),
 aJ (.store 256 (aT 5) (aT 29)), aM 6 30] (aQ [aM 31 6] (.cond (aT 31) (aQ [aM 32 0,
 aI 33 (aC 219 [(aT 32), (aT 5)]), aM 4 33] (.ret)) (.skip)))) (aQ [aM 34 0, aM 35 1,
 aI 36 (aC 220 [(aT 34), (aT 35)]), aM 4 36] (.ret)))))⟩
def ac155 : AF := ⟨17, [], aQ [aI 5 (aL 1), aI 6 (.move (aN 0))] (.block 0 (.loop (aQ [aI 7 (aB .lss (aT 6) (aT 5))]
 (.seq (.cond (aT 7) (.skip) (.exit 0)) (.seq (.block 1 (aQ [aM 8 6, aM 4 8] (.seq (aQ [aM 9 4, aI 10 (aB .gtr (aT 9) (aN 0))]
 (.cond (aT 10) (aR [aM 11 0, aI 12 (aC 98 [(aT 11), (.av (.int .u8 32))])]) (.skip))) (aR [aI 13 (aL 2), aM 14 4,
 aI 15 (.call (aT 13) [(aT 14)])])))) (aR [aI 16 (aB .add (aT 6) (aN 1)), aM 6 16]))))))⟩
def ac156 : AF := ⟨11, [.tmp 2], aQ [aI 2 (.move (.av (.bool false)))] (aQ [aM 3 0, aI 4 (aC 206 [(aT 3)]),
 aI 5 (.un .not false (aT 4)), aM 6 5, aG 7 6 true (aV 0), aG 8 6 true (aC 144 [(aT 7)]), aG 9 6 true (.un .not false (aT 8)),
 aI 10 (.pick (aT 6) (aT 9) (.av (.bool false))), aM 2 10] (.ret))⟩
def ac159 : AF := ⟨11, [.tmp 2], aQ [aI 1 (.box 26 (aT 0)), aI 2 (.move (.av (.bool false)))] (aQ [aI 3 (aF 0 1), aI 4 (aL 3),
 aI 5 (aB .eql (aT 4) (aN 6)), aM 6 5, aG 7 6 false (aF 0 1), aG 8 6 false (aL 7), aG 9 6 false (aB .eql (aT 8) (aN 8)),
 aI 10 (.pick (aT 6) (.av (.bool true)) (aT 9)), aM 2 10] (.ret))⟩
def ac160 : AF := ⟨8, [.tmp 4], aQ [aI 3 (.box 9 (aT 1)), aI 4 (.move (aN 0))] (aQ [aM 5 0, aI 6 (.mkFunc (.func 226) [] [(aT 3)]),
 aI 7 (aC 225 [(aT 5), (aT 6)]), aM 4 7] (.ret))⟩
def ac161 : AF := ⟨42, [.tmp 4], aQ [aI 4 (.move (.av (.lit (.slice none 0 0))))] (aQ [aM 8 0, aM 9 1,
 aI 10 (aC 225 [(aT 8), (aT 9)]), aM 5 10] (.seq (aQ [aM 11 5, aI 12 (aB .eql (aT 11) (aN (-1)))]
 (.cond (aT 12) (aQ [aM 13 0, aM 4 13] (.ret)) (.skip))) (.seq (aQ [aM 14 5, aI 15 (aB .add (aT 14) (aN 1)), aM 6 15] (.block 0
 (.loop (.seq (aQ [aM 16 6, aM 17 0, aI 18 (.len (.slice 7) (aT 17)), aI 19 (aB .lss (aT 16) (aT 18))] (.cond (aT 19) (.skip) (.exit 0)))
 (.seq (.block 1 (aQ [aM 22 0, aM 23 6, aI 24 (.indexAddr none 7 (aT 22) (aT 23)), aI 25 (aK 7 24),
 aI 7 (.alloc 106 [(.str []), (.int .i64 0), (.int .i64 0), (.int .i64 0), (.str []), (.lit (.slice none 0 0)), (.lit (.slice none 0 0))]), aJ (.store 7 (aT 7) (aT 25))]
 (aQ [aM 26 1, aI 27 (aK 7 7), aI 28 (.call (aT 26) [(aT 27)]), aI 29 (.un .not false (aT 28))] (.cond (aT 29) (aQ [aM 30 0, aM 31 5,
 aI 32 (aK 7 7), aI 33 (.indexAddr none 7 (aT 30) (aT 31)), aJ (.store 7 (aT 33) (aT 32))] (aR [aM 34 5, aI 35 (aB .add (aT 34) (aN 1)),
 aM 5 35])) (.skip))))) (aR [aM 20 6, aI 21 (aB .add (aT 20) (aN 1)), aM 6 21])))))) (aQ [aM 36 0, aM 37 5,
 aI 38 (.slice (.slice 7) (aT 36) (some (aT 37)) none),
 aJ (.xop (.clear 7 [(.str []), (.int .i64 0), (.int .i64 0), (.int .i64 0), (.str []), (.lit (.slice none 0 0)), (.lit (.slice none 0 0))]) [(aT 38)])]
 (aQ [aM 39 0, aM 40 5, aI 41 (.slice (.slice 7) (aT 39) none (some (aT 40))), aM 4 41] (.ret))))))⟩
def ac162 : AF := ⟨8, [.tmp 2], aQ [aI 2 (.move (.av (.lit (.slice none 0 0))))] (.seq (aQ [aM 3 0,
 aI 4 (.bin .eql .slice false (aT 3) (.av (.lit (.slice none 0 0))))] (.cond (aT 4) (aQ [aI 2 (.move (.av (.lit (.slice none 0 0))))] (.ret)) (.skip)))
 (aQ [aI 5 (.buildSlice true 106 7 0 [(.str []), (.int .i64 0), (.int .i64 0), (.int .i64 0), (.str []), (.lit (.slice none 0 0)), (.lit (.slice none 0 0))] []),
 aM 6 0, aI 7 (.append 106 7 104 [(.str []), (.int .i64 0), (.int .i64 0), (.int .i64 0), (.str []), (.lit (.slice none 0 0)), (.lit (.slice none 0 0))] (aT 5) (aT 6)),
 aM 2 7] (.ret)))⟩
def ac163 : AF := ⟨8, [.tmp 3], aQ [aI 2 (.box 106 (aT 0)), aI 3 (.move (.av (.bool false)))] (aQ [aI 4 (aF 0 2), aI 5 (aL 4),
 aI 6 (aL 1), aI 7 (.bin .eql .other false (aT 5) (aT 6)), aM 3 7] (.ret))⟩
def ac164 : AF := ⟨95, [.tmp 6], aQ [aI 6 (.move (.av (.lit (.slice none 0 0))))] (aQ [aM 10 0, aM 11 1,
 aI 12 (.slice (.slice 7) (aT 10) (some (aT 11)) none)] (aQ [aM 13 2, aI 14 (.len (.slice 7) (aT 13)), aM 7 14] (.seq (aQ [aM 15 7,
 aI 16 (aB .eql (aT 15) (aN 0))] (.cond (aT 16) (aQ [aM 17 0, aM 6 17] (.ret)) (.skip))) (aQ [aM 18 0,
 aI 19 (.len (.slice 7) (aT 18)), aM 8 19] (.seq (aQ [aM 20 1, aM 21 8, aI 22 (aB .eql (aT 20) (aT 21))] (.cond (aT 22)
 (aQ [aM 23 0, aM 24 2,
 aI 25 (.append 106 7 104 [(.str []), (.int .i64 0), (.int .i64 0), (.int .i64 0), (.str []), (.lit (.slice none 0 0)), (.lit (.slice none 0 0))] (aT 23) (aT 24)), aM 6 25]
 (.ret)) (.skip))) (.seq (aQ [aM 26 8, aM 27 7, aI 28 (aB .add (aT 26) (aT 27)), aM 29 0, aI 30 (.xop .cap [(aT 29)]),
 aI 31 (aB .gtr (aT 28) (aT 30))] (.cond (aT 31) (aQ [aM 32 0, aM 33 1, aI 34 (.slice (.slice 7) (aT 32) none (some (aT 33))), aM 35 8, aM 36 7,
 aI 37 (aB .add (aT 35) (aT 36)), aM 38 1, aI 39 (aB .sub (aT 37) (aT 38)),
 aI 40 (.xop (.appendZ 106 7 104 [(.str []), (.int .i64 0), (.int .i64 0), (.int .i64 0), (.str []), (.lit (.slice none 0 0)), (.lit (.slice none 0 0))]) [(aT 34), (aT 39)]),
 aM 9 40] (aQ [aM 41 9, aM 42 1, aI 43 (.slice (.slice 7) (aT 41) (some (aT 42)) none), aM 44 2, aI 45 (.xop (.copy 7) [(aT 43), (aT 44)])]
 (.seq (.region [aM 46 9, aM 47 1, aM 48 7, aI 49 (aB .add (aT 47) (aT 48)), aI 50 (.slice (.slice 7) (aT 46) (some (aT 49)) none), aM 51 0, aM 52 1,
 aI 53 (.slice (.slice 7) (aT 51) (some (aT 52)) none), aI 54 (.xop (.copy 7) [(aT 50), (aT 53)])] true) (aQ [aM 55 9, aM 6 55] (.ret))))) (.skip)))
 (aQ [aM 56 0, aM 57 8, aM 58 7, aI 59 (aB .add (aT 57) (aT 58)), aI 60 (.slice (.slice 7) (aT 56) none (some (aT 59))), aM 0 60]
 (.seq (aQ [aM 61 2, aM 62 0, aM 63 1, aM 64 7, aI 65 (aB .add (aT 63) (aT 64)), aI 66 (.slice (.slice 7) (aT 62) (some (aT 65)) none),
 aI 67 (aC 227 [(aT 61), (aT 66)]), aI 68 (.un .not false (aT 67))] (.cond (aT 68) (.seq (.region [aM 69 0, aM 70 1, aM 71 7,
 aI 72 (aB .add (aT 70) (aT 71)), aI 73 (.slice (.slice 7) (aT 69) (some (aT 72)) none), aM 74 0, aM 75 1, aI 76 (.slice (.slice 7) (aT 74) (some (aT 75)) none),
 aI 77 (.xop (.copy 7) [(aT 73), (aT 76)])] true) (aQ [aM 78 0, aM 79 1, aI 80 (.slice (.slice 7) (aT 78) (some (aT 79)) none), aM 81 2,
 aI 82 (.xop (.copy 7) [(aT 80), (aT 81)])] (aQ [aM 83 0, aM 6 83] (.ret)))) (.skip))) (aQ [aM 84 0, aM 85 8,
 aI 86 (.slice (.slice 7) (aT 84) (some (aT 85)) none), aM 87 2, aI 88 (.xop (.copy 7) [(aT 86), (aT 87)])] (aQ [aM 89 0, aM 90 1,
 aI 91 (.slice (.slice 7) (aT 89) (some (aT 90)) none), aM 92 7, aI 93 (aC 228 [(aT 91), (aT 92)])] (aQ [aM 94 0, aM 6 94]
 (.ret))))))))))))⟩
def ac165 : AF := ⟨13, [.tmp 2, .tmp 3], aQ [aI 2 (.move (aN 0)), aI 3 (.move (aN 0))] (.seq (aQ [aM 4 0,
 aI 5 (.buildSlice false 22 1 1 [(.int .i64 0)] [(0, (aT 4))]), aI 6 (aC 117 [(aT 5)]), aI 7 (.un .not false (aT 6))] (.cond (aT 7)
 (aQ [aI 2 (.move (aN 0)), aI 3 (.move (aN 2))] (.ret)) (.skip))) (aQ [aM 8 0, aI 9 (aB .mul (aT 8) (aN 1000)),
 aI 10 (aC 176 [(aT 9)]), aI 11 (aE 10 0), aI 12 (aE 10 1), aM 2 11, aM 3 12] (.ret)))⟩
def ac166 : AF := ⟨8, [.tmp 2, .tmp 3], aQ [aI 2 (.move (aN 0)), aI 3 (.move (aN 0))] (.seq (aQ [aM 4 0,
 aI 5 (aC 109 [(aT 4)]), aI 6 (.un .not false (aT 5))] (.cond (aT 6) (aQ [aI 2 (.move (aN 0)), aI 3 (.move (aN 2))] (.ret))
 (.skip))) (aQ [aM 7 0, aM 2 7, aI 3 (.move (aN 0))] (.ret)))⟩
def ac167 : AF := ⟨27, [.tmp 2], aQ [aI 2 (.move (aN 0))] (aQ [aI 6 (.xop .makeMap []), aM 3 6] (.seq (aQ [aM 7 0,
 aI 8 (.len (.slice 7) (aT 7)), aI 9 (.move (aN 0))] (.block 0 (.loop (aQ [aI 10 (aB .lss (aT 9) (aT 8))] (.seq (.cond (aT 10) (.skip)
 (.exit 0)) (.seq (.block 1 (aQ [aI 11 (.indexAddr none 7 (aT 7) (aT 9)), aI 12 (aK 7 11),
 aI 5 (.alloc 106 [(.str []), (.int .i64 0), (.int .i64 0), (.int .i64 0), (.str []), (.lit (.slice none 0 0)), (.lit (.slice none 0 0))]), aJ (.store 7 (aT 5) (aT 12))]
 (.seq (aQ [aI 13 (aF 1 5), aI 14 (aF 0 13), aI 15 (aL 14), aI 16 (aB .eql (aT 15) (aN 0)), aM 17 16,
 aG 18 17 false (aV 3), aG 19 17 false (aF 0 5), aG 20 17 false (aL 19),
 aG 21 17 false (.xop (.lookup true false (.bool false)) [(aT 18), (aT 20)]), aI 22 (.pick (aT 17) (.av (.bool true)) (aT 21))] (.cond (aT 22)
 (aQ [aI 2 (.move (aN 1))] (.ret)) (.skip))) (aR [aM 23 3, aI 24 (aF 0 5), aI 25 (aL 24),
 aJ (.xop (.mapUpdate true) [(aT 23), (aT 25), (.av (.bool true))])])))) (aR [aI 26 (aB .add (aT 9) (aN 1)), aM 9 26])))))))
 (aQ [aI 2 (.move (aN 0))] (.ret))))⟩
def ac168 : AF := ⟨13, [.tmp 2], aQ [aI 2 (.move (.av (.bool false)))] (aQ [aM 3 0, aI 4 (aB .eql (aT 3) (aN 5)), aM 5 4,
 aG 6 5 false (aV 0), aG 7 5 false (aB .eql (aT 6) (aN 6)), aI 8 (.pick (aT 5) (.av (.bool true)) (aT 7)), aM 9 8, aG 10 9 false (aV 0),
 aG 11 9 false (aB .eql (aT 10) (aN 8)), aI 12 (.pick (aT 9) (.av (.bool true)) (aT 11)), aM 2 12] (.ret))⟩
def ac176 : AF := ⟨9, [.tmp 2, .tmp 3], aQ [aI 2 (.move (aN 0)), aI 3 (.move (aN 0))] (.seq (aQ [aM 4 0,
 aI 5 (.buildSlice false 22 1 1 [(.int .i64 0)] [(0, (aT 4))]), aI 6 (aC 117 [(aT 5)]), aI 7 (.un .not false (aT 6))] (.cond (aT 7)
 (aQ [aI 2 (.move (aN 0)), aI 3 (.move (aN 2))] (.ret)) (.skip))) (aQ [aM 8 0, aM 2 8, aI 3 (.move (aN 0))] (.ret)))⟩
def ac178 : AF := ⟨11, [.tmp 2], aQ [aI 2 (.move (.av (.bool false)))] (.seq (aQ [aM 3 0] (.block 0
 (.seq (aQ [aI 5 (.bin .eql .other false (aT 3) (.av (.int .u8 0))), aM 4 5] (.cond (aT 4) (.skip)
 (aQ [aI 6 (.bin .eql .other false (aT 3) (.av (.int .u8 9))), aM 4 6] (.cond (aT 4) (.skip)
 (aQ [aI 7 (.bin .eql .other false (aT 3) (.av (.int .u8 10))), aM 4 7] (.cond (aT 4) (.skip)
 (aQ [aI 8 (.bin .eql .other false (aT 3) (.av (.int .u8 12))), aM 4 8] (.cond (aT 4) (.skip)
 (aQ [aI 9 (.bin .eql .other false (aT 3) (.av (.int .u8 13))), aM 4 9] (.cond (aT 4) (.skip)
 (aR [aI 10 (.bin .eql .other false (aT 3) (.av (.int .u8 32))), aM 4 10]))))))))))) (.cond (aT 4) (aQ [aI 2 (.move (.av (.bool true)))] (.ret))
 (.skip))))) (aQ [aI 2 (.move (.av (.bool false)))] (.ret)))⟩
def ac179 : AF := ⟨6, [.tmp 2], aQ [aI 2 (.move (.av (.bool false)))] (aQ [aM 3 0,
 aI 4 (aC 151 [(.av (.str [40, 41, 60, 62, 91, 93, 123, 125, 47, 37])), (aT 3)]), aI 5 (aB .geq (aT 4) (aN 0)), aM 2 5] (.ret))⟩
def ac185 : AF := ⟨8, [.tmp 4], aQ [aI 4 (.move (.av (.bool false)))] (aQ [aM 5 0, aM 6 1, aI 7 (aC 231 [(aT 5), (aT 6)]),
 aM 4 7] (.ret))⟩
def ac200 : AF := ⟨21, [.tmp 6], aQ [aI 6 (.move (aN 0))] (.seq (.block 0 (.loop (.seq (aQ [aM 7 1, aM 8 0, aI 9 (.len .str (aT 8)),
 aI 10 (aB .lss (aT 7) (aT 9)), aM 11 10, aG 12 11 true (aV 2), aG 13 11 true (aV 0), aG 14 11 true (aV 1),
 aG 15 11 true (.indexStr (aT 13) (aT 14)), aG 16 11 true (.call (aT 12) [(aT 15)]), aI 17 (.pick (aT 11) (aT 16) (.av (.bool false)))] (.cond (aT 17) (.skip) (.exit 0)))
 (.block 1 (aR [aM 18 1, aI 19 (aB .add (aT 18) (aN 1)), aM 1 19]))))) (aQ [aM 20 1, aM 6 20] (.ret)))⟩
def ac202 : AF := ⟨28, [.cell 4 (some 6), .tmp 5], aQ [aI 3 (.box 138 (aT 1)),
 aI 4 (.alloc 138 [(.int .i64 0), (.int .i64 0), (.str []), (.bool false), (.int .i64 0), (.int .i64 0)]), aI 5 (.move (aN 0))] (aQ [aM 7 0,
 aI 8 (aF 4 3), aI 9 (aL 8), aI 10 (aB .add (aT 9) (aN 1)),
 aI 11 (aC 200 [(aT 7), (aT 10), (.av (.fn (.func 150) [] []))]), aI 12 (aF 0 3), aJ (.store 1 (aT 12) (aN 2)),
 aI 13 (aF 5 3), aJ (.store 1 (aT 13) (aT 11))] (aQ [aI 6 (.move (aN 0))] (aQ [aM 15 0, aI 16 (aF 4 3),
 aI 17 (aL 16), aI 18 (aB .add (aT 17) (aN 1)), aI 19 (aF 5 3), aI 20 (aL 19),
 aI 21 (.slice .str (aT 15) (some (aT 18)) (some (aT 20))), aI 22 (aC 238 [(aT 21)]), aM 14 22, aI 23 (aE 14 0),
 aI 24 (aE 14 1), aI 25 (aF 2 3), aJ (.store 1 (aT 25) (aT 23)), aM 6 24] (aQ [aI 26 (aK 6 3), aM 27 6,
 aJ (.store 6 (aT 4) (aT 26)), aM 5 27] (.ret)))))⟩
def ac203 : AF := ⟨68, [.cell 4 (some 6), .tmp 5], aQ [aI 3 (.box 138 (aT 1)),
 aI 4 (.alloc 138 [(.int .i64 0), (.int .i64 0), (.str []), (.bool false), (.int .i64 0), (.int .i64 0)]), aI 5 (.move (aN 0))] (aQ [aI 6 (.bld 90 5)]
 (aQ [aI 7 (.move (aN 0))] (.seq (aQ [aI 10 (aF 4 3), aI 11 (aL 10), aI 12 (aB .add (aT 11) (aN 1)),
 aM 8 12] (.block 0 (.loop (.seq (aQ [aM 13 8, aM 14 0, aI 15 (.len .str (aT 14)), aI 16 (aB .lss (aT 13) (aT 15))] (.cond (aT 16) (.skip)
 (.exit 0))) (.seq (.block 1 (.seq (aQ [aM 19 0, aM 20 8, aI 21 (.indexStr (aT 19) (aT 20)), aM 9 21] (aQ [aM 22 9] (.block 2
 (aQ [aI 24 (.bin .eql .other false (aT 22) (.av (.int .u8 92))), aM 23 24] (.cond (aT 23) (.seq (aQ [aM 25 8,
 aI 26 (aB .add (aT 25) (aN 1)), aM 27 0, aI 28 (.len .str (aT 27)), aI 29 (aB .eql (aT 26) (aT 28))] (.cond (aT 29)
 (aQ [aI 30 (.build [(.int .i64 0), (.int .i64 0), (.str []), (.bool false), (.int .i64 0), (.int .i64 0)] []), aJ (.store 6 (aT 4) (aT 30)),
 aI 5 (.move (aN 4))] (.ret)) (.skip))) (aQ [aM 31 8, aM 32 0, aM 33 8, aI 34 (aB .add (aT 33) (aN 1)),
 aI 35 (.slice .str (aT 32) (some (aT 34)) none), aI 36 (aC 239 [(aT 6), (aT 35)]), aI 37 (aB .add (aT 31) (aT 36)), aM 8 37]
 (.exit 1))) (aQ [aI 39 (.bin .eql .other false (aT 22) (.av (.int .u8 40))), aM 38 39] (.cond (aT 38) (aR [aM 40 7,
 aI 41 (aB .add (aT 40) (aN 1)), aM 7 41]) (aQ [aI 43 (.bin .eql .other false (aT 22) (.av (.int .u8 41))), aM 42 43] (.cond (aT 42)
 (.seq (aQ [aM 44 7, aI 45 (aB .eql (aT 44) (aN 0))] (.cond (aT 45) (aQ [aI 46 (aC 53 [(aT 6)]), aM 47 8,
 aI 48 (aB .add (aT 47) (aN 1)), aI 49 (aF 0 3), aJ (.store 1 (aT 49) (aN 3)), aI 50 (aF 2 3), aJ (.store 1 (aT 50) (aT 46)),
 aI 51 (aF 5 3), aJ (.store 1 (aT 51) (aT 48))] (aQ [aI 52 (aK 6 3), aJ (.store 6 (aT 4) (aT 52)), aI 5 (.move (aN 0))]
 (.ret))) (.skip))) (aR [aM 53 7, aI 54 (aB .sub (aT 53) (aN 1)), aM 7 54])) (aQ [aI 56 (.bin .eql .other false (aT 22) (.av (.int .u8 13))),
 aM 55 56] (.cond (aT 55) (.seq (aQ [aM 57 0, aM 58 8, aI 59 (.slice .str (aT 57) (some (aT 58)) none),
 aI 60 (aC 185 [(aT 59), (.av (.str [13, 10]))]), aI 61 (.un .not false (aT 60))] (.cond (aT 61)
 (aR [aI 62 (aC 98 [(aT 6), (.av (.int .u8 10))])]) (.skip))) (.exit 1)) (.skip)))))))))))) (aR [aM 63 0, aM 64 8,
 aI 65 (.indexStr (aT 63) (aT 64)), aI 66 (aC 98 [(aT 6), (aT 65)])]))) (aR [aM 17 8, aI 18 (aB .add (aT 17) (aN 1)),
 aM 8 18])))))) (aQ [aI 67 (.build [(.int .i64 0), (.int .i64 0), (.str []), (.bool false), (.int .i64 0), (.int .i64 0)] []), aJ (.store 6 (aT 4) (aT 67)),
 aI 5 (.move (aN 4))] (.ret)))))⟩
def ac204 : AF := ⟨77, [.cell 4 (some 6), .tmp 5], aQ [aI 3 (.box 138 (aT 1)),
 aI 4 (.alloc 138 [(.int .i64 0), (.int .i64 0), (.str []), (.bool false), (.int .i64 0), (.int .i64 0)]), aI 5 (.move (aN 0))]
 (aQ [aI 6 (.move (.av (.lit (.slice none 0 0))))] (.seq (aQ [aI 11 (aF 4 3), aI 12 (aL 11),
 aI 13 (aB .add (aT 12) (aN 1)), aM 7 13] (.block 0 (.loop (.seq (aQ [aM 14 7, aM 15 0, aI 16 (.len .str (aT 15)),
 aI 17 (aB .lss (aT 14) (aT 16))] (.cond (aT 17) (.skip) (.exit 0))) (.seq (.block 1 (aQ [aM 21 0, aM 22 7, aI 23 (.indexStr (aT 21) (aT 22)),
 aI 24 (aC 240 [(aT 23)]), aM 20 24, aI 25 (aE 20 0), aI 26 (aE 20 1), aM 8 25, aM 9 26] (.block 2
 (aQ [aM 28 9, aM 27 28] (.cond (aT 27) (aR [aM 29 6, aM 30 8, aI 31 (.buildSlice false 5 1 1 [(.int .u8 0)] [(0, (aT 30))]),
 aI 32 (.append 5 1 1 [(.int .u8 0)] (aT 29) (aT 31)), aM 6 32]) (aQ [aM 34 0, aM 35 7, aI 36 (.indexStr (aT 34) (aT 35)),
 aI 37 (.bin .eql .other false (aT 36) (.av (.int .u8 62))), aM 33 37] (.cond (aT 33) (aQ [aM 38 6,
 aI 39 (.buildSlice false 5 1 1 [(.int .u8 0)] [(0, (.av (.int .u8 0)))]), aI 40 (.append 5 1 1 [(.int .u8 0)] (aT 38) (aT 39)), aM 6 40] (aQ [aM 41 7,
 aI 42 (aB .add (aT 41) (aN 1)), aI 43 (aF 0 3), aJ (.store 1 (aT 43) (aN 3)), aI 44 (aF 5 3), aJ (.store 1 (aT 44) (aT 42))]
 (.seq (aQ [aI 10 (.move (aN 1))] (.block 3 (.loop (.seq (aQ [aM 45 10, aM 46 6, aI 47 (.len (.slice 1) (aT 46)),
 aI 48 (aB .lss (aT 45) (aT 47))] (.cond (aT 48) (.skip) (.exit 3))) (.seq (.block 4 (.region [aI 51 (aF 2 3), aI 52 (aL 51),
 aM 53 6, aM 54 10, aI 55 (aB .sub (aT 54) (aN 1)), aI 56 (.indexAddr none 1 (aT 53) (aT 55)), aI 57 (aL 56),
 aI 58 (.bin .shl .other false (aT 57) (.av (.int .u64 4))), aM 59 6, aM 60 10, aI 61 (.indexAddr none 1 (aT 59) (aT 60)), aI 62 (aL 61),
 aI 63 (.bin .or .other false (aT 58) (aT 62)), aI 64 (.buildSlice false 5 1 1 [(.int .u8 0)] [(0, (aT 63))]), aI 65 (.conv .ofBytes (aT 64)),
 aI 66 (.bin .add .other false (aT 52) (aT 65)), aI 67 (aF 2 3), aJ (.store 1 (aT 67) (aT 66))] true)) (aR [aM 49 10,
 aI 50 (aB .add (aT 49) (aN 2)), aM 10 50])))))) (aQ [aI 68 (aK 6 3), aJ (.store 6 (aT 4) (aT 68)), aI 5 (.move (aN 0))]
 (.ret))))) (aQ [aM 70 0, aM 71 7, aI 72 (.indexStr (aT 70) (aT 71)), aI 73 (aC 178 [(aT 72)]), aI 74 (.un .not false (aT 73)),
 aM 69 74] (.cond (aT 69) (aQ [aI 75 (.build [(.int .i64 0), (.int .i64 0), (.str []), (.bool false), (.int .i64 0), (.int .i64 0)] []),
 aJ (.store 6 (aT 4) (aT 75)), aI 5 (.move (aN 3))] (.ret)) (.skip)))))))))) (aR [aM 18 7, aI 19 (aB .add (aT 18) (aN 1)), aM 7 19]))))))
 (aQ [aI 76 (.build [(.int .i64 0), (.int .i64 0), (.str []), (.bool false), (.int .i64 0), (.int .i64 0)] []), aJ (.store 6 (aT 4) (aT 76)),
 aI 5 (.move (aN 4))] (.ret))))⟩
def ac206 : AF := ⟨25, [.tmp 2], aQ [aI 2 (.move (.av (.bool false)))] (aQ [aM 3 0, aI 4 (.bin .eql .other false (aT 3) (.av (.int .u8 0))), aM 5 4,
 aG 6 5 false (aV 0), aG 7 5 false (.bin .eql .other false (aT 6) (.av (.int .u8 9))), aI 8 (.pick (aT 5) (.av (.bool true)) (aT 7)), aM 9 8, aG 10 9 false (aV 0),
 aG 11 9 false (.bin .eql .other false (aT 10) (.av (.int .u8 10))), aI 12 (.pick (aT 9) (.av (.bool true)) (aT 11)), aM 13 12, aG 14 13 false (aV 0),
 aG 15 13 false (.bin .eql .other false (aT 14) (.av (.int .u8 12))), aI 16 (.pick (aT 13) (.av (.bool true)) (aT 15)), aM 17 16, aG 18 17 false (aV 0),
 aG 19 17 false (.bin .eql .other false (aT 18) (.av (.int .u8 13))), aI 20 (.pick (aT 17) (.av (.bool true)) (aT 19)), aM 21 20, aG 22 21 false (aV 0),
 aG 23 21 false (.bin .eql .other false (aT 22) (.av (.int .u8 32))), aI 24 (.pick (aT 21) (.av (.bool true)) (aT 23)), aM 2 24] (.ret))⟩
def ac214 : AF := ⟨8, [.tmp 4], aQ [aI 4 (.move (aN 0))] (aQ [aM 5 0, aM 6 1, aI 7 (aC 247 [(aT 5), (aT 6)]),
 aM 4 7] (.ret))⟩
def ac215 : AF := ⟨15, [.tmp 4, .tmp 5], aQ [aI 4 (.move (.av (.str []))), aI 5 (.move (.av (.bool false)))] (.seq (aQ [aM 6 0, aM 7 1,
 aI 8 (aC 231 [(aT 6), (aT 7)]), aI 9 (.un .not false (aT 8))] (.cond (aT 9) (aQ [aM 10 0, aM 4 10,
 aI 5 (.move (.av (.bool false)))] (.ret)) (.skip))) (aQ [aM 11 0, aM 12 1, aI 13 (.len .str (aT 12)), aI 14 (.slice .str (aT 11) (some (aT 13)) none), aM 4 14,
 aI 5 (.move (.av (.bool true)))] (.ret)))⟩
def ac216 : AF := ⟨16, [.tmp 4], aQ [aI 4 (.move (.av (.str [])))] (.seq (aQ [aM 5 0, aM 6 1,
 aI 7 (aC 248 [(aT 5), (aT 6)])] (.cond (aT 7) (aQ [aM 8 0, aM 9 0, aI 10 (.len .str (aT 9)), aM 11 1, aI 12 (.len .str (aT 11)),
 aI 13 (aB .sub (aT 10) (aT 12)), aI 14 (.slice .str (aT 8) none (some (aT 13))), aM 4 14] (.ret)) (.skip))) (aQ [aM 15 0, aM 4 15]
 (.ret)))⟩
def ac217 : AF := ⟨23, [.tmp 4], aQ [aI 4 (.move (.av (.str [])))] (.seq (.block 0 (.loop (.seq (aQ [aM 5 0, aI 6 (.len .str (aT 5)),
 aI 7 (aB .gtr (aT 6) (aN 0)), aM 8 7, aG 9 8 true (aV 0), aG 10 8 true (aV 0), aG 11 8 true (.len .str (aT 10)),
 aG 12 8 true (aB .sub (aT 11) (aN 1)), aG 13 8 true (.indexStr (aT 9) (aT 12)), aG 14 8 true (aV 1), aG 15 8 true (.bin .eql .other false (aT 13) (aT 14)),
 aI 16 (.pick (aT 8) (aT 15) (.av (.bool false)))] (.cond (aT 16) (.skip) (.exit 0))) (.block 1 (aR [aM 17 0, aM 18 0, aI 19 (.len .str (aT 18)),
 aI 20 (aB .sub (aT 19) (aN 1)), aI 21 (.slice .str (aT 17) none (some (aT 20))), aM 0 21]))))) (aQ [aM 22 0, aM 4 22] (.ret)))⟩
def ac225 : AF := ⟨19, [.tmp 4], aQ [aI 4 (.move (aN 0))] (.seq (aQ [aM 6 0, aI 7 (.len (.slice 7) (aT 6)), aI 8 (.move (aN 0))] (.block 0 (.loop
 (aQ [aI 9 (aB .lss (aT 8) (aT 7))] (.seq (.cond (aT 9) (.skip) (.exit 0)) (.seq (.block 1 (aQ [aM 10 8, aM 5 10]
 (aQ [aM 11 1, aM 12 0, aM 13 5, aI 14 (.indexAddr none 7 (aT 12) (aT 13)), aI 15 (aK 7 14), aI 16 (.call (aT 11) [(aT 15)])] (.cond (aT 16)
 (aQ [aM 17 5, aM 4 17] (.ret)) (.skip))))) (aR [aI 18 (aB .add (aT 8) (aN 1)), aM 8 18])))))))
 (aQ [aI 4 (.move (aN (-1)))] (.ret)))⟩
def ac226 : AF := ⟨8, [.tmp 3], aQ [aI 2 (.box 106 (aT 0)), aI 3 (.move (.av (.bool false)))] (aQ [aI 4 (aF 0 2), aI 5 (aL 4),
 aI 6 (aL 1), aI 7 (.bin .eql .other false (aT 5) (aT 6)), aM 3 7] (.ret))⟩
def ac231 : AF := ⟨18, [.tmp 4], aQ [aI 4 (.move (.av (.bool false)))] (aQ [aM 5 0, aI 6 (.len .str (aT 5)), aM 7 1, aI 8 (.len .str (aT 7)),
 aI 9 (aB .geq (aT 6) (aT 8)), aM 10 9, aG 11 10 true (aV 0), aG 12 10 true (aV 1), aG 13 10 true (.len .str (aT 12)),
 aG 14 10 true (.slice .str (aT 11) none (some (aT 13))), aG 15 10 true (aV 1), aG 16 10 true (.bin .eql .other false (aT 14) (aT 15)),
 aI 17 (.pick (aT 10) (aT 16) (.av (.bool false))), aM 4 17] (.ret))⟩
def ac238 : AF := ⟨32, [.tmp 2, .tmp 3], aQ [aI 2 (.move (.av (.str []))), aI 3 (.move (aN 0))] (aQ [aI 4 (.bld 90 5)] (.block 0 (.loop (.block 1
 (aQ [aM 11 0, aI 12 (aC 259 [(aT 11), (.av (.str [35]))]), aM 10 12, aI 13 (aE 10 0), aI 14 (aE 10 1),
 aI 15 (aE 10 2), aM 5 13, aM 6 14, aM 7 15] (aQ [aM 16 5, aI 17 (aC 56 [(aT 4), (aT 16)])]
 (.seq (aQ [aM 18 7, aI 19 (.un .not false (aT 18))] (.cond (aT 19) (aQ [aI 20 (aC 53 [(aT 4)]), aM 2 20,
 aI 3 (.move (aN 0))] (.ret)) (.skip))) (aQ [aM 22 6, aI 23 (aC 260 [(aT 22)]), aM 21 23, aI 24 (aE 21 0),
 aI 25 (aE 21 1), aM 8 24, aM 9 25] (.seq (aQ [aM 26 9, aI 27 (.un .not false (aT 26))] (.cond (aT 27)
 (aQ [aI 2 (.move (.av (.str []))), aI 3 (.move (aN 3))] (.ret)) (.skip))) (aQ [aM 28 8,
 aI 29 (aC 98 [(aT 4), (aT 28)])] (aR [aM 30 6, aI 31 (.slice .str (aT 30) (some (aN 2)) none), aM 0 31])))))))))))⟩
def ac239 : AF := ⟨38, [.tmp 4], aQ [aI 4 (.move (aN 0))] (.seq (aQ [aM 9 1, aI 10 (aC 261 [(aT 9)]), aM 8 10,
 aI 11 (aE 8 0), aI 12 (aE 8 1), aM 5 11, aM 6 12] (aQ [aM 13 6, aI 14 (aB .gtr (aT 13) (aN 0))] (.cond (aT 14)
 (aQ [aM 15 0, aM 16 5, aI 17 (aC 98 [(aT 15), (aT 16)])] (aQ [aM 18 6, aM 4 18] (.ret))) (.skip))))
 (.seq (aQ [aM 19 1, aI 20 (aC 185 [(aT 19), (.av (.str [13, 10]))])] (.cond (aT 20) (aQ [aI 4 (.move (aN 2))]
 (.ret)) (.skip))) (.seq (aQ [aM 21 1, aI 22 (.indexStr (aT 21) (aN 0)),
 aI 23 (aC 151 [(.av (.str [110, 114, 116, 98, 102, 10, 13])), (aT 22)]), aM 7 23] (.block 0 (aQ [aM 25 7,
 aI 26 (aB .lss (aT 25) (aN 0)), aM 24 26] (.cond (aT 24) (aR [aM 27 0, aM 28 1, aI 29 (.indexStr (aT 28) (aN 0)),
 aI 30 (aC 98 [(aT 27), (aT 29)])]) (aQ [aM 32 7, aI 33 (aB .lss (aT 32) (aN 5)), aM 31 33] (.cond (aT 31)
 (aR [aM 34 0, aM 35 7, aI 36 (.indexStr (.av (.str [10, 13, 9, 8, 12])) (aT 35)), aI 37 (aC 98 [(aT 34), (aT 36)])]) (.skip)))))))
 (aQ [aI 4 (.move (aN 1))] (.ret)))))⟩
def ac240 : AF := ⟨26, [.tmp 2, .tmp 3], aQ [aI 2 (.move (.av (.int .u8 0))), aI 3 (.move (.av (.bool false)))] (.seq (.block 0 (aQ [aM 5 0,
 aI 6 (.bin .geq .other false (aT 5) (.av (.int .u8 48))), aM 7 6, aG 8 7 true (aV 0), aG 9 7 true (.bin .leq .other false (aT 8) (.av (.int .u8 57))),
 aI 10 (.pick (aT 7) (aT 9) (.av (.bool false))), aM 4 10] (.cond (aT 4) (aQ [aM 11 0, aI 12 (.bin .sub .other false (aT 11) (.av (.int .u8 48))), aM 2 12,
 aI 3 (.move (.av (.bool true)))] (.ret)) (aQ [aM 14 0, aI 15 (.bin .or .other false (aT 14) (.av (.int .u8 32))),
 aI 16 (.bin .geq .other false (aT 15) (.av (.int .u8 97))), aM 17 16, aG 18 17 true (aV 0), aG 19 17 true (.bin .or .other false (aT 18) (.av (.int .u8 32))),
 aG 20 17 true (.bin .leq .other false (aT 19) (.av (.int .u8 102))), aI 21 (.pick (aT 17) (aT 20) (.av (.bool false))), aM 13 21] (.cond (aT 13) (aQ [aM 22 0,
 aI 23 (.bin .or .other false (aT 22) (.av (.int .u8 32))), aI 24 (.bin .sub .other false (aT 23) (.av (.int .u8 97))), aI 25 (.bin .add .other false (aT 24) (.av (.int .u8 10))),
 aM 2 25, aI 3 (.move (.av (.bool true)))] (.ret)) (.skip)))))) (aQ [aI 2 (.move (.av (.int .u8 0))), aI 3 (.move (.av (.bool false)))] (.ret)))⟩
def ac248 : AF := ⟨21, [.tmp 4], aQ [aI 4 (.move (.av (.bool false)))] (aQ [aM 5 0, aI 6 (.len .str (aT 5)), aM 7 1, aI 8 (.len .str (aT 7)),
 aI 9 (aB .geq (aT 6) (aT 8)), aM 10 9, aG 11 10 true (aV 0), aG 12 10 true (aV 0), aG 13 10 true (.len .str (aT 12)), aG 14 10 true (aV 1),
 aG 15 10 true (.len .str (aT 14)), aG 16 10 true (aB .sub (aT 13) (aT 15)), aG 17 10 true (.slice .str (aT 11) (some (aT 16)) none), aG 18 10 true (aV 1),
 aG 19 10 true (.bin .eql .other false (aT 17) (aT 18)), aI 20 (.pick (aT 10) (aT 19) (.av (.bool false))), aM 4 20] (.ret))⟩
def ac259 : AF := ⟨13, [.tmp 4, .tmp 5, .tmp 6], aQ [aI 4 (.move (.av (.str []))), aI 5 (.move (.av (.str []))), aI 6 (.move (.av (.bool false)))]
 (aQ [aM 7 0, aM 8 1, aI 9 (aC 273 [(aT 7), (aT 8)]), aI 10 (aE 9 0), aI 11 (aE 9 1), aI 12 (aE 9 2),
 aM 4 10, aM 5 11, aM 6 12] (.ret))⟩
def ac260 : AF := ⟨31, [.tmp 2, .tmp 3], aQ [aI 2 (.move (.av (.int .u8 0))), aI 3 (.move (.av (.bool false)))] (.seq (aQ [aM 8 0,
 aI 9 (.len .str (aT 8)), aI 10 (aB .lss (aT 9) (aN 2))] (.cond (aT 10) (aQ [aI 2 (.move (.av (.int .u8 0))),
 aI 3 (.move (.av (.bool false)))] (.ret)) (.skip))) (aQ [aM 12 0, aI 13 (.indexStr (aT 12) (aN 0)), aI 14 (aC 240 [(aT 13)]),
 aM 11 14, aI 15 (aE 11 0), aI 16 (aE 11 1), aM 4 15, aM 5 16] (aQ [aM 18 0, aI 19 (.indexStr (aT 18) (aN 1)),
 aI 20 (aC 240 [(aT 19)]), aM 17 20, aI 21 (aE 17 0), aI 22 (aE 17 1), aM 6 21, aM 7 22] (aQ [aM 23 4,
 aI 24 (.bin .shl .other false (aT 23) (.av (.int .u64 4))), aM 25 6, aI 26 (.bin .or .other false (aT 24) (aT 25)), aM 27 5, aM 28 27, aG 29 28 true (aV 7),
 aI 30 (.pick (aT 28) (aT 29) (.av (.bool false))), aM 2 26, aM 3 30] (.ret)))))⟩
def ac261 : AF := ⟨36, [.tmp 2, .tmp 3], aQ [aI 2 (.move (.av (.int .u8 0))), aI 3 (.move (aN 0))] (aQ [aI 4 (.move (aN 0)), aI 5 (.move (aN 0))]
 (.seq (.block 0 (.loop (.seq (aQ [aM 6 4, aM 7 0, aI 8 (.len .str (aT 7)), aI 9 (.minmax false [(aT 8), (aN 3)]), aI 10 (aB .lss (aT 6) (aT 9)),
 aM 11 10, aG 12 11 true (aV 0), aG 13 11 true (aV 4), aG 14 11 true (.indexStr (aT 12) (aT 13)),
 aG 15 11 true (.bin .geq .other false (aT 14) (.av (.int .u8 48))), aI 16 (.pick (aT 11) (aT 15) (.av (.bool false))), aM 17 16, aG 18 17 true (aV 0),
 aG 19 17 true (aV 4), aG 20 17 true (.indexStr (aT 18) (aT 19)), aG 21 17 true (.bin .leq .other false (aT 20) (.av (.int .u8 55))),
 aI 22 (.pick (aT 17) (aT 21) (.av (.bool false)))] (.cond (aT 22) (.skip) (.exit 0))) (.block 1 (aQ [aM 23 5,
 aI 24 (aB .shl (aT 23) (.av (.int .u64 3))), aM 25 0, aM 26 4, aI 27 (.indexStr (aT 25) (aT 26)), aI 28 (.bin .sub .other false (aT 27) (.av (.int .u8 48))),
 aI 29 (.conv (.int .i64) (aT 28)), aI 30 (aB .or (aT 24) (aT 29)), aM 5 30] (aR [aM 31 4, aI 32 (aB .add (aT 31) (aN 1)),
 aM 4 32])))))) (aQ [aM 33 5, aI 34 (.conv (.int .u8) (aT 33)), aM 35 4, aM 2 34, aM 3 35] (.ret))))⟩
def ac273 : AF := ⟨23, [.tmp 4, .tmp 5, .tmp 6], aQ [aI 4 (.move (.av (.str []))), aI 5 (.move (.av (.str []))), aI 6 (.move (.av (.bool false)))]
 (.seq (aQ [aM 8 0, aM 9 1, aI 10 (aC 276 [(aT 8), (aT 9)]), aM 7 10] (aQ [aM 11 7,
 aI 12 (aB .geq (aT 11) (aN 0))] (.cond (aT 12) (.seq (.region [aM 13 0, aM 14 7, aI 15 (.slice .str (aT 13) none (some (aT 14))), aM 16 0, aM 17 7, aM 18 1,
 aI 19 (.len .str (aT 18)), aI 20 (aB .add (aT 17) (aT 19)), aI 21 (.slice .str (aT 16) (some (aT 20)) none), aM 4 15, aM 5 21,
 aI 6 (.move (.av (.bool true)))] true) (.ret)) (.skip)))) (aQ [aM 22 0, aM 4 22, aI 5 (.move (.av (.str []))), aI 6 (.move (.av (.bool false)))] (.ret)))⟩
def ac276 : AF := ⟨143, [.tmp 4], aQ [aI 4 (.move (aN 0))] (aQ [aM 14 1, aI 15 (.len .str (aT 14)), aM 5 15] (.seq (.block 0
 (aQ [aM 17 5, aI 18 (aB .eql (aT 17) (aN 0)), aM 19 18, aG 20 19 false (aV 1), aG 21 19 false (aV 0),
 aG 22 19 false (.bin .eql .other false (aT 20) (aT 21)), aI 23 (.pick (aT 19) (.av (.bool true)) (aT 22)), aM 16 23] (.cond (aT 16)
 (aQ [aI 4 (.move (aN 0))] (.ret)) (aQ [aM 25 5, aI 26 (aB .eql (aT 25) (aN 1)), aM 24 26] (.cond (aT 24)
 (aQ [aM 27 0, aM 28 1, aI 29 (.indexStr (aT 28) (aN 0)), aI 30 (aC 214 [(aT 27), (aT 29)]), aM 4 30] (.ret))
 (aQ [aM 32 5, aM 33 0, aI 34 (.len .str (aT 33)), aI 35 (aB .geq (aT 32) (aT 34)), aM 31 35] (.cond (aT 31)
 (aQ [aI 4 (.move (aN (-1)))] (.ret)) (aQ [aM 37 5, ⟨(some 38), .load none (.av (.lit (.pointer (some ⟨0, 0, none⟩)))), none, false⟩,
 aI 39 (aB .leq (aT 37) (aT 38)), aM 40 39, aG 41 40 true (aV 0), aG 42 40 true (.len .str (aT 41)), aG 43 40 true (aB .leq (aT 42) (aN 64)),
 aI 44 (.pick (aT 40) (aT 43) (.av (.bool false))), aM 36 44] (.cond (aT 36) (aQ [aM 45 0, aM 46 1,
 aI 47 (aC 280 [(aT 45), (aT 46)]), aM 4 47] (.ret)) (.skip)))))))))) (aQ [aM 48 1, aI 49 (.indexStr (aT 48) (aN 0)),
 aM 6 49] (aQ [aM 50 1, aI 51 (.indexStr (aT 50) (aN 1)), aM 7 51] (aQ [aI 8 (.move (aN 0))] (aQ [aM 52 0,
 aI 53 (.len .str (aT 52)), aM 54 5, aI 55 (aB .sub (aT 53) (aT 54)), aI 56 (aB .add (aT 55) (aN 1)), aM 9 56]
 (aQ [aI 10 (.move (aN 0))] (.seq (.block 1 (.loop (.seq (aQ [aM 57 8, aM 58 9, aI 59 (aB .lss (aT 57) (aT 58))] (.cond (aT 59)
 (.skip) (.exit 1))) (.block 2 (.seq (aQ [aM 60 0, aM 61 8, aI 62 (.indexStr (aT 60) (aT 61)), aM 63 6, aI 64 (.bin .neq .other false (aT 62) (aT 63))]
 (.cond (aT 64) (aQ [aM 65 0, aM 66 8, aI 67 (aB .add (aT 66) (aN 1)), aM 68 9, aI 69 (.slice .str (aT 65) (some (aT 67)) (some (aT 68))), aM 70 6,
 aI 71 (aC 214 [(aT 69), (aT 70)]), aM 11 71] (.seq (aQ [aM 72 11, aI 73 (aB .lss (aT 72) (aN 0))]
 (.cond (aT 73) (aQ [aI 4 (.move (aN (-1)))] (.ret)) (.skip))) (aR [aM 74 8, aM 75 11, aI 76 (aB .add (aT 75) (aN 1)),
 aI 77 (aB .add (aT 74) (aT 76)), aM 8 77]))) (.skip))) (.seq (aQ [aM 78 0, aM 79 8, aI 80 (aB .add (aT 79) (aN 1)),
 aI 81 (.indexStr (aT 78) (aT 80)), aM 82 7, aI 83 (.bin .eql .other false (aT 81) (aT 82)), aM 84 83, aG 85 84 true (aV 0), aG 86 84 true (aV 8),
 aG 87 84 true (aV 8), aG 88 84 true (aV 5), aG 89 84 true (aB .add (aT 87) (aT 88)),
 aG 90 84 true (.slice .str (aT 85) (some (aT 86)) (some (aT 89))), aG 91 84 true (aV 1), aG 92 84 true (.bin .eql .other false (aT 90) (aT 91)),
 aI 93 (.pick (aT 84) (aT 92) (.av (.bool false)))] (.cond (aT 93) (aQ [aM 94 8, aM 4 94] (.ret)) (.skip))) (aQ [aM 95 8,
 aI 96 (aB .add (aT 95) (aN 1)), aM 8 96] (aQ [aM 97 10, aI 98 (aB .add (aT 97) (aN 1)), aM 10 98] (aQ [aM 99 5,
 ⟨(some 100), .load none (.av (.lit (.pointer (some ⟨0, 0, none⟩)))), none, false⟩, aI 101 (aB .leq (aT 99) (aT 100)), aM 102 101, aG 103 102 true (aV 10),
 aG 104 102 true (aV 8), aG 105 102 true (aC 279 [(aT 104)]), aG 106 102 true (aB .gtr (aT 103) (aT 105)),
 aI 107 (.pick (aT 102) (aT 106) (.av (.bool false)))] (.cond (aT 107) (aQ [aM 108 0, aM 109 8, aI 110 (.slice .str (aT 108) (some (aT 109)) none), aM 111 1,
 aI 112 (aC 280 [(aT 110), (aT 111)]), aM 12 112] (.seq (aQ [aM 113 12, aI 114 (aB .geq (aT 113) (aN 0))]
 (.cond (aT 114) (aQ [aM 115 12, aM 116 8, aI 117 (aB .add (aT 115) (aT 116)), aM 4 117] (.ret)) (.skip)))
 (aQ [aI 4 (.move (aN (-1)))] (.ret)))) (aQ [aM 118 5, ⟨(some 119), .load none (.av (.lit (.pointer (some ⟨0, 0, none⟩)))), none, false⟩,
 aI 120 (aB .gtr (aT 118) (aT 119)), aM 121 120, aG 122 121 true (aV 10), aG 123 121 true (aV 8),
 aG 124 121 true (aB .shr (aT 123) (.av (.int .u64 4))), aG 125 121 true (aB .add (aN 4) (aT 124)),
 aG 126 121 true (aB .geq (aT 122) (aT 125)), aI 127 (.pick (aT 121) (aT 126) (.av (.bool false))), aM 128 127, aG 129 128 true (aV 8),
 aG 130 128 true (aV 9), aG 131 128 true (aB .lss (aT 129) (aT 130)), aI 132 (.pick (aT 128) (aT 131) (.av (.bool false)))] (.cond (aT 132)
 (aQ [aM 133 0, aM 134 8, aI 135 (.slice .str (aT 133) (some (aT 134)) none), aM 136 1, aI 137 (aC 285 [(aT 135), (aT 136)]),
 aM 13 137] (.seq (aQ [aM 138 13, aI 139 (aB .lss (aT 138) (aN 0))] (.cond (aT 139) (aQ [aI 4 (.move (aN (-1)))] (.ret))
 (.skip))) (aQ [aM 140 8, aM 141 13, aI 142 (aB .add (aT 140) (aT 141)), aM 4 142] (.ret)))) (.skip)))))))))))))
 (aQ [aI 4 (.move (aN (-1)))] (.ret))))))))))⟩
end Ink.D
