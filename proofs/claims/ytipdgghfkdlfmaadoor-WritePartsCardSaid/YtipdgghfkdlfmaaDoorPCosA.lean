import Derived.Test.YtipdgghfkdlfmaaDoorInkBB
import Derived.Test.YtipdgghfkdlfmaaDoorPLexA
import Derived.Test.YtipdgghfkdlfmaaDoorPObj
import Derived.Test.YtipdgghfkdlfmaaDoorInkE
import Derived.Test.YtipdgghfkdlfmaaDoorInkF
set_option linter.all false
namespace Ink.D
open Go
/-- inkstand/cos.place -/
def ac53 : AF := ⟨8, [.tmp 4],
 .seq (.region [⟨(some 3), .box 9 (.tmp 1), none, false⟩,
 ⟨(some 4), .move (.av (.int .i64 0)), none, false⟩] false)
 (.seq (.region [⟨(some 5), .move (.tmp 0), none, false⟩,
 ⟨(some 6), .mkFunc (.func 81) [] [(.tmp 3)], none, false⟩,
 ⟨(some 7), .call (.av (.fn (.func 80) [] [])) [(.tmp 5), (.tmp 6)], none, false⟩,
 ⟨(some 4), .move (.tmp 7), none, false⟩] false)
 (.ret))⟩
/-- slices.EqualFunc[[]inkstand/api.Obj,[]inkstand/api.Obj,inkstand/api.Obj,inkstand/api.Obj] -/
def ac75 : AF := ⟨32, [.tmp 6],
 .seq (.region [⟨(some 6), .move (.av (.bool false)), none, false⟩] false)
 (.seq (.seq (.region [⟨(some 10), .move (.tmp 0), none, false⟩,
 ⟨(some 11), .len (.slice 6) (.tmp 10), none, false⟩,
 ⟨(some 12), .move (.tmp 1), none, false⟩,
 ⟨(some 13), .len (.slice 6) (.tmp 12), none, false⟩,
 ⟨(some 14), .bin .neq .other true (.tmp 11) (.tmp 13), none, false⟩] false)
 (.cond (.tmp 14)
 (.seq (.region [⟨(some 6), .move (.av (.bool false)), none, false⟩] false)
 (.ret))
 (.skip)))
 (.seq (.seq (.region [⟨(some 15), .move (.tmp 0), none, false⟩,
 ⟨(some 16), .len (.slice 6) (.tmp 15), none, false⟩,
 ⟨(some 17), .move (.av (.int .i64 0)), none, false⟩] false)
 (.block 0
 (.loop
 (.seq (.region [⟨(some 18), .bin .lss .other true (.tmp 17) (.tmp 16), none, false⟩] false)
 (.seq (.cond (.tmp 18)
 (.skip)
 (.exit 0))
 (.seq (.block 1
 (.seq (.region [⟨(some 19), .move (.tmp 17), none, false⟩,
 ⟨(some 20), .indexAddr none 6 (.tmp 15) (.tmp 17), none, false⟩,
 ⟨(some 21), .load (some 6) (.tmp 20), none, false⟩,
 ⟨(some 8), .alloc 47 [(.int .i64 0), (.int .i64 0), (.int .i64 0), (.str []), (.lit (.slice none 0 0)), (.lit (.slice none 0 0))], none, false⟩,
 ⟨(some 7), .move (.tmp 19), none, false⟩,
 ⟨none, .store 6 (.tmp 8) (.tmp 21), none, false⟩] false)
 (.seq (.region [⟨(some 22), .move (.tmp 1), none, false⟩,
 ⟨(some 23), .move (.tmp 7), none, false⟩,
 ⟨(some 24), .indexAddr none 6 (.tmp 22) (.tmp 23), none, false⟩,
 ⟨(some 25), .load (some 6) (.tmp 24), none, false⟩,
 ⟨(some 9), .alloc 47 [(.int .i64 0), (.int .i64 0), (.int .i64 0), (.str []), (.lit (.slice none 0 0)), (.lit (.slice none 0 0))], none, false⟩,
 ⟨none, .store 6 (.tmp 9) (.tmp 25), none, false⟩] false)
 (.seq (.region [⟨(some 26), .move (.tmp 2), none, false⟩,
 ⟨(some 27), .load (some 6) (.tmp 8), none, false⟩,
 ⟨(some 28), .load (some 6) (.tmp 9), none, false⟩,
 ⟨(some 29), .call (.tmp 26) [(.tmp 27), (.tmp 28)], none, false⟩,
 ⟨(some 30), .un .not false (.tmp 29), none, false⟩] false)
 (.cond (.tmp 30)
 (.seq (.region [⟨(some 6), .move (.av (.bool false)), none, false⟩] false)
 (.ret))
 (.skip))))))
 (.region [⟨(some 31), .bin .add .other true (.tmp 17) (.av (.int .i64 1)), none, false⟩,
 ⟨(some 17), .move (.tmp 31), none, false⟩] false)))))))
 (.seq (.region [⟨(some 6), .move (.av (.bool true)), none, false⟩] false)
 (.ret))))⟩
/-- inkstand/cos.holds -/
def ac76 : AF := ⟨39, [.tmp 4],
 .seq (.region [⟨(some 4), .move (.av (.bool false)), none, false⟩] false)
 (.seq (.seq (.region [⟨(some 8), .move (.tmp 0), none, false⟩,
 ⟨(some 9), .len (.slice 7) (.tmp 8), none, false⟩,
 ⟨(some 10), .move (.av (.int .i64 0)), none, false⟩] false)
 (.block 0
 (.loop
 (.seq (.region [⟨(some 11), .bin .lss .other true (.tmp 10) (.tmp 9), none, false⟩] false)
 (.seq (.cond (.tmp 11)
 (.skip)
 (.exit 0))
 (.seq (.block 1
 (.seq (.region [⟨(some 12), .move (.tmp 10), none, false⟩,
 ⟨(some 13), .indexAddr none 7 (.tmp 8) (.tmp 10), none, false⟩,
 ⟨(some 14), .load (some 7) (.tmp 13), none, false⟩,
 ⟨(some 6), .alloc 55 [(.str []), (.int .i64 0), (.int .i64 0), (.int .i64 0), (.str []), (.lit (.slice none 0 0)), (.lit (.slice none 0 0))], none, false⟩,
 ⟨(some 5), .move (.tmp 12), none, false⟩,
 ⟨none, .store 7 (.tmp 6) (.tmp 14), none, false⟩] false)
 (.seq (.seq (.region [⟨(some 15), .move (.tmp 0), none, false⟩,
 ⟨(some 16), .fieldAddr 0 (.tmp 6), none, false⟩,
 ⟨(some 17), .load none (.tmp 16), none, false⟩,
 ⟨(some 18), .call (.av (.fn (.func 53) [] [])) [(.tmp 15), (.tmp 17)], none, false⟩,
 ⟨(some 19), .move (.tmp 5), none, false⟩,
 ⟨(some 20), .bin .neq .other true (.tmp 18) (.tmp 19), none, false⟩] false)
 (.cond (.tmp 20)
 (.exit 1)
 (.skip)))
 (.seq (.region [⟨(some 21), .move (.tmp 1), none, false⟩,
 ⟨(some 22), .fieldAddr 0 (.tmp 6), none, false⟩,
 ⟨(some 23), .load none (.tmp 22), none, false⟩,
 ⟨(some 24), .call (.av (.fn (.func 53) [] [])) [(.tmp 21), (.tmp 23)], none, false⟩,
 ⟨(some 7), .move (.tmp 24), none, false⟩] false)
 (.seq (.region [⟨(some 25), .move (.tmp 7), none, false⟩,
 ⟨(some 26), .bin .lss .other true (.tmp 25) (.av (.int .i64 0)), none, false⟩,
 ⟨(some 27), .move (.tmp 26), none, false⟩,
 ⟨(some 28), .fieldAddr 1 (.tmp 6), (some (27, false)), false⟩,
 ⟨(some 29), .load (some 6) (.tmp 28), (some (27, false)), false⟩,
 ⟨(some 30), .move (.tmp 1), (some (27, false)), false⟩,
 ⟨(some 31), .move (.tmp 7), (some (27, false)), false⟩,
 ⟨(some 32), .indexAddr none 7 (.tmp 30) (.tmp 31), (some (27, false)), false⟩,
 ⟨(some 33), .fieldAddr 1 (.tmp 32), (some (27, false)), false⟩,
 ⟨(some 34), .load (some 6) (.tmp 33), (some (27, false)), false⟩,
 ⟨(some 35), .call (.av (.fn (.func 50) [] [])) [(.tmp 29), (.tmp 34)], (some (27, false)), false⟩,
 ⟨(some 36), .un .not false (.tmp 35), (some (27, false)), false⟩,
 ⟨(some 37), .pick (.tmp 27) (.av (.bool true)) (.tmp 36), none, false⟩] true)
 (.cond (.tmp 37)
 (.seq (.region [⟨(some 4), .move (.av (.bool false)), none, false⟩] false)
 (.ret))
 (.skip)))))))
 (.region [⟨(some 38), .bin .add .other true (.tmp 10) (.av (.int .i64 1)), none, false⟩,
 ⟨(some 10), .move (.tmp 38), none, false⟩] false)))))))
 (.seq (.region [⟨(some 4), .move (.av (.bool true)), none, false⟩] false)
 (.ret)))⟩
/-- (*inkstand/cos.parser).object -/
def ac51 : AF := ⟨20, [.cell 2 (some 6), .tmp 3],
 .seq (.region [⟨(some 2), .alloc 47 [(.int .i64 0), (.int .i64 0), (.int .i64 0), (.str []), (.lit (.slice none 0 0)), (.lit (.slice none 0 0))], none, false⟩,
 ⟨(some 3), .move (.av (.int .i64 0)), none, false⟩] false)
 (.seq (.region [⟨(some 7), .move (.tmp 0), none, false⟩,
 ⟨(some 8), .call (.av (.fn (.func 78) [] [])) [(.tmp 7)], none, false⟩,
 ⟨(some 6), .move (.tmp 8), none, false⟩,
 ⟨(some 9), .extract (.tmp 6) 0, none, false⟩,
 ⟨(some 10), .extract (.tmp 6) 1, none, false⟩,
 ⟨(some 4), .alloc 25 [(.int .i64 0), (.int .i64 0), (.str []), (.bool false), (.int .i64 0), (.int .i64 0)], none, false⟩,
 ⟨none, .store 6 (.tmp 4) (.tmp 9), none, false⟩,
 ⟨(some 5), .move (.tmp 10), none, false⟩] false)
 (.seq (.seq (.region [⟨(some 11), .move (.tmp 5), none, false⟩,
 ⟨(some 12), .bin .neq .other true (.tmp 11) (.av (.int .i64 0)), none, false⟩] false)
 (.cond (.tmp 12)
 (.seq (.region [⟨(some 13), .build [(.int .i64 0), (.int .i64 0), (.int .i64 0), (.str []), (.lit (.slice none 0 0)), (.lit (.slice none 0 0))] [], none, false⟩,
 ⟨(some 14), .move (.tmp 5), none, false⟩,
 ⟨none, .store 6 (.tmp 2) (.tmp 13), none, false⟩,
 ⟨(some 3), .move (.tmp 14), none, false⟩] false)
 (.ret))
 (.skip)))
 (.seq (.region [⟨(some 15), .move (.tmp 0), none, false⟩,
 ⟨(some 16), .load (some 6) (.tmp 4), none, false⟩,
 ⟨(some 17), .call (.av (.fn (.func 79) [] [])) [(.tmp 15), (.tmp 16)], none, false⟩,
 ⟨(some 18), .extract (.tmp 17) 0, none, false⟩,
 ⟨(some 19), .extract (.tmp 17) 1, none, false⟩,
 ⟨none, .store 6 (.tmp 2) (.tmp 18), none, false⟩,
 ⟨(some 3), .move (.tmp 19), none, false⟩] false)
 (.ret))))⟩
/-- (*inkstand/cos.parser).within -/
def ac109 : AF := ⟨38, [.cell 4 (some 6), .tmp 5],
 .seq (.region [⟨(some 4), .alloc 47 [(.int .i64 0), (.int .i64 0), (.int .i64 0), (.str []), (.lit (.slice none 0 0)), (.lit (.slice none 0 0))], none, false⟩,
 ⟨(some 5), .move (.av (.int .i64 0)), none, false⟩] false)
 (.seq (.seq (.region [⟨(some 8), .move (.tmp 0), none, false⟩,
 ⟨(some 9), .nilCheck (.tmp 8), none, false⟩,
 ⟨(some 10), .fieldAddr 2 (.tmp 9), none, false⟩,
 ⟨(some 11), .load none (.tmp 10), none, false⟩,
 ⟨(some 12), .bin .eql .other true (.tmp 11) (.av (.int .i64 64)), none, false⟩] false)
 (.cond (.tmp 12)
 (.seq (.region [⟨(some 13), .build [(.int .i64 0), (.int .i64 0), (.int .i64 0), (.str []), (.lit (.slice none 0 0)), (.lit (.slice none 0 0))] [], none, false⟩,
 ⟨none, .store 6 (.tmp 4) (.tmp 13), none, false⟩,
 ⟨(some 5), .move (.av (.int .i64 5)), none, false⟩] false)
 (.ret))
 (.skip)))
 (.seq (.region [⟨(some 14), .move (.tmp 0), none, false⟩,
 ⟨(some 15), .nilCheck (.tmp 14), none, false⟩,
 ⟨(some 16), .fieldAddr 2 (.tmp 15), none, false⟩,
 ⟨(some 17), .load none (.tmp 16), none, false⟩,
 ⟨(some 18), .bin .add .other true (.tmp 17) (.av (.int .i64 1)), none, false⟩,
 ⟨(some 19), .nilCheck (.tmp 14), none, false⟩,
 ⟨(some 20), .fieldAddr 2 (.tmp 19), none, false⟩,
 ⟨none, .store 1 (.tmp 20) (.tmp 18), none, false⟩] false)
 (.seq (.region [⟨(some 22), .move (.tmp 1), none, false⟩,
 ⟨(some 23), .call (.tmp 22) [], none, false⟩,
 ⟨(some 21), .move (.tmp 23), none, false⟩,
 ⟨(some 24), .extract (.tmp 21) 0, none, false⟩,
 ⟨(some 25), .extract (.tmp 21) 1, none, false⟩,
 ⟨(some 6), .alloc 47 [(.int .i64 0), (.int .i64 0), (.int .i64 0), (.str []), (.lit (.slice none 0 0)), (.lit (.slice none 0 0))], none, false⟩,
 ⟨none, .store 6 (.tmp 6) (.tmp 24), none, false⟩,
 ⟨(some 7), .move (.tmp 25), none, false⟩] false)
 (.seq (.region [⟨(some 26), .move (.tmp 0), none, false⟩,
 ⟨(some 27), .nilCheck (.tmp 26), none, false⟩,
 ⟨(some 28), .fieldAddr 2 (.tmp 27), none, false⟩,
 ⟨(some 29), .load none (.tmp 28), none, false⟩,
 ⟨(some 30), .bin .sub .other true (.tmp 29) (.av (.int .i64 1)), none, false⟩,
 ⟨(some 31), .nilCheck (.tmp 26), none, false⟩,
 ⟨(some 32), .fieldAddr 2 (.tmp 31), none, false⟩,
 ⟨none, .store 1 (.tmp 32) (.tmp 30), none, false⟩] false)
 (.seq (.seq (.region [⟨(some 33), .move (.tmp 7), none, false⟩,
 ⟨(some 34), .bin .neq .other true (.tmp 33) (.av (.int .i64 0)), none, false⟩] false)
 (.cond (.tmp 34)
 (.seq (.region [⟨(some 35), .build [(.int .i64 0), (.int .i64 0), (.int .i64 0), (.str []), (.lit (.slice none 0 0)), (.lit (.slice none 0 0))] [], none, false⟩,
 ⟨(some 36), .move (.tmp 7), none, false⟩,
 ⟨none, .store 6 (.tmp 4) (.tmp 35), none, false⟩,
 ⟨(some 5), .move (.tmp 36), none, false⟩] false)
 (.ret))
 (.skip)))
 (.seq (.region [⟨(some 37), .load (some 6) (.tmp 6), none, false⟩,
 ⟨none, .store 6 (.tmp 4) (.tmp 37), none, false⟩,
 ⟨(some 5), .move (.av (.int .i64 0)), none, false⟩] false)
 (.ret)))))))⟩
end Ink.D

namespace Ink.D
open Go Go.Proofs
set_option maxRecDepth 100000
theorem c53 : cFn Tryd.prog (mtOf (Tryd.f53.body.getD .skip)) Tryd.f53 = some ac53 := by kernel_rfl
theorem a53 {E : Env} (hE : E.P = Tryd.prog) {args : List AV} {H : List Blk} {Q : AV → List Blk → Prop} (h : wpc E H ac53.body (retQ E H ac53.results Q) ⟨enterTm args ac53.ntmps, H⟩) : ACalls E 53 args H Q :=
  ACalls.enter (by rw [hE]; exact hm) (by rw [hE]; exact Tryd.func53) (by rw [hE]; exact c53) h
theorem c75 : cFn Tryd.prog (mtOf (Tryd.f75.body.getD .skip)) Tryd.f75 = some ac75 := by kernel_rfl
theorem a75 {E : Env} (hE : E.P = Tryd.prog) {args : List AV} {H : List Blk} {Q : AV → List Blk → Prop} (h : wpc E H ac75.body (retQ E H ac75.results Q) ⟨enterTm args ac75.ntmps, H⟩) : ACalls E 75 args H Q :=
  ACalls.enter (by rw [hE]; exact hm) (by rw [hE]; exact Tryd.func75) (by rw [hE]; exact c75) h
theorem c76 : cFn Tryd.prog (mtOf (Tryd.f76.body.getD .skip)) Tryd.f76 = some ac76 := by kernel_rfl
theorem a76 {E : Env} (hE : E.P = Tryd.prog) {args : List AV} {H : List Blk} {Q : AV → List Blk → Prop} (h : wpc E H ac76.body (retQ E H ac76.results Q) ⟨enterTm args ac76.ntmps, H⟩) : ACalls E 76 args H Q :=
  ACalls.enter (by rw [hE]; exact hm) (by rw [hE]; exact Tryd.func76) (by rw [hE]; exact c76) h
theorem c51 : cFn Tryd.prog (mtOf (Tryd.f51.body.getD .skip)) Tryd.f51 = some ac51 := by kernel_rfl
theorem a51 {E : Env} (hE : E.P = Tryd.prog) {args : List AV} {H : List Blk} {Q : AV → List Blk → Prop} (h : wpc E H ac51.body (retQ E H ac51.results Q) ⟨enterTm args ac51.ntmps, H⟩) : ACalls E 51 args H Q :=
  ACalls.enter (by rw [hE]; exact hm) (by rw [hE]; exact Tryd.func51) (by rw [hE]; exact c51) h
theorem c109 : cFn Tryd.prog (mtOf (Tryd.f109.body.getD .skip)) Tryd.f109 = some ac109 := by kernel_rfl
theorem a109 {E : Env} (hE : E.P = Tryd.prog) {args : List AV} {H : List Blk} {Q : AV → List Blk → Prop} (h : wpc E H ac109.body (retQ E H ac109.results Q) ⟨enterTm args ac109.ntmps, H⟩) : ACalls E 109 args H Q :=
  ACalls.enter (by rw [hE]; exact hm) (by rw [hE]; exact Tryd.func109) (by rw [hE]; exact c109) h
end Ink.D

namespace Ink.D
open Go Go.Proofs
set_option maxRecDepth 100000
set_option linter.unusedSimpArgs false
set_option linter.unusedVariables false
variable {E : Env} (hE : E.P = Tryd.prog)

theorem obE_eq (e : List UInt8 × Ob) : obE e = .str e.1 :: obC e.2 := by obtain ⟨a, b⟩ := e; rfl

theorem obD_get {d : List (List UInt8 × Ob)} {k : Nat} (h : k < d.length) : (obD d).getD (k : Int).toNat [] = obE d[k] := by
  rw [obD_map]; simp [h]

theorem obD_length (d : List (List UInt8 × Ob)) : (obD d).length = d.length := by rw [obD_map]; simp

include hE
end Ink.D

namespace Ink.D
open Go Go.Proofs
set_option maxRecDepth 100000
set_option linter.unusedSimpArgs false
set_option linter.unusedVariables false
variable {E : Env} (hE : E.P = Tryd.prog)

include hE
end Ink.D

namespace Ink.D
open Go
/-- inkstand/write.entries -/
def ac137 : AF := ⟨27, [.tmp 2],
 .seq (.region [⟨(some 2), .move (.av (.int .i64 0)), none, false⟩] false)
 (.seq (.region [⟨(some 6), .xop .makeMap [], none, false⟩,
 ⟨(some 3), .move (.tmp 6), none, false⟩] false)
 (.seq (.seq (.region [⟨(some 7), .move (.tmp 0), none, false⟩,
 ⟨(some 8), .len (.slice 7) (.tmp 7), none, false⟩,
 ⟨(some 9), .move (.av (.int .i64 0)), none, false⟩] false)
 (.block 0
 (.loop
 (.seq (.region [⟨(some 10), .bin .lss .other true (.tmp 9) (.tmp 8), none, false⟩] false)
 (.seq (.cond (.tmp 10)
 (.skip)
 (.exit 0))
 (.seq (.block 1
 (.seq (.region [⟨(some 11), .indexAddr none 7 (.tmp 7) (.tmp 9), none, false⟩,
 ⟨(some 12), .load (some 7) (.tmp 11), none, false⟩,
 ⟨(some 5), .alloc 55 [(.str []), (.int .i64 0), (.int .i64 0), (.int .i64 0), (.str []), (.lit (.slice none 0 0)), (.lit (.slice none 0 0))], none, false⟩,
 ⟨none, .store 7 (.tmp 5) (.tmp 12), none, false⟩] false)
 (.seq (.seq (.region [⟨(some 13), .fieldAddr 1 (.tmp 5), none, false⟩,
 ⟨(some 14), .fieldAddr 0 (.tmp 13), none, false⟩,
 ⟨(some 15), .load none (.tmp 14), none, false⟩,
 ⟨(some 16), .bin .eql .other true (.tmp 15) (.av (.int .i64 0)), none, false⟩,
 ⟨(some 17), .move (.tmp 16), none, false⟩,
 ⟨(some 18), .move (.tmp 3), (some (17, false)), false⟩,
 ⟨(some 19), .fieldAddr 0 (.tmp 5), (some (17, false)), false⟩,
 ⟨(some 20), .load none (.tmp 19), (some (17, false)), false⟩,
 ⟨(some 21), .xop (.lookup true false (.bool false)) [(.tmp 18), (.tmp 20)], (some (17, false)), false⟩,
 ⟨(some 22), .pick (.tmp 17) (.av (.bool true)) (.tmp 21), none, false⟩] false)
 (.cond (.tmp 22)
 (.seq (.region [⟨(some 2), .move (.av (.int .i64 1)), none, false⟩] false)
 (.ret))
 (.skip)))
 (.region [⟨(some 23), .move (.tmp 3), none, false⟩,
 ⟨(some 24), .fieldAddr 0 (.tmp 5), none, false⟩,
 ⟨(some 25), .load none (.tmp 24), none, false⟩,
 ⟨none, .xop (.mapUpdate true) [(.tmp 23), (.tmp 25), (.av (.bool true))], none, false⟩] false))))
 (.region [⟨(some 26), .bin .add .other true (.tmp 9) (.av (.int .i64 1)), none, false⟩,
 ⟨(some 9), .move (.tmp 26), none, false⟩] false)))))))
 (.seq (.region [⟨(some 2), .move (.av (.int .i64 0)), none, false⟩] false)
 (.ret))))⟩

-- 82 slices.overlaps[inkstand/api.Entry]: no body
end Ink.D

namespace Ink.D
open Go Go.Proofs
set_option maxRecDepth 100000
theorem c137 : cFn Tryd.prog (mtOf (Tryd.f137.body.getD .skip)) Tryd.f137 = some ac137 := by kernel_rfl
theorem a137 {E : Env} (hE : E.P = Tryd.prog) {args : List AV} {H : List Blk} {Q : AV → List Blk → Prop} (h : wpc E H ac137.body (retQ E H ac137.results Q) ⟨enterTm args ac137.ntmps, H⟩) : ACalls E 137 args H Q :=
  ACalls.enter (by rw [hE]; exact hm) (by rw [hE]; exact Tryd.func137) (by rw [hE]; exact c137) h
theorem p137 {E : Env} (hE : E.P = Tryd.prog) {args : List AV} {Q : AV → Prop} (h : ∀ l, wpc E (frm l) ac137.body (retQ E (frm l) ac137.results fun r H' => hb 0 r = true ∧ Q r ∧ H' = frm l) ⟨enterTm args ac137.ntmps, frm l⟩) (hp : hbL 0 args = true := by rfl) : PCalls E 137 args Q :=
  PCalls.mk hp fun l => a137 hE (h l)
end Ink.D

namespace Ink.D
open Go Go.Proofs
set_option maxRecDepth 100000
set_option linter.unusedSimpArgs false
set_option linter.unusedVariables false
variable {E : Env} (hE : E.P = Tryd.prog)

include hE
end Ink.D

namespace Ink.D
open Go Go.Proofs
set_option maxRecDepth 100000
set_option linter.unusedSimpArgs false
set_option linter.unusedVariables false
variable {E : Env} (hE : E.P = Tryd.prog)

include hE
end Ink.D

namespace Ink.D
open Go Go.Proofs
set_option maxRecDepth 100000
set_option linter.unusedSimpArgs false
set_option linter.unusedVariables false
variable {E : Env} (hE : E.P = Tryd.prog)

include hE
end Ink.D

namespace Ink.D
open Go Go.Proofs
set_option maxRecDepth 100000
set_option linter.unusedSimpArgs false
set_option linter.unusedVariables false
variable {E : Env} (hE : E.P = Tryd.prog)

def Ob.kind : Ob → Int
  | .mk k _ _ _ _ _ => k

include hE
end Ink.D
