import Derived.Test.YtipdgghfkdlfmaaDoorInkBB
import Derived.Test.YtipdgghfkdlfmaaDoorPLexA
import Derived.Test.YtipdgghfkdlfmaaDoorPWrE
import Derived.Test.YtipdgghfkdlfmaaDoorPWrB
set_option linter.all false
namespace Ink.D
open Go
/-- inkstand/inkstandlaw05.WriteParts -/
def ac12 : AF := ⟨125, [.tmp 4],
 .seq (.region [⟨(some 2), .box 47 (.tmp 0), none, false⟩,
 ⟨(some 3), .box 47 (.tmp 1), none, false⟩,
 ⟨(some 4), .move (.av (.bool false)), none, false⟩] false)
 (.seq (.region [⟨(some 14), .call (.av (.fn (.func 36) [] [])) [], none, false⟩,
 ⟨(some 5), .move (.tmp 14), none, false⟩] false)
 (.seq (.seq (.region [⟨(some 15), .load (some 6) (.tmp 2), none, false⟩,
 ⟨(some 16), .call (.av (.fn (.func 37) [] [])) [(.tmp 15), (.av (.int .i64 1500))], none, false⟩,
 ⟨(some 17), .un .not false (.tmp 16), none, false⟩,
 ⟨(some 18), .move (.tmp 17), none, false⟩,
 ⟨(some 19), .load (some 6) (.tmp 3), (some (18, false)), false⟩,
 ⟨(some 20), .call (.av (.fn (.func 37) [] [])) [(.tmp 19), (.av (.int .i64 1500))], (some (18, false)), false⟩,
 ⟨(some 21), .un .not false (.tmp 20), (some (18, false)), false⟩,
 ⟨(some 22), .pick (.tmp 18) (.av (.bool true)) (.tmp 21), none, false⟩,
 ⟨(some 23), .move (.tmp 22), none, false⟩,
 ⟨(some 24), .fieldAddr 0 (.tmp 2), (some (23, false)), false⟩,
 ⟨(some 25), .load none (.tmp 24), (some (23, false)), false⟩,
 ⟨(some 26), .bin .eql .other true (.tmp 25) (.av (.int .i64 0)), (some (23, false)), false⟩,
 ⟨(some 27), .pick (.tmp 23) (.av (.bool true)) (.tmp 26), none, false⟩,
 ⟨(some 28), .move (.tmp 27), none, false⟩,
 ⟨(some 29), .fieldAddr 0 (.tmp 3), (some (28, false)), false⟩,
 ⟨(some 30), .load none (.tmp 29), (some (28, false)), false⟩,
 ⟨(some 31), .bin .eql .other true (.tmp 30) (.av (.int .i64 0)), (some (28, false)), false⟩,
 ⟨(some 32), .pick (.tmp 28) (.av (.bool true)) (.tmp 31), none, false⟩] false)
 (.cond (.tmp 32)
 (.seq (.region [⟨(some 33), .move (.tmp 5), none, false⟩,
 ⟨(some 4), .move (.tmp 33), none, false⟩] false)
 (.ret))
 (.skip)))
 (.seq (.region [⟨(some 35), .load (some 6) (.tmp 2), none, false⟩,
 ⟨(some 36), .call (.av (.fn (.func 38) [] [])) [(.tmp 35)], none, false⟩,
 ⟨(some 34), .move (.tmp 36), none, false⟩,
 ⟨(some 37), .extract (.tmp 34) 0, none, false⟩,
 ⟨(some 38), .extract (.tmp 34) 1, none, false⟩,
 ⟨(some 6), .move (.tmp 37), none, false⟩,
 ⟨(some 7), .move (.tmp 38), none, false⟩] false)
 (.seq (.region [⟨(some 40), .load (some 6) (.tmp 3), none, false⟩,
 ⟨(some 41), .call (.av (.fn (.func 38) [] [])) [(.tmp 40)], none, false⟩,
 ⟨(some 39), .move (.tmp 41), none, false⟩,
 ⟨(some 42), .extract (.tmp 39) 0, none, false⟩,
 ⟨(some 43), .extract (.tmp 39) 1, none, false⟩,
 ⟨(some 8), .move (.tmp 42), none, false⟩,
 ⟨(some 9), .move (.tmp 43), none, false⟩] false)
 (.seq (.region [⟨(some 45), .load (some 6) (.tmp 2), none, false⟩,
 ⟨(some 46), .load (some 6) (.tmp 3), none, false⟩,
 ⟨(some 47), .buildSlice false 47 6 2 [(.int .i64 0), (.int .i64 0), (.int .i64 0), (.str []), (.lit (.slice none 0 0)), (.lit (.slice none 0 0))] [(0, (.tmp 45)), (1, (.tmp 46))], none, false⟩,
 ⟨(some 48), .build [(.int .i64 0), (.int .i64 0), (.int .i64 0), (.str []), (.lit (.slice none 0 0)), (.lit (.slice none 0 0))] [(0, 1, (.av (.int .i64 5))), (4, 1, (.tmp 47))], none, false⟩,
 ⟨(some 49), .call (.av (.fn (.func 38) [] [])) [(.tmp 48)], none, false⟩,
 ⟨(some 44), .move (.tmp 49), none, false⟩,
 ⟨(some 50), .extract (.tmp 44) 0, none, false⟩,
 ⟨(some 51), .extract (.tmp 44) 1, none, false⟩,
 ⟨(some 10), .move (.tmp 50), none, false⟩,
 ⟨(some 11), .move (.tmp 51), none, false⟩] false)
 (.seq (.region [⟨(some 53), .load (some 6) (.tmp 2), none, false⟩,
 ⟨(some 54), .build [(.str []), (.int .i64 0), (.int .i64 0), (.int .i64 0), (.str []), (.lit (.slice none 0 0)), (.lit (.slice none 0 0))] [(0, 1, (.av (.str [65]))), (1, 6, (.tmp 53))], none, false⟩,
 ⟨(some 55), .load (some 6) (.tmp 3), none, false⟩,
 ⟨(some 56), .build [(.str []), (.int .i64 0), (.int .i64 0), (.int .i64 0), (.str []), (.lit (.slice none 0 0)), (.lit (.slice none 0 0))] [(0, 1, (.av (.str [66]))), (1, 6, (.tmp 55))], none, false⟩,
 ⟨(some 57), .buildSlice false 55 7 2 [(.str []), (.int .i64 0), (.int .i64 0), (.int .i64 0), (.str []), (.lit (.slice none 0 0)), (.lit (.slice none 0 0))] [(0, (.tmp 54)), (1, (.tmp 56))], none, false⟩,
 ⟨(some 58), .build [(.int .i64 0), (.int .i64 0), (.int .i64 0), (.str []), (.lit (.slice none 0 0)), (.lit (.slice none 0 0))] [(0, 1, (.av (.int .i64 6))), (5, 1, (.tmp 57))], none, false⟩,
 ⟨(some 59), .call (.av (.fn (.func 38) [] [])) [(.tmp 58)], none, false⟩,
 ⟨(some 52), .move (.tmp 59), none, false⟩,
 ⟨(some 60), .extract (.tmp 52) 0, none, false⟩,
 ⟨(some 61), .extract (.tmp 52) 1, none, false⟩,
 ⟨(some 12), .move (.tmp 60), none, false⟩,
 ⟨(some 13), .move (.tmp 61), none, false⟩] false)
 (.seq (.seq (.region [⟨(some 62), .move (.tmp 11), none, false⟩,
 ⟨(some 63), .bin .neq .other true (.tmp 62) (.av (.int .i64 0)), none, false⟩] false)
 (.cond (.tmp 63)
 (.seq (.region [⟨(some 64), .move (.tmp 5), none, false⟩,
 ⟨(some 65), .move (.tmp 64), none, false⟩,
 ⟨(some 66), .move (.tmp 13), (some (65, true)), false⟩,
 ⟨(some 67), .move (.tmp 11), (some (65, true)), false⟩,
 ⟨(some 68), .bin .eql .other true (.tmp 66) (.tmp 67), (some (65, true)), false⟩,
 ⟨(some 69), .pick (.tmp 65) (.tmp 68) (.av (.bool false)), none, false⟩,
 ⟨(some 70), .move (.tmp 69), none, false⟩,
 ⟨(some 71), .move (.tmp 11), (some (70, true)), false⟩,
 ⟨(some 72), .bin .eql .other true (.tmp 71) (.av (.int .i64 5)), (some (70, true)), false⟩,
 ⟨(some 73), .move (.tmp 72), (some (70, true)), false⟩,
 ⟨(some 74), .move (.tmp 7), (some (73, false)), false⟩,
 ⟨(some 75), .bin .neq .other true (.tmp 74) (.av (.int .i64 0)), (some (73, false)), false⟩,
 ⟨(some 76), .pick (.tmp 73) (.av (.bool true)) (.tmp 75), (some (70, true)), false⟩,
 ⟨(some 77), .move (.tmp 76), (some (70, true)), false⟩,
 ⟨(some 78), .move (.tmp 9), (some (77, false)), false⟩,
 ⟨(some 79), .bin .neq .other true (.tmp 78) (.av (.int .i64 0)), (some (77, false)), false⟩,
 ⟨(some 80), .pick (.tmp 77) (.av (.bool true)) (.tmp 79), (some (70, true)), false⟩,
 ⟨(some 81), .move (.tmp 80), (some (70, true)), false⟩,
 ⟨(some 82), .fieldAddr 0 (.tmp 2), (some (81, false)), false⟩,
 ⟨(some 83), .load none (.tmp 82), (some (81, false)), false⟩,
 ⟨(some 84), .bin .eql .other true (.tmp 83) (.av (.int .i64 8)), (some (81, false)), false⟩,
 ⟨(some 85), .pick (.tmp 81) (.av (.bool true)) (.tmp 84), (some (70, true)), false⟩,
 ⟨(some 86), .move (.tmp 85), (some (70, true)), false⟩,
 ⟨(some 87), .fieldAddr 0 (.tmp 3), (some (86, false)), false⟩,
 ⟨(some 88), .load none (.tmp 87), (some (86, false)), false⟩,
 ⟨(some 89), .bin .eql .other true (.tmp 88) (.av (.int .i64 8)), (some (86, false)), false⟩,
 ⟨(some 90), .pick (.tmp 86) (.av (.bool true)) (.tmp 89), (some (70, true)), false⟩,
 ⟨(some 91), .pick (.tmp 70) (.tmp 90) (.av (.bool false)), none, false⟩,
 ⟨(some 4), .move (.tmp 91), none, false⟩] false)
 (.ret))
 (.skip)))
 (.seq (.region [⟨(some 92), .move (.tmp 5), none, false⟩,
 ⟨(some 93), .move (.tmp 92), none, false⟩,
 ⟨(some 94), .move (.tmp 7), (some (93, true)), false⟩,
 ⟨(some 95), .bin .eql .other true (.tmp 94) (.av (.int .i64 0)), (some (93, true)), false⟩,
 ⟨(some 96), .pick (.tmp 93) (.tmp 95) (.av (.bool false)), none, false⟩,
 ⟨(some 97), .move (.tmp 96), none, false⟩,
 ⟨(some 98), .move (.tmp 9), (some (97, true)), false⟩,
 ⟨(some 99), .bin .eql .other true (.tmp 98) (.av (.int .i64 0)), (some (97, true)), false⟩,
 ⟨(some 100), .pick (.tmp 97) (.tmp 99) (.av (.bool false)), none, false⟩,
 ⟨(some 101), .move (.tmp 100), none, false⟩,
 ⟨(some 102), .move (.tmp 13), (some (101, true)), false⟩,
 ⟨(some 103), .bin .eql .other true (.tmp 102) (.av (.int .i64 0)), (some (101, true)), false⟩,
 ⟨(some 104), .pick (.tmp 101) (.tmp 103) (.av (.bool false)), none, false⟩,
 ⟨(some 105), .move (.tmp 104), none, false⟩,
 ⟨(some 106), .move (.tmp 10), (some (105, true)), false⟩,
 ⟨(some 107), .move (.tmp 6), (some (105, true)), false⟩,
 ⟨(some 108), .bin .add .other false (.av (.str [91])) (.tmp 107), (some (105, true)), false⟩,
 ⟨(some 109), .bin .add .other false (.tmp 108) (.av (.str [32])), (some (105, true)), false⟩,
 ⟨(some 110), .move (.tmp 8), (some (105, true)), false⟩,
 ⟨(some 111), .bin .add .other false (.tmp 109) (.tmp 110), (some (105, true)), false⟩,
 ⟨(some 112), .bin .add .other false (.tmp 111) (.av (.str [93])), (some (105, true)), false⟩,
 ⟨(some 113), .bin .eql .other false (.tmp 106) (.tmp 112), (some (105, true)), false⟩,
 ⟨(some 114), .pick (.tmp 105) (.tmp 113) (.av (.bool false)), none, false⟩,
 ⟨(some 115), .move (.tmp 114), none, false⟩,
 ⟨(some 116), .move (.tmp 12), (some (115, true)), false⟩,
 ⟨(some 117), .move (.tmp 6), (some (115, true)), false⟩,
 ⟨(some 118), .bin .add .other false (.av (.str [60, 60, 47, 65, 32])) (.tmp 117), (some (115, true)), false⟩,
 ⟨(some 119), .bin .add .other false (.tmp 118) (.av (.str [32, 47, 66, 32])), (some (115, true)), false⟩,
 ⟨(some 120), .move (.tmp 8), (some (115, true)), false⟩,
 ⟨(some 121), .bin .add .other false (.tmp 119) (.tmp 120), (some (115, true)), false⟩,
 ⟨(some 122), .bin .add .other false (.tmp 121) (.av (.str [62, 62])), (some (115, true)), false⟩,
 ⟨(some 123), .bin .eql .other false (.tmp 116) (.tmp 122), (some (115, true)), false⟩,
 ⟨(some 124), .pick (.tmp 115) (.tmp 123) (.av (.bool false)), none, false⟩,
 ⟨(some 4), .move (.tmp 124), none, false⟩] false)
 (.ret)))))))))⟩
end Ink.D

namespace Ink.D
open Go Go.Proofs
set_option maxRecDepth 100000
theorem c12 : cFn Tryd.prog (mtOf (Tryd.f12.body.getD .skip)) Tryd.f12 = some ac12 := by kernel_rfl
theorem a12 {E : Env} (hE : E.P = Tryd.prog) {args : List AV} {H : List Blk} {Q : AV → List Blk → Prop} (h : wpc E H ac12.body (retQ E H ac12.results Q) ⟨enterTm args ac12.ntmps, H⟩) : ACalls E 12 args H Q :=
  ACalls.enter (by rw [hE]; exact hm) (by rw [hE]; exact Tryd.func12) (by rw [hE]; exact c12) h
theorem p12 {E : Env} (hE : E.P = Tryd.prog) {args : List AV} {Q : AV → Prop} (h : ∀ l, wpc E (frm l) ac12.body (retQ E (frm l) ac12.results fun r H' => hb 0 r = true ∧ Q r ∧ H' = frm l) ⟨enterTm args ac12.ntmps, frm l⟩) (hp : hbL 0 args = true := by rfl) : PCalls E 12 args Q :=
  PCalls.mk hp fun l => a12 hE (h l)
end Ink.D

namespace Ink.D
open Go Go.Proofs
set_option maxRecDepth 100000
set_option linter.unusedSimpArgs false
set_option linter.unusedVariables false
variable {E : Env} (hE : E.P = Tryd.prog)

def resT (o : Ob) : List UInt8 := if errF o = 0 then txt o else []
theorem objAVF_eq (o : Ob) : objAVF o = .tup [.str (resT o), .int .i64 (errF o)] := by
  unfold objAVF resT
  by_cases h : errF o = 0
  · rw [if_pos h, if_pos h, h]
  · rw [if_neg h, if_neg h]

abbrev arr2 (a b : Ob) : Ob := .mk 5 0 0 [] [a, b] []
abbrev dic2 (a b : Ob) : Ob := .mk 6 0 0 [] [] [([65], a), ([66], b)]

theorem errF_arr (a b : Ob) : errF (arr2 a b) = if saneF a 1 ≠ 0 then saneF a 1 else saneF b 1 := by
  have h : saneF (arr2 a b) 0 = if saneF a 1 ≠ 0 then saneF a 1 else saneF b 1 := by
    rw [saneF]
    have h1 : shapeF 5 0 0 [] 0 = 0 := by simp [shapeF, shapeL]
    have h2 : sizeL 5 0 0 [a, b].length ([] : List (List UInt8 × Ob)).length 0 = 0 := by simp [sizeL]
    rw [if_neg (by simp [h1]), if_neg (by rw [h2]; simp), if_pos rfl]
    simp only [saneFs]
    rw [show (0 : Int) + 1 = 1 from rfl]
    by_cases h1 : saneF a 1 = 0 <;> by_cases h2 : saneF b 1 = 0 <;> simp [h1, h2]
  unfold errF
  rw [if_neg (show ¬ (arr2 a b).kind = 8 by simp [Ob.kind]), h]
  split
  · rfl
  · rename_i h; omega

theorem errF_dic (a b : Ob) (ha : a.kind ≠ 0) (hb : b.kind ≠ 0) : errF (dic2 a b) = if saneF a 1 ≠ 0 then saneF a 1 else saneF b 1 := by
  have h : saneF (dic2 a b) 0 = if saneF a 1 ≠ 0 then saneF a 1 else saneF b 1 := by
    rw [saneF]
    have h1 : shapeF 6 0 0 [([65], a), ([66], b)] 0 = 0 := by simp [shapeF, entL, ha, hb]
    have h2 : sizeL 6 0 0 ([] : List Ob).length [(([65] : List UInt8), a), ([66], b)].length 0 = 0 := by simp [sizeL]
    rw [if_neg (by simp [h1]), if_neg (by rw [h2]; simp), if_neg (by decide), if_pos (by decide)]
    simp only [saneFd, saneFe]
    rw [show (0 : Int) + 1 = 1 from rfl]
    by_cases h1 : saneF a 1 = 0 <;> by_cases h2 : saneF b 1 = 0 <;> simp [h1, h2]
  unfold errF
  rw [if_neg (show ¬ (dic2 a b).kind = 8 by simp [Ob.kind]), h]
  split
  · rfl
  · rename_i h; omega

theorem sane8 {o : Ob} (h : saneF o 1 = 0) : o.kind ≠ 8 ∧ errF o = 0 := by
  obtain ⟨k, n, f, s, l, d⟩ := o
  have h8 : k ≠ 8 := by
    intro hk
    subst hk
    rw [saneF] at h
    have h1 : shapeF 8 n f d 1 = 1 := by simp [shapeF]
    rw [h1] at h
    simp at h
  refine ⟨h8, ?_⟩
  have := sane_deeper _ (.mk k n f s l d) 0 (Nat.lt_succ_self _) (by omega) (.inl h8)
  rw [show (0 : Int) + 1 = 1 from rfl, h] at this
  have h0 : saneF (.mk k n f s l d) 0 = 0 := by omega
  unfold errF
  simp [h0, Ob.kind, h8]

theorem deeper0 {o : Ob} (h : saneF o 1 ≠ 0) : saneF o 1 = 5 ∨ errF o ≠ 0 ∨ o.kind = 8 := by
  by_cases h8 : o.kind = 8
  · exact .inr (.inr h8)
  · have := sane_deeper _ o 0 (Nat.lt_succ_self _) (by omega) (.inl h8)
    rw [show (0 : Int) + 1 = 1 from rfl] at this
    rcases this with h1 | h1
    · right; left
      unfold errF
      rw [← h1, if_pos h]
      exact h
    · exact .inl h1

theorem txt_arr (a b : Ob) : txt (arr2 a b) = [91] ++ txt a ++ [32] ++ txt b ++ [93] := by
  rw [txt]; simp [txtL, joinT]
theorem txt_dic (a b : Ob) : txt (dic2 a b) = [60, 60, 47, 65, 32] ++ txt a ++ [32, 47, 66, 32] ++ txt b ++ [62, 62] := by
  have e1 : nameC 65 = [65] := by decide +kernel
  have e2 : nameC 66 = [66] := by decide +kernel
  rw [txt]; simp [txtD, txtE, joinT, e1, e2]

/-- what write.Object asks, of an object of few bytes -/
theorem ok_few {o : Ob} (hw : wfO o) (hb : bulkO o ≤ 100000) (h : errF o = 0) : okW o = true ∧ (txt o).length < 1000000000 := by
  have h0 : saneF o 0 = 0 := by
    unfold errF at h
    split at h
    · rename_i h1; exact absurd h h1
    · rename_i h1; exact Decidable.not_not.mp h1
  have hk := okW_of _ o 0 (Nat.lt_succ_self _) h0 hb
  have := txt_len _ o (Nat.lt_succ_self _) hk hw
  exact ⟨hk, by omega⟩

theorem count_bulk : ∀ (N : Nat) (o : Ob), sizeOf o < N → countO o ≤ bulkO o
  | 0, _, h => by omega
  | N + 1, .mk k n f s l d, h => by
    simp at h
    have hL : ∀ (l : List Ob), sizeOf l < N + 1 → countL l ≤ bulkL l := by
      intro l
      induction l with
      | nil => intro _; simp [countL]
      | cons o r ih => intro hz; simp at hz; have := count_bulk N o (by omega); have := ih (by omega); simp only [countL, bulkL]; omega
    have hD : ∀ (l : List (List UInt8 × Ob)), sizeOf l < N + 1 → countD l ≤ bulkD l := by
      intro l
      induction l with
      | nil => intro _; simp [countD]
      | cons e r ih => intro hz; obtain ⟨a, o⟩ := e; simp at hz; have := count_bulk N o (by omega); have := ih (by omega); simp only [countD, countE, bulkD, bulkE]; omega
    have := hL l (by omega)
    have := hD d (by omega)
    simp only [countO, bulkO]; omega

theorem pubArr2 {H : List Blk} {m : Nat} (a b : Ob) : Pub H m (.agg [.int .i64 5, .int .i64 0, .int .i64 0, .str [], .imm 6 [obC a, obC b], nilA]) (.agg (obC (arr2 a b))) :=
  Pub.aggL ⟨.same _ rfl, .same _ rfl, .same _ rfl, .same _ rfl, .same _ (by simp [hb, hbLL, obC_hb]), .nil _ _, trivial⟩ (obC_sc _)
theorem pubDic2 {H : List Blk} {m : Nat} (a b : Ob) : Pub H m (.agg [.int .i64 6, .int .i64 0, .int .i64 0, .str [], nilA, .imm 7 [.str [65] :: obC a, .str [66] :: obC b]]) (.agg (obC (dic2 a b))) :=
  Pub.aggL ⟨.same _ rfl, .same _ rfl, .same _ rfl, .same _ rfl, .nil _ _, .same _ (by simp [hb, hbL, hbLL, obC_hb]), trivial⟩ (obC_sc _)

include hE
set_option maxHeartbeats 4000000 in
theorem writeParts (hT : TabE E) (a b : Ob) (ha : wfO a) (hb_ : wfO b) : PCalls E 12 [.agg (obC a), .agg (obC b)] (· = .bool true) := by
  have hA := awake5 hE hT
  have hFa := few37 hE a ha 1500 (by decide) (by decide)
  have hFb := few37 hE b hb_ 1500 (by decide) (by decide)
  have sa := few_bulk _ a 1500 0 (Nat.lt_succ_self _)
  have sb := few_bulk _ b 1500 0 (Nat.lt_succ_self _)
  generalize fewO a 1500 0 = fa at *
  generalize fewO b 1500 0 = fb at *
  have hbA := fun n0 => obC_hb (n0 := n0) a
  have hbB := fun n0 => obC_hb (n0 := n0) b
  by_cases hg : 0 ≤ fa ∧ 0 ≤ fb ∧ a.kind ≠ 0 ∧ b.kind ≠ 0
  · obtain ⟨g1, g2, g3, g4⟩ := hg
    have sa := sa g1
    have sb := sb g2
    have ca := count_bulk _ a (Nat.lt_succ_self _)
    have cb := count_bulk _ b (Nat.lt_succ_self _)
    rw [decide_eq_true g1] at hFa
    rw [decide_eq_true g2] at hFb
    have b1 : bulkO (arr2 a b) ≤ 4000 := by simp only [bulkO, bulkL, bulkD, List.length_nil]; omega
    have b2 : bulkO (dic2 a b) ≤ 4000 := by simp only [bulkO, bulkL, bulkD, bulkE, List.length_nil, List.length_cons]; omega
    have c1 := count_bulk _ (arr2 a b) (Nat.lt_succ_self _)
    have c2 := count_bulk _ (dic2 a b) (Nat.lt_succ_self _)
    have w1 : wfO (arr2 a b) := by unfold wfO; exact ⟨by unfold inI64; omega, by unfold inI64; omega, by unfold inI64; omega, by simp, by simp, by simp, by simp [wfOs, ha, hb_], by simp [wfDs]⟩
    have w2 : wfO (dic2 a b) := by unfold wfO; exact ⟨by unfold inI64; omega, by unfold inI64; omega, by unfold inI64; omega, by simp, by simp, by simp, by simp [wfOs], by simp [wfDs, wfE, ha, hb_]⟩
    have hOa := objectF hE hT a (by unfold big; omega) (ok_few ha (by omega))
    have hOb := objectF hE hT b (by unfold big; omega) (ok_few hb_ (by omega))
    have hO1 := objectF hE hT (arr2 a b) (by unfold big; omega) (ok_few w1 (by omega))
    have hO2 := objectF hE hT (dic2 a b) (by unfold big; omega) (ok_few w2 (by omega))
    have t1 := fun h => (ok_few w1 (by omega) h).2
    have t2 := fun h => (ok_few w2 (by omega) h).2
    rw [objAVF_eq] at hOa hOb hO1 hO2
    have hO1r := hO1.pub (args' := [.agg [.int .i64 5, .int .i64 0, .int .i64 0, .str [], .imm 6 [obC a, obC b], nilA]]) (fun n => ⟨pubArr2 a b, trivial⟩)
    have hO2r := hO2.pub (args' := [.agg [.int .i64 6, .int .i64 0, .int .i64 0, .str [], nilA, .imm 7 [.str [65] :: obC a, .str [66] :: obC b]]]) (fun n => ⟨pubDic2 a b, trivial⟩)
    have eG := errF_arr a b
    have eH := errF_dic a b g3 g4
    have eGH : errF (dic2 a b) = errF (arr2 a b) := by rw [eG, eH]
    rw [eGH] at hO2r
    by_cases hz : errF (arr2 a b) = 0
    · have hz1 : saneF a 1 = 0 ∧ saneF b 1 = 0 := by
        rw [eG] at hz
        by_cases h1 : saneF a 1 = 0
        · rw [if_neg (by simp [h1])] at hz; exact ⟨h1, hz⟩
        · rw [if_pos h1] at hz; exact absurd hz h1
      have za := sane8 hz1.1
      have zb := sane8 hz1.2
      have r1 : resT (arr2 a b) = [91] ++ txt a ++ [32] ++ txt b ++ [93] := by unfold resT; rw [if_pos hz, txt_arr]
      have r2 : resT (dic2 a b) = [60, 60, 47, 65, 32] ++ txt a ++ [32, 47, 66, 32] ++ txt b ++ [62, 62] := by unfold resT; rw [if_pos (eGH.trans hz), txt_dic]
      have ra : resT a = txt a := by unfold resT; rw [if_pos za.2]
      have rb : resT b = txt b := by unfold resT; rw [if_pos zb.2]
      have tl1 := t1 hz
      rw [txt_arr] at tl1
      simp only [List.length_append, List.length_cons, List.length_nil] at tl1
      rw [ra, za.2] at hOa
      rw [rb, zb.2] at hOb
      rw [r1, hz] at hO1r
      rw [r2, hz] at hO2r
      clear hO1 hO2 t1 t2 eG eH eGH r1 r2 ra rb c1 c2 w1 w2 b1 b2 ca cb hz1 hz
      generalize txt a = ta at *
      generalize txt b = tb at *
      obtain ⟨ak, an, af_, as_, al, ad⟩ := a
      obtain ⟨bk, bn, bf, bs, bl, bd⟩ := b
      unfold Ob.kind at g3 g4
      simp only at g3 g4
      unfold obC at *
      refine p12 hE (fun l => ?_) (by simp [hbL, hb] at hbA hbB ⊢; simp [hbA, hbB])
      conv => whnf
      repeat' (first
        | (refine And.intro ?_ ?_; (focus (first | omega | decide | (unfold inI64; omega) | (simp only [List.length_append, List.length_cons, List.length_nil] <;> omega) | (refine ⟨?_, ?_⟩ <;> omega) | (refine ⟨?_, ?_, ?_, ?_, ?_, ?_⟩ <;> first | rfl | trivial | decide | omega | (simp [bytesAV_length] <;> omega)) | (simp <;> omega) | (unfold inI64; simp only [List.length_append, List.length_cons, List.length_nil] <;> omega))); conv => whnf)
        | (refine brD (fun _ => ?_) (fun _ => ?_) <;> first | (exfalso; omega) | (conv => whnf))
        | (refine brB (fun _ => ?_) (fun _ => ?_) <;> conv => whnf)
        | ((first | refine CallG.e (hA) ?_ | refine CallD.e (hA) ?_ | refine CallQ.e (hA) ?_ | refine CallP.e (hA) ?_); conv => whnf)
        | ((first | refine CallG.e (hFa) ?_ | refine CallD.e (hFa) ?_ | refine CallQ.e (hFa) ?_ | refine CallP.e (hFa) ?_); conv => whnf)
        | ((first | refine CallG.e (hFb) ?_ | refine CallD.e (hFb) ?_ | refine CallQ.e (hFb) ?_ | refine CallP.e (hFb) ?_); conv => whnf)
        | ((first | refine CallG.e (hOa) ?_ | refine CallD.e (hOa) ?_ | refine CallQ.e (hOa) ?_ | refine CallP.e (hOa) ?_); conv => whnf)
        | ((first | refine CallG.e (hOb) ?_ | refine CallD.e (hOb) ?_ | refine CallQ.e (hOb) ?_ | refine CallP.e (hOb) ?_); conv => whnf)
        | ((first | refine CallG.e (hO1r) ?_ | refine CallD.e (hO1r) ?_ | refine CallQ.e (hO1r) ?_ | refine CallP.e (hO1r) ?_); conv => whnf)
        | ((first | refine CallG.e (hO2r) ?_ | refine CallD.e (hO2r) ?_ | refine CallQ.e (hO2r) ?_ | refine CallP.e (hO2r) ?_); conv => whnf))
      all_goals first | exact RetG.drop rfl rfl rfl ⟨rfl, congrArg AV.bool (by first | rfl | exact decide_eq_true rfl | exact decide_eq_true (by omega)), rfl⟩ | (rename_i h; exact absurd rfl h)
    · have hcase : errF (arr2 a b) = 5 ∨ errF a ≠ 0 ∨ errF b ≠ 0 ∨ a.kind = 8 ∨ b.kind = 8 := by
        rw [eG]
        by_cases h1 : saneF a 1 = 0
        · rw [if_neg (by simp [h1])]
          have h2 : saneF b 1 ≠ 0 := by rw [eG, if_neg (by simp [h1])] at hz; exact hz
          rcases deeper0 h2 with h | h | h
          · exact .inl h
          · exact .inr (.inr (.inl h))
          · exact .inr (.inr (.inr (.inr h)))
        · rw [if_pos h1]
          rcases deeper0 h1 with h | h | h
          · exact .inl h
          · exact .inr (.inl h)
          · exact .inr (.inr (.inr (.inl h)))
      clear hO1 hO2 t1 t2 eG eH eGH c1 c2 w1 w2 b1 b2 ca cb
      generalize errF (arr2 a b) = G at *
      generalize resT (arr2 a b) = R1 at *
      generalize resT (dic2 a b) = R2 at *
      generalize errF a = ea at *
      generalize errF b = eb at *
      generalize resT a = Ra at *
      generalize resT b = Rb at *
      obtain ⟨ak, an, af_, as_, al, ad⟩ := a
      obtain ⟨bk, bn, bf, bs, bl, bd⟩ := b
      unfold Ob.kind at g3 g4 hcase
      simp only at g3 g4 hcase
      unfold obC at *
      refine p12 hE (fun l => ?_) (by simp [hbL, hb] at hbA hbB ⊢; simp [hbA, hbB])
      conv => whnf
      repeat' (first
        | (refine And.intro ?_ ?_; (focus (first | omega | decide | (unfold inI64; omega) | (simp only [List.length_append, List.length_cons, List.length_nil] <;> omega) | (refine ⟨?_, ?_⟩ <;> omega) | (refine ⟨?_, ?_, ?_, ?_, ?_, ?_⟩ <;> first | rfl | trivial | decide | omega | (simp [bytesAV_length] <;> omega)) | (simp <;> omega) | (unfold inI64; simp only [List.length_append, List.length_cons, List.length_nil] <;> omega))); conv => whnf)
        | (refine brD (fun _ => ?_) (fun _ => ?_) <;> first | (exfalso; omega) | (conv => whnf))
        | (refine brB (fun _ => ?_) (fun _ => ?_) <;> conv => whnf)
        | ((first | refine CallG.e (hA) ?_ | refine CallD.e (hA) ?_ | refine CallQ.e (hA) ?_ | refine CallP.e (hA) ?_); conv => whnf)
        | ((first | refine CallG.e (hFa) ?_ | refine CallD.e (hFa) ?_ | refine CallQ.e (hFa) ?_ | refine CallP.e (hFa) ?_); conv => whnf)
        | ((first | refine CallG.e (hFb) ?_ | refine CallD.e (hFb) ?_ | refine CallQ.e (hFb) ?_ | refine CallP.e (hFb) ?_); conv => whnf)
        | ((first | refine CallG.e (hOa) ?_ | refine CallD.e (hOa) ?_ | refine CallQ.e (hOa) ?_ | refine CallP.e (hOa) ?_); conv => whnf)
        | ((first | refine CallG.e (hOb) ?_ | refine CallD.e (hOb) ?_ | refine CallQ.e (hOb) ?_ | refine CallP.e (hOb) ?_); conv => whnf)
        | ((first | refine CallG.e (hO1r) ?_ | refine CallD.e (hO1r) ?_ | refine CallQ.e (hO1r) ?_ | refine CallP.e (hO1r) ?_); conv => whnf)
        | ((first | refine CallG.e (hO2r) ?_ | refine CallD.e (hO2r) ?_ | refine CallQ.e (hO2r) ?_ | refine CallP.e (hO2r) ?_); conv => whnf))
      all_goals first | exact RetG.drop rfl rfl rfl ⟨rfl, congrArg AV.bool (by first | rfl | exact decide_eq_true rfl | exact decide_eq_true (by omega)), rfl⟩ | (rename_i h; exact absurd rfl h)
  · obtain ⟨ak, an, af_, as_, al, ad⟩ := a
    obtain ⟨bk, bn, bf, bs, bl, bd⟩ := b
    unfold Ob.kind at hg
    simp only at hg
    unfold obC at *
    refine p12 hE (fun l => ?_) (by simp [hbL, hb] at hbA hbB ⊢; simp [hbA, hbB])
    by_cases ga : 0 ≤ fa
    · rw [decide_eq_true ga] at hFa
      by_cases gb : 0 ≤ fb
      · rw [decide_eq_true gb] at hFb
        have hg' : ak = 0 ∨ bk = 0 := by omega
        conv => whnf
        repeat' (first
          | (refine And.intro ?_ ?_; (focus (first | omega | decide | (unfold inI64; omega) | (simp only [List.length_append, List.length_cons, List.length_nil] <;> omega) | (refine ⟨?_, ?_⟩ <;> omega) | (refine ⟨?_, ?_, ?_, ?_, ?_, ?_⟩ <;> first | rfl | trivial | decide | omega | (simp [bytesAV_length] <;> omega)) | (simp <;> omega) | (unfold inI64; simp only [List.length_append, List.length_cons, List.length_nil] <;> omega))); conv => whnf)
          | (refine brD (fun _ => ?_) (fun _ => ?_) <;> first | (exfalso; omega) | (conv => whnf))
          | (refine brB (fun _ => ?_) (fun _ => ?_) <;> conv => whnf)
          | ((first | refine CallG.e (hA) ?_ | refine CallD.e (hA) ?_ | refine CallQ.e (hA) ?_ | refine CallP.e (hA) ?_); conv => whnf)
          | ((first | refine CallG.e (hFa) ?_ | refine CallD.e (hFa) ?_ | refine CallQ.e (hFa) ?_ | refine CallP.e (hFa) ?_); conv => whnf)
          | ((first | refine CallG.e (hFb) ?_ | refine CallD.e (hFb) ?_ | refine CallQ.e (hFb) ?_ | refine CallP.e (hFb) ?_); conv => whnf))
        all_goals first | exact RetG.drop rfl rfl rfl ⟨rfl, congrArg AV.bool (by first | rfl | exact decide_eq_true rfl | exact decide_eq_true (by omega)), rfl⟩ | (rename_i h; exact absurd rfl h)
      · rw [decide_eq_false gb] at hFb
        conv => whnf
        repeat' (first
          | (refine And.intro ?_ ?_; (focus (first | omega | decide | (unfold inI64; omega) | (simp only [List.length_append, List.length_cons, List.length_nil] <;> omega) | (refine ⟨?_, ?_⟩ <;> omega) | (refine ⟨?_, ?_, ?_, ?_, ?_, ?_⟩ <;> first | rfl | trivial | decide | omega | (simp [bytesAV_length] <;> omega)) | (simp <;> omega) | (unfold inI64; simp only [List.length_append, List.length_cons, List.length_nil] <;> omega))); conv => whnf)
          | (refine brD (fun _ => ?_) (fun _ => ?_) <;> first | (exfalso; omega) | (conv => whnf))
          | (refine brB (fun _ => ?_) (fun _ => ?_) <;> conv => whnf)
          | ((first | refine CallG.e (hA) ?_ | refine CallD.e (hA) ?_ | refine CallQ.e (hA) ?_ | refine CallP.e (hA) ?_); conv => whnf)
          | ((first | refine CallG.e (hFa) ?_ | refine CallD.e (hFa) ?_ | refine CallQ.e (hFa) ?_ | refine CallP.e (hFa) ?_); conv => whnf)
          | ((first | refine CallG.e (hFb) ?_ | refine CallD.e (hFb) ?_ | refine CallQ.e (hFb) ?_ | refine CallP.e (hFb) ?_); conv => whnf))
        all_goals first | exact RetG.drop rfl rfl rfl ⟨rfl, congrArg AV.bool (by first | rfl | exact decide_eq_true rfl | exact decide_eq_true (by omega)), rfl⟩ | (rename_i h; exact absurd rfl h)
    · rw [decide_eq_false ga] at hFa
      conv => whnf
      repeat' (first
        | (refine And.intro ?_ ?_; (focus (first | omega | decide | (unfold inI64; omega) | (simp only [List.length_append, List.length_cons, List.length_nil] <;> omega) | (refine ⟨?_, ?_⟩ <;> omega) | (refine ⟨?_, ?_, ?_, ?_, ?_, ?_⟩ <;> first | rfl | trivial | decide | omega | (simp [bytesAV_length] <;> omega)) | (simp <;> omega) | (unfold inI64; simp only [List.length_append, List.length_cons, List.length_nil] <;> omega))); conv => whnf)
        | (refine brD (fun _ => ?_) (fun _ => ?_) <;> first | (exfalso; omega) | (conv => whnf))
        | (refine brB (fun _ => ?_) (fun _ => ?_) <;> conv => whnf)
        | ((first | refine CallG.e (hA) ?_ | refine CallD.e (hA) ?_ | refine CallQ.e (hA) ?_ | refine CallP.e (hA) ?_); conv => whnf)
        | ((first | refine CallG.e (hFa) ?_ | refine CallD.e (hFa) ?_ | refine CallQ.e (hFa) ?_ | refine CallP.e (hFa) ?_); conv => whnf))
      all_goals first | exact RetG.drop rfl rfl rfl ⟨rfl, congrArg AV.bool (by first | rfl | exact decide_eq_true rfl | exact decide_eq_true (by omega)), rfl⟩ | (rename_i h; exact absurd rfl h)
end Ink.D
