import Derived.Test.YtogcalejbddjjaaGreatDoorTyU2
set_option linter.all false
namespace Ink.D
open Go Go.Proofs
set_option maxRecDepth 100000
variable {E : Env} (hE : E.P = Tryz.prog)

def finP (x : PR) : PR := if x.2.2 = 0 then x else (ob00, 0, x.2.2)
theorem finP_ok {o : Ob} {a : Int} : finP (o, a, 0) = (o, a, 0) := rfl
theorem finP_no {o : Ob} {a e : Int} (h : e ≠ 0) : finP (o, a, e) = (ob00, 0, e) := by unfold finP; rw [if_neg h]

include hE
set_option maxHeartbeats 2000000 in
theorem array245 (ofr : Tok → Int → PR) (s : List UInt8) (a d : Int) (hs : s.length < 1000000) (h0 : ∀ t a, t.kind = 0 → (ofr t a).2.2 ≠ 0)
    (hof : ∀ a, PCalls E 211 [.str s, .int .i64 a, .int .i64 d] (· = prAV (finP (objR ofr s a)))) : PCalls E 245 [.str s, .int .i64 a, .int .i64 d] (· = prAV (finP (arrL ofr s 1025 a []))) := by
  refine p245 hE fun l => ?_
  conv => whnf
  repeat' (first
    | (refine And.intro W1 ?_; conv => whnf)
    | (refine brD (fun _ => ?_) (fun _ => ?_) <;> first | (exfalso; omega) | (conv => whnf))
    | (refine brB (fun _ => ?_) (fun _ => ?_) <;> conv => whnf))
  refine LoopG.w (fun x : Int × List Ob => x.2.length ≤ 1024 ∧ arrL ofr s 1025 a [] = arrL ofr s (1025 - x.2.length) x.1 x.2) 60 (fun x => [(0, .str s), (1, .int .i64 x.1), (2, .int .i64 d), (6, .ptr 1 0 0), (9, .ptr 2 0 0)])
    (fun x => [⟨0, true, .frame l⟩, ⟨0, true, .cells 26 [.int .i64 0, .int .i64 0, .int .i64 0, .str [], nilA, nilA]⟩, ⟨0, true, .cells 26 [.int .i64 5, .int .i64 0, .int .i64 0, .str [], .own 3 0 0 x.2.length 6, nilA]⟩, ⟨0, true, .cells 26 (cellsL x.2)⟩])
    (fun x => 1025 - x.2.length) (a, []) ⟨by simp, rfl⟩
    (Wk.gc [some 0, some 1, some 2, none] rfl rfl rfl ⟨⟨_, _, rfl, rfl, .same _ rfl⟩, ⟨_, _, rfl, rfl, .same _ rfl⟩, ⟨_, _, rfl, rfl, .l (by simp [sc]; rfl) ⟨.same _ rfl, .same _ rfl, .same _ rfl, .same _ rfl, .nilOwn 3 0 6 26 rfl rfl, .same _ rfl, trivial⟩⟩, ⟨0, 26, rfl⟩, trivial⟩
      ⟨⟨_, rfl, .same _ rfl⟩, ⟨_, rfl, .same _ rfl⟩, ⟨_, rfl, .same _ rfl⟩, ⟨_, rfl, .ptr 1 1 0 0 0 _ _ rfl rfl rfl⟩, ⟨_, rfl, .ptr 2 2 0 0 0 _ _ rfl rfl rfl⟩, trivial⟩) ?_
  rintro ⟨p, acc⟩ ⟨hacc, hinv⟩
  simp only at hacc hinv
  generalize arrL ofr s 1025 a [] = R at *
  obtain ⟨m, hm⟩ : ∃ m, 1025 - acc.length = m + 1 := ⟨1024 - acc.length, by omega⟩
  rw [hm] at hinv
  unfold arrL at hinv
  have hn := rnext hE s p hs
  have ho := hof p
  have hz := h0 (nextL s p).1 (nextL s p).1.to
  have hoR : objR ofr s p = if (nextL s p).2 ≠ 0 then (ob00, p, (nextL s p).2) else ofr (nextL s p).1 (nextL s p).1.to := rfl
  rw [hoR] at ho
  clear hof h0 hoR
  generalize nextL s p = x at *
  obtain ⟨⟨xk, xf, xs, xw, xfr, xto⟩, xe⟩ := x
  simp only at *
  generalize ofr _ _ = y at *
  obtain ⟨⟨yk, yn, yf, ys, yl, yd⟩, ya, ye⟩ := y
  unfold tokAV tkE Tok.av tk at *
  simp only at *
  have pub : ∀ (H : List Blk), liveCells H 3 0 = some (26, cellsL acc) → Pub H 1 (.agg [.int .i64 5, .int .i64 0, .int .i64 0, .str [], .own 3 0 0 acc.length 6, nilA]) (.agg (obC (.mk 5 0 0 [] acc []))) :=
    fun H hl => Pub.aggL ⟨.same _ rfl, .same _ rfl, .same _ rfl, .same _ rfl, pubL acc hl (by decide), .nil _ _, trivial⟩ (obC_sc _)
  have err : ∀ (e : Int) (H : List Blk), takeK 1 H id = frm l → RetG E (frm l) (.tup [.agg [.int .i64 0, .int .i64 0, .int .i64 0, .str [], nilA, nilA], .int .i64 0, .int .i64 e]) H fun r H' => hb 0 r = true ∧ r = prAV (ob00, 0, e) ∧ H' = frm l :=
    fun e H hH => RetG.pub (Pub.tup3 (pubOb 0 0 0 []) (.same (.int .i64 0) rfl) (.same (.int .i64 e) rfl)) hH rfl ⟨by simp [prAV, hb, hbL, obC_hb], rfl, rfl⟩
  by_cases he : xe = 0
  · subst he
    rw [if_neg (by simp)] at hinv ho
    by_cases hk5 : xk = 5
    · rw [if_pos hk5] at hinv
      subst hinv
      subst hk5
      conv => whnf
      repeat' (first
        | (refine And.intro W1 ?_; conv => whnf)
        | (refine brD (fun _ => ?_) (fun _ => ?_) <;> first | (exfalso; omega) | (conv => whnf))
        | (refine brB (fun _ => ?_) (fun _ => ?_) <;> conv => whnf)
        | ((first | refine CallG.e hn ?_ | refine CallD.e hn ?_ | refine CallQ.e hn ?_ | refine CallP.e hn ?_); conv => whnf))
      all_goals first | contradiction | exact RetG.pub (Pub.tup3 (pub _ rfl) (.same (.int .i64 xto) rfl) (.same (.int .i64 0) rfl)) rfl rfl ⟨by simp [prAV, finP, hb, hbL, obC_hb], rfl, rfl⟩
    · rw [if_neg hk5] at hinv
      by_cases hf : xk ≠ 0 ∧ acc.length = 1024
      · rw [if_pos hf] at hinv
        subst hinv
        obtain ⟨hf1, hf2⟩ := hf
        have hf3 : (acc.length : Int) = 1024 := by omega
        conv => whnf
        repeat' (first
          | (refine And.intro W1 ?_; conv => whnf)
          | (refine brD (fun _ => ?_) (fun _ => ?_) <;> first | (exfalso; omega) | (conv => whnf))
          | (refine brB (fun _ => ?_) (fun _ => ?_) <;> conv => whnf)
          | ((first | refine CallG.e hn ?_ | refine CallD.e hn ?_ | refine CallQ.e hn ?_ | refine CallP.e hn ?_); conv => whnf))
        all_goals first | contradiction | exact err 6 _ rfl
      · rw [if_neg hf] at hinv
        have hf3 : xk ≠ 0 → ¬ (acc.length : Int) = 1024 := fun h1 h2 => hf ⟨h1, by omega⟩
        by_cases hy : ye = 0
        · subst hy
          rw [if_neg (by simp)] at hinv
          rw [finP_ok] at ho
          unfold prAV obC at ho
          have hk0 : xk ≠ 0 := fun h => (hz h) rfl
          have hf3 := hf3 hk0
          have hcl : 0 + acc.length * 6 ≤ (cellsL acc).length := by rw [cellsL_length]; omega
          have hcap : (acc.length + 1) * 88 ≤ 70368744177664 := by omega
          conv => whnf
          repeat' (first
            | (refine And.intro W1 ?_; conv => whnf)
            | (refine brD (fun _ => ?_) (fun _ => ?_) <;> first | (exfalso; omega) | (conv => whnf))
            | (refine brB (fun _ => ?_) (fun _ => ?_) <;> conv => whnf)
            | ((first | refine CallG.e hn ?_ | refine CallD.e hn ?_ | refine CallQ.e hn ?_ | refine CallP.e hn ?_); conv => whnf)
            | ((first | refine CallG.e ho ?_ | refine CallD.e ho ?_ | refine CallQ.e ho ?_ | refine CallP.e ho ?_); conv => whnf)
            | (refine And.intro ⟨rfl, rfl, rfl, hcl, by decide, hcap⟩ ?_; conv => whnf))
          all_goals first | contradiction | skip
          have hcell : BK.cells 26 (((cellsL acc).drop 0).take (acc.length * 6) ++ [[AV.int .i64 yk, .int .i64 yn, .int .i64 yf, .str ys, .imm 6 (obL yl), .imm 7 (obD yd)]].flatten) = BK.cells 26 (cellsL (acc ++ [.mk yk yn yf ys yl yd])) := by
            rw [List.drop_zero, take_all (cellsL_length acc), cellsL_append]; rfl
          have hl1 : (acc ++ [Ob.mk yk yn yf ys yl yd]).length = acc.length + 1 := by simp
          exact ⟨(ya, acc ++ [.mk yk yn yf ys yl yd]), ⟨⟨by simp only [hl1]; omega, by simp only [hl1]; rw [hinv]; congr 1; omega⟩, by simp only [hl1]; omega⟩,
            Wk.gc [some 0, some 1, some 2, some 3] rfl rfl rfl ⟨⟨_, _, rfl, rfl, .same _ rfl⟩, ⟨_, _, rfl, rfl, .same _ rfl⟩, ⟨_, _, rfl, rfl, .l (by simp [sc]; rfl) ⟨.same _ rfl, .same _ rfl, .same _ rfl, .same _ rfl, (by simp only [hl1]; exact .own 3 3 1 0 0 _ 6 _ _ rfl rfl rfl), .same _ rfl, trivial⟩⟩, ⟨_, _, rfl, rfl, .eq hcell (by simp [bkFree, hbB, cellsL_hb])⟩, trivial⟩
            ⟨⟨_, rfl, .same _ rfl⟩, ⟨_, rfl, .same _ rfl⟩, ⟨_, rfl, .same _ rfl⟩, ⟨_, rfl, .ptr 1 1 0 0 0 _ _ rfl rfl rfl⟩, ⟨_, rfl, .ptr 2 2 0 0 0 _ _ rfl rfl rfl⟩, trivial⟩⟩
        · rw [if_pos hy] at hinv
          subst hinv
          rw [finP_no hy] at *
          have ho : PCalls E 211 [.str s, .int .i64 p, .int .i64 d] (· = .tup [.agg [.int .i64 0, .int .i64 0, .int .i64 0, .str [], .imm 6 [], .imm 7 []], .int .i64 0, .int .i64 ye]) := ho
          conv => whnf
          repeat' (first
            | (refine And.intro W1 ?_; conv => whnf)
            | (refine brD (fun _ => ?_) (fun _ => ?_) <;> first | (exfalso; omega) | (conv => whnf))
            | (refine brB (fun _ => ?_) (fun _ => ?_) <;> conv => whnf)
            | ((first | refine CallG.e hn ?_ | refine CallD.e hn ?_ | refine CallQ.e hn ?_ | refine CallP.e hn ?_); conv => whnf)
            | ((first | refine CallG.e ho ?_ | refine CallD.e ho ?_ | refine CallQ.e ho ?_ | refine CallP.e ho ?_); conv => whnf))
          all_goals first | (exfalso; apply hf3 <;> assumption) | exact err ye _ rfl
  · rw [if_pos he] at hinv
    subst hinv
    rw [finP_no he] at *
    conv => whnf
    repeat' (first
      | (refine And.intro W1 ?_; conv => whnf)
      | (refine brD (fun _ => ?_) (fun _ => ?_) <;> first | (exfalso; omega) | (conv => whnf))
      | (refine brB (fun _ => ?_) (fun _ => ?_) <;> conv => whnf)
      | ((first | refine CallG.e hn ?_ | refine CallD.e hn ?_ | refine CallQ.e hn ?_ | refine CallP.e hn ?_); conv => whnf))
    all_goals first | contradiction | exact err xe _ rfl
end Ink.D
