import Derived.Test.YtogcalejbddjjaaGreatDoorTyU3
set_option linter.all false
namespace Ink.D
open Go Go.Proofs
set_option maxRecDepth 100000
variable {E : Env} (hE : E.P = Tryz.prog)

include hE
set_option maxHeartbeats 2000000 in
theorem dict246 (ofr : Tok → Int → PR) (s : List UInt8) (a d : Int) (hs : s.length < 1000000)
    (hof : ∀ a, PCalls E 211 [.str s, .int .i64 a, .int .i64 d] (· = prAV (finP (objR ofr s a)))) : PCalls E 246 [.str s, .int .i64 a, .int .i64 d] (· = prAV (finP (dicL ofr s 1025 a []))) := by
  refine p246 hE fun l => ?_
  conv => whnf
  repeat' (first
    | (refine And.intro W1 ?_; conv => whnf)
    | (refine brD (fun _ => ?_) (fun _ => ?_) <;> first | (exfalso; omega) | (conv => whnf))
    | (refine brB (fun _ => ?_) (fun _ => ?_) <;> conv => whnf))
  refine LoopG.w (fun x : Int × Nat × List (List UInt8 × Ob) => x.2.1 ≤ 1024 ∧ x.2.2.length ≤ x.2.1 ∧ dicL ofr s 1025 a [] = dicL ofr s (1025 - x.2.1) x.1 x.2.2) 69 (fun x => [(0, .str s), (1, .int .i64 x.1), (2, .int .i64 d), (6, .ptr 1 0 0), (9, .ptr 2 0 0), (10, .int .i64 x.2.1)])
    (fun x => [⟨0, true, .frame l⟩, ⟨0, true, .cells 26 [.int .i64 0, .int .i64 0, .int .i64 0, .str [], nilA, nilA]⟩, ⟨0, true, .cells 26 [.int .i64 6, .int .i64 0, .int .i64 0, .str [], .imm 6 (obL []), .imm 7 (obD x.2.2)]⟩])
    (fun x => 1025 - x.2.1) (a, 0, []) ⟨by simp, by simp, rfl⟩
    (Wk.gc [some 0, some 1, some 2] rfl rfl rfl ⟨⟨_, _, rfl, rfl, .same _ rfl⟩, ⟨_, _, rfl, rfl, .same _ rfl⟩, ⟨_, _, rfl, rfl, .l (by simp [sc]) ⟨.same _ rfl, .same _ rfl, .same _ rfl, .same _ rfl, .nil _ _, .nil _ _, trivial⟩⟩, trivial⟩
      ⟨⟨_, rfl, .same _ rfl⟩, ⟨_, rfl, .same _ rfl⟩, ⟨_, rfl, .same _ rfl⟩, ⟨_, rfl, .ptr 1 1 0 0 0 _ _ rfl rfl rfl⟩, ⟨_, rfl, .ptr 2 2 0 0 0 _ _ rfl rfl rfl⟩, ⟨_, rfl, .same _ rfl⟩, trivial⟩) ?_
  rintro ⟨p, cnt, acc⟩ ⟨hcnt, hacc, hinv⟩
  simp only at hcnt hacc hinv
  generalize dicL ofr s 1025 a [] = R at *
  obtain ⟨m, hm⟩ : ∃ m, 1025 - cnt = m + 1 := ⟨1024 - cnt, by omega⟩
  rw [hm] at hinv
  unfold dicL at hinv
  have hn := rnext hE s p hs
  have ho := hof (nextL s p).1.to
  have hset := set59 hE 0 0 [] [] acc (nextL s p).1.s (objR ofr s (nextL s p).1.to).1 (by unfold big; omega)
  rw [setR_eq] at hset
  have hsl := setD_len acc (nextL s p).1.s (objR ofr s (nextL s p).1.to).1
  clear hof
  generalize nextL s p = x at *
  obtain ⟨⟨xk, xf, xs, xw, xfr, xto⟩, xe⟩ := x
  simp only at *
  generalize objR ofr s xto = y at *
  obtain ⟨⟨yk, yn, yf, ys, yl, yd⟩, ya, ye⟩ := y
  unfold tokAV tkE Tok.av tk at *
  simp only at *
  have pub : ∀ (H : List Blk), Pub H 1 (.agg [.int .i64 6, .int .i64 0, .int .i64 0, .str [], .imm 6 (obL []), .imm 7 (obD acc)]) (.agg (obC (.mk 6 0 0 [] [] acc))) :=
    fun H => .same _ (by simp [hb, hbL, obL_hb, obD_hb])
  have err : ∀ (e : Int) (H : List Blk), takeK 1 H id = frm l → RetG E (frm l) (.tup [.agg [.int .i64 0, .int .i64 0, .int .i64 0, .str [], nilA, nilA], .int .i64 0, .int .i64 e]) H fun r H' => hb 0 r = true ∧ r = prAV (ob00, 0, e) ∧ H' = frm l :=
    fun e H hH => RetG.pub (Pub.tup3 (pubOb 0 0 0 []) (.same (.int .i64 0) rfl) (.same (.int .i64 e) rfl)) hH rfl ⟨by simp [prAV, hb, hbL, obC_hb], rfl, rfl⟩
  have hi1 : inI64 ((cnt : Int) + 1) := by unfold inI64; omega
  generalize hacc' : setD acc xs (.mk yk yn yf ys yl yd) = acc' at *
  unfold obC at hset
  by_cases he : xe = 0
  · subst he
    rw [if_neg (by simp)] at hinv
    by_cases hk7 : xk = 7
    · rw [if_pos hk7] at hinv
      subst hinv hk7
      conv => whnf
      repeat' (first
        | (refine And.intro W1 ?_; conv => whnf)
        | (refine brD (fun _ => ?_) (fun _ => ?_) <;> first | (exfalso; omega) | (conv => whnf))
        | (refine brB (fun _ => ?_) (fun _ => ?_) <;> conv => whnf)
        | ((first | refine CallG.e hn ?_ | refine CallD.e hn ?_ | refine CallQ.e hn ?_ | refine CallP.e hn ?_); conv => whnf))
      all_goals first | contradiction | exact RetG.pub (Pub.tup3 (pub _) (.same (.int .i64 xto) rfl) (.same (.int .i64 0) rfl)) rfl rfl ⟨by simp [prAV, finP, hb, hbL, obC_hb], rfl, rfl⟩
    · rw [if_neg hk7] at hinv
      by_cases hk0 : xk = 0
      · rw [if_pos hk0] at hinv
        subst hinv hk0
        conv => whnf
        repeat' (first
          | (refine And.intro W1 ?_; conv => whnf)
          | (refine brD (fun _ => ?_) (fun _ => ?_) <;> first | (exfalso; omega) | (conv => whnf))
          | (refine brB (fun _ => ?_) (fun _ => ?_) <;> conv => whnf)
          | ((first | refine CallG.e hn ?_ | refine CallD.e hn ?_ | refine CallQ.e hn ?_ | refine CallP.e hn ?_); conv => whnf))
        all_goals first | contradiction | exact err 4 _ rfl
      · rw [if_neg hk0] at hinv
        by_cases hm0 : m = 0
        · rw [if_pos hm0] at hinv
          subst hinv
          have hc1 : (cnt : Int) = 1024 := by omega
          conv => whnf
          repeat' (first
            | (refine And.intro W1 ?_; conv => whnf)
            | (refine brD (fun _ => ?_) (fun _ => ?_) <;> first | (exfalso; omega) | (conv => whnf))
            | (refine brB (fun _ => ?_) (fun _ => ?_) <;> conv => whnf)
            | ((first | refine CallG.e hn ?_ | refine CallD.e hn ?_ | refine CallQ.e hn ?_ | refine CallP.e hn ?_); conv => whnf))
          all_goals first | contradiction | exact err 6 _ rfl
        · rw [if_neg hm0] at hinv
          have hc1 : ¬ (cnt : Int) = 1024 := by omega
          by_cases hk2 : xk ≠ 2
          · rw [if_pos hk2] at hinv
            subst hinv
            conv => whnf
            repeat' (first
              | (refine And.intro W1 ?_; conv => whnf)
              | (refine brD (fun _ => ?_) (fun _ => ?_) <;> first | (exfalso; omega) | (conv => whnf))
              | (refine brB (fun _ => ?_) (fun _ => ?_) <;> conv => whnf)
              | ((first | refine CallG.e hn ?_ | refine CallD.e hn ?_ | refine CallQ.e hn ?_ | refine CallP.e hn ?_); conv => whnf))
            all_goals first | contradiction | exact err 3 _ rfl
          · rw [if_neg hk2] at hinv
            have hk2 : xk = 2 := Decidable.not_not.mp hk2
            subst hk2
            by_cases hy : ye = 0
            · subst hy
              rw [if_neg (by simp)] at hinv
              rw [finP_ok] at ho
              unfold prAV obC at ho
              conv => whnf
              repeat' (first
                | (refine And.intro W1 ?_; conv => whnf)
                | (refine brD (fun _ => ?_) (fun _ => ?_) <;> first | (exfalso; omega) | (conv => whnf))
                | (refine brB (fun _ => ?_) (fun _ => ?_) <;> conv => whnf)
                | ((first | refine CallG.e hn ?_ | refine CallD.e hn ?_ | refine CallQ.e hn ?_ | refine CallP.e hn ?_); conv => whnf)
                | ((first | refine CallG.e ho ?_ | refine CallD.e ho ?_ | refine CallQ.e ho ?_ | refine CallP.e ho ?_); conv => whnf)
                | ((first | refine CallG.e hset ?_ | refine CallD.e hset ?_ | refine CallQ.e hset ?_ | refine CallP.e hset ?_); conv => whnf)
                | ((first | refine CallG.e hi1 ?_ | refine CallD.e hi1 ?_ | refine CallQ.e hi1 ?_ | refine CallP.e hi1 ?_); conv => whnf))
              all_goals first | contradiction | skip
              exact ⟨(ya, cnt + 1, acc'), ⟨⟨by simp only; omega, by simp only; omega, by simp only; rw [hinv]; congr 1; omega⟩, by simp only; omega⟩,
                Wk.gc [some 0, some 1, some 2] rfl rfl rfl ⟨⟨_, _, rfl, rfl, .same _ rfl⟩, ⟨_, _, rfl, rfl, .same _ rfl⟩, ⟨_, _, rfl, rfl, .eq rfl (by simp [bkFree, hbB, hbL, hb, obL_hb, obD_hb])⟩, trivial⟩
                ⟨⟨_, rfl, .same _ rfl⟩, ⟨_, rfl, .same _ rfl⟩, ⟨_, rfl, .same _ rfl⟩, ⟨_, rfl, .ptr 1 1 0 0 0 _ _ rfl rfl rfl⟩, ⟨_, rfl, .ptr 2 2 0 0 0 _ _ rfl rfl rfl⟩, ⟨_, rfl, .same _ rfl⟩, trivial⟩⟩
            · rw [if_pos hy] at hinv
              subst hinv
              rw [finP_no hy] at *
              have ho : PCalls E 211 [.str s, .int .i64 xto, .int .i64 d] (· = .tup [.agg [.int .i64 0, .int .i64 0, .int .i64 0, .str [], .imm 6 [], .imm 7 []], .int .i64 0, .int .i64 ye]) := ho
              conv => whnf
              repeat' (first
                | (refine And.intro W1 ?_; conv => whnf)
                | (refine brD (fun _ => ?_) (fun _ => ?_) <;> first | (exfalso; omega) | (conv => whnf))
                | (refine brB (fun _ => ?_) (fun _ => ?_) <;> conv => whnf)
                | ((first | refine CallG.e hn ?_ | refine CallD.e hn ?_ | refine CallQ.e hn ?_ | refine CallP.e hn ?_); conv => whnf)
                | ((first | refine CallG.e ho ?_ | refine CallD.e ho ?_ | refine CallQ.e ho ?_ | refine CallP.e ho ?_); conv => whnf))
              all_goals first | contradiction | exact err ye _ rfl
  · rw [if_pos he] at hinv
    subst hinv
    rw [finP_no he] at *
    conv => whnf
    repeat' (first
      | (refine And.intro W1 ?_; conv => whnf)
      | (refine brD (fun _ => ?_) (fun _ => ?_) <;> first | (exfalso; omega) | (conv => whnf))
      | (refine brB (fun _ => ?_) (fun _ => ?_) <;> conv => whnf)
      | ((first | refine CallG.e hn ?_ | refine CallD.e hn ?_ | refine CallQ.e hn ?_ | refine CallP.e hn ?_); conv => whnf))
    all_goals first | contradiction | exact err xe _ rfl
end Ink.D
