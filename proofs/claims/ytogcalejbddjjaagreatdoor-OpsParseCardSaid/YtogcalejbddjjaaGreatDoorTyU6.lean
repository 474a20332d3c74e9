import Derived.Test.YtogcalejbddjjaaGreatDoorTyU5
set_option linter.all false
namespace Ink.D
open Go Go.Proofs
set_option maxRecDepth 100000
variable {E : Env} (hE : E.P = Tryz.prog)

theorem pubO82 {H : List Blk} {n i ver : Nat} (F : List OpL) (hl : liveCells H i ver = some (82, cellsO F)) (hi : n ≤ i) : Pub H n (.own i ver 0 F.length 2) (.imm 2 (opLs F)) := by
  refine .own i ver 0 F.length 2 82 _ _ hl hi (opLs_len F) ?_ ?_ ?_ (fun j x y hx hy => ?_)
  · intro x hx
    obtain ⟨o, _, rfl⟩ := List.mem_map.mp hx
    rfl
  · intro x hx
    obtain ⟨y, hy, hx⟩ := List.mem_flatten.mp hx
    obtain ⟨o, _, rfl⟩ := List.mem_map.mp hy
    exact opE_sc o x hx
  · show 0 + (cellsO F).length ≤ _
    simp
  · have hx' : (cellsO F)[j]? = some x := hx
    rw [Nat.zero_add, hx'] at hy
    cases hy
    exact .same _ (hbL_iff.mp (cellsO_hb n F) x (List.mem_of_getElem? hx'))
theorem gcOut82 {H H' : List Blk} {sel : List (Option Nat)} {i ver : Nat} (out : List OpL) (nm : List UInt8) (args : List Ob) (hl : liveCells H i ver = some (26, cellsL args)) (hi : some i ∉ sel) :
    GcB H H' sel (.cells 82 (((cellsO out).drop 0).take (out.length * 2) ++ [[AV.str nm, .own i ver 0 args.length 6]].flatten)) (.cells 82 (cellsO (out ++ [(nm, args)]))) := by
  have e : ((cellsO out).drop 0).take (out.length * 2) = cellsO out := by rw [List.drop_zero, take_all (cellsO_length out)]
  rw [e, cellsO_append]
  refine .cells 82 _ _ (by simp [cellsO, opLs, opE]) ?_ (fun j x y hx hy => ?_)
  · intro x hx
    rw [← cellsO_append] at hx
    obtain ⟨y, hy, hx⟩ := List.mem_flatten.mp hx
    obtain ⟨o, _, rfl⟩ := List.mem_map.mp hy
    exact opE_sc o x hx
  · by_cases hj : j < (cellsO out).length
    · rw [List.getElem?_append_left hj] at hx hy
      rw [hx] at hy
      cases hy
      exact .same _ (hbL_iff.mp (cellsO_hb 0 out) x (List.mem_of_getElem? hx))
    · rw [List.getElem?_append_right (by omega)] at hx hy
      generalize j - (cellsO out).length = m at *
      match m, hx, hy with
      | 0, hx, hy => cases hx; cases hy; exact .same _ rfl
      | 1, hx, hy => cases hx; cases hy; exact gcL args hl hi
      | m + 2, hx, hy => simp at hx


include hE
theorem operator89 (t : Tok) : PCalls E 89 [t.av] (· = .bool (operT t)) := by
  obtain ⟨k, f, s, w, a, b⟩ := t
  unfold operT constS Tok.av tk
  simp only
  refine p89 hE (fun l => ?_)
  conv => whnf
  repeat' (first
    | (refine And.intro W1 ?_; conv => whnf)
    | (refine brD (fun _ => ?_) (fun _ => ?_) <;> first | (exfalso; omega) | (conv => whnf))
    | (refine brB (fun _ => ?_) (fun _ => ?_) <;> conv => whnf))
  all_goals exact RetG.drop rfl rfl rfl ⟨rfl, by simp_all, rfl⟩

theorem object90 (s : List UInt8) (t : Tok) (hs : s.length < 1000000) : PCalls E 90 [.str s, t.av] (· = prAV (opObj s t)) := by
  have hp := parse146 hE s t.from_ hs
  obtain ⟨k, f, ts, w, a, b⟩ := t
  unfold opObj prAV Tok.av tk at *
  simp only at *
  by_cases hk : k ≠ 1
  · simp only [if_pos hk]
    generalize parseR s a = y at *
    obtain ⟨⟨yk, yn, yf, ys, yl, yd⟩, ya, ye⟩ := y
    have hD : ∀ n0, hbLL n0 (obD yd) = true := fun n0 => obD_hb yd
    have hL : ∀ n0, hbLL n0 (obL yl) = true := fun n0 => obL_hb yl
    refine p90 hE (fun l => ?_)
    unfold obC at *
    conv => whnf
    repeat' (first
      | (refine And.intro W1 ?_; conv => whnf)
      | (refine brD (fun _ => ?_) (fun _ => ?_) <;> first | (exfalso; omega) | (conv => whnf))
      | (refine brB (fun _ => ?_) (fun _ => ?_) <;> conv => whnf)
      | ((first | refine CallG.e hp ?_ | refine CallD.e hp ?_ | refine CallQ.e hp ?_ | refine CallP.e hp ?_); conv => whnf))
    exact RetG.drop (by simp [hb, hbL, hL, hD]) rfl rfl ⟨by simp [hb, hbL, hL, hD], rfl, rfl⟩
  · simp only [if_neg hk]
    refine p90 hE (fun l => ?_)
    cases w
    · conv => whnf
      repeat' (first
        | (refine And.intro W1 ?_; conv => whnf)
        | (refine brD (fun _ => ?_) (fun _ => ?_) <;> first | (exfalso; omega) | (conv => whnf))
        | (refine brB (fun _ => ?_) (fun _ => ?_) <;> conv => whnf))
      all_goals first | (exfalso; omega) | exact RetG.pub (Pub.tup3 (pubOb 2 0 f []) (.same (.int .i64 b) rfl) (.same (.int .i64 0) rfl)) rfl rfl ⟨by simp [hb, hbL, obC_hb], rfl, rfl⟩
    · conv => whnf
      repeat' (first
        | (refine And.intro W1 ?_; conv => whnf)
        | (refine brD (fun _ => ?_) (fun _ => ?_) <;> first | (exfalso; omega) | (conv => whnf))
        | (refine brB (fun _ => ?_) (fun _ => ?_) <;> conv => whnf))
      all_goals first | (exfalso; omega) | exact RetG.pub (Pub.tup3 (pubOb 2 1 f []) (.same (.int .i64 b) rfl) (.same (.int .i64 0) rfl)) rfl rfl ⟨by simp [hb, hbL, obC_hb], rfl, rfl⟩

set_option maxHeartbeats 2000000 in
theorem parse44 (s : List UInt8) (hs : s.length < 1000000) : PCalls E 44 [.str s] (· = .tup [.imm 2 (opLs (parseO s).1), .int .i64 (parseO s).2]) := by
  refine p44 hE (fun l => ?_)
  unfold parseO
  generalize hR : parO s (parM [] []) 0 [] [] = R
  conv => whnf
  repeat' (first
    | (refine And.intro W1 ?_; conv => whnf)
    | (refine brD (fun _ => ?_) (fun _ => ?_) <;> first | (exfalso; omega) | (conv => whnf))
    | (refine brB (fun _ => ?_) (fun _ => ?_) <;> conv => whnf))
  refine LoopG.w (fun x : Int × List OpL × List Ob => x.2.1.length ≤ 65536 ∧ x.2.2.length ≤ 64 ∧ ∃ n, parM x.2.1 x.2.2 ≤ n ∧ parO s n x.1 x.2.1 x.2.2 = R) 87 (fun x => [(0, .str s), (4, .own 1 0 0 x.2.1.length 2), (5, .own 2 0 0 x.2.2.length 6), (6, .int .i64 x.1)])
    (fun x => [⟨0, true, .frame l⟩, ⟨0, true, .cells 82 (cellsO x.2.1)⟩, ⟨0, true, .cells 26 (cellsL x.2.2)⟩])
    (fun x => parM x.2.1 x.2.2) (0, [], []) ⟨by simp, by simp, _, Nat.le_refl _, hR⟩
    (Wk.gc [some 0, none, none] rfl rfl rfl ⟨⟨_, _, rfl, rfl, .same _ rfl⟩, ⟨0, 82, rfl⟩, ⟨0, 26, rfl⟩, trivial⟩
      ⟨⟨_, rfl, .same _ rfl⟩, ⟨_, rfl, .nilOwn 1 0 2 82 rfl rfl⟩, ⟨_, rfl, .nilOwn 2 0 6 26 rfl rfl⟩, ⟨_, rfl, .same _ rfl⟩, trivial⟩) ?_
  clear hR
  rintro ⟨p, out, args⟩ ⟨ho, ha, n, hn, hR⟩
  simp only at ho ha hn hR
  obtain ⟨m, rfl⟩ : ∃ m, n = m + 1 := ⟨n - 1, by unfold parM at hn; omega⟩
  unfold parO at hR
  have hN := rnext hE s p hs
  have hop := operator89 hE (nextL s p).1
  have hob := object90 hE s (nextL s p).1 hs
  have hk8 : operT (nextL s p).1 = true → (nextL s p).1.kind = 8 := by
    unfold operT
    intro h
    simp at h
    exact h.1
  generalize operT (nextL s p).1 = b at *
  generalize opObj s (nextL s p).1 = y at *
  generalize nextL s p = x at *
  obtain ⟨⟨xk, xf, xs, xw, xfr, xto⟩, xe⟩ := x
  obtain ⟨⟨yk, yn, yf, ys, yl, yd⟩, ya, ye⟩ := y
  unfold prAV tokAV tkE Tok.av tk at *
  simp only at *
  unfold obC at hob
  have hclO : 0 + out.length * 2 ≤ (cellsO out).length := by rw [cellsO_length]; omega
  have hcapO : (out.length + 1) * 40 ≤ 70368744177664 := by omega
  have hclA : 0 + args.length * 6 ≤ (cellsL args).length := by rw [cellsL_length]; omega
  have hcapA : (args.length + 1) * 88 ≤ 70368744177664 := by omega
  have err : ∀ (e : Int) (tm : List AV) (H : List Blk), takeK 1 H id = frm l → RetG E (frm l) (.tup [nilA, .int .i64 e]) H fun r H' => hb 0 r = true ∧ r = .tup [.imm 2 (opLs (([], e) : List OpL × Int).1), .int .i64 (([], e) : List OpL × Int).2] ∧ H' = frm l :=
    fun e tm H hH => RetG.pub (Pub.tup2 (.nil _ _) (.same (.int .i64 e) rfl)) hH rfl ⟨rfl, rfl, rfl⟩
  by_cases he : xe = 0
  · subst he
    rw [if_neg (by simp)] at hR
    by_cases hk0 : xk = 0
    · have hb0 : b = false := by
        cases b
        · rfl
        · have := hk8 rfl; omega
      subst hb0 hk0
      cases args with
      | nil =>
        rw [if_pos ⟨rfl, rfl⟩] at hR
        subst hR
        conv => whnf
        repeat' (first
          | (refine And.intro W1 ?_; conv => whnf)
          | (refine brD (fun _ => ?_) (fun _ => ?_) <;> first | (exfalso; omega) | (conv => whnf))
          | (refine brB (fun _ => ?_) (fun _ => ?_) <;> conv => whnf)
          | ((first | refine CallG.e hN ?_ | refine CallD.e hN ?_ | refine CallQ.e hN ?_ | refine CallP.e hN ?_); conv => whnf)
          | ((first | refine CallG.e hop ?_ | refine CallD.e hop ?_ | refine CallQ.e hop ?_ | refine CallP.e hop ?_); conv => whnf)
          | ((first | refine CallG.e hob ?_ | refine CallD.e hob ?_ | refine CallQ.e hob ?_ | refine CallP.e hob ?_); conv => whnf))
        all_goals first | contradiction | exact RetG.pub (Pub.tup2 (pubO82 out rfl (show 1 ≤ 1 by decide)) (.same (.int .i64 0) rfl)) rfl rfl ⟨by simp [hb, hbL, opLs_hb], rfl, rfl⟩
      | cons a0 ar =>
        rw [if_neg (by simp), if_pos (.inl rfl)] at hR
        subst hR
        have hne : ((a0 :: ar).length : Int) > 0 := by simp <;> omega
        conv => whnf
        repeat' (first
          | (refine And.intro W1 ?_; conv => whnf)
          | (refine brD (fun _ => ?_) (fun _ => ?_) <;> first | (exfalso; omega) | (conv => whnf))
          | (refine brB (fun _ => ?_) (fun _ => ?_) <;> conv => whnf)
          | ((first | refine CallG.e hN ?_ | refine CallD.e hN ?_ | refine CallQ.e hN ?_ | refine CallP.e hN ?_); conv => whnf)
          | ((first | refine CallG.e hop ?_ | refine CallD.e hop ?_ | refine CallQ.e hop ?_ | refine CallP.e hop ?_); conv => whnf)
          | ((first | refine CallG.e hob ?_ | refine CallD.e hob ?_ | refine CallQ.e hob ?_ | refine CallP.e hob ?_); conv => whnf))
        all_goals first | contradiction | exact err 3 [] _ rfl
    · rw [if_neg (by omega)] at hR
      cases b with
      | true =>
        by_cases hBI : xs = [66, 73]
        · rw [if_pos (.inr ⟨rfl, hBI⟩)] at hR
          subst hR
          conv => whnf
          repeat' (first
            | (refine And.intro W1 ?_; conv => whnf)
            | (refine brD (fun _ => ?_) (fun _ => ?_) <;> first | (exfalso; omega) | (conv => whnf))
            | (refine brB (fun _ => ?_) (fun _ => ?_) <;> conv => whnf)
            | ((first | refine CallG.e hN ?_ | refine CallD.e hN ?_ | refine CallQ.e hN ?_ | refine CallP.e hN ?_); conv => whnf)
            | ((first | refine CallG.e hop ?_ | refine CallD.e hop ?_ | refine CallQ.e hop ?_ | refine CallP.e hop ?_); conv => whnf)
            | ((first | refine CallG.e hob ?_ | refine CallD.e hob ?_ | refine CallQ.e hob ?_ | refine CallP.e hob ?_); conv => whnf))
          all_goals first | contradiction | exact err 3 [] _ rfl
        · rw [if_neg (by simp [hk0, hBI])] at hR
          by_cases hl6 : out.length = 65536
          · rw [if_pos (.inl ⟨rfl, hl6⟩)] at hR
            subst hR
            have hl6' : (out.length : Int) = 65536 := by omega
            conv => whnf
            repeat' (first
              | (refine And.intro W1 ?_; conv => whnf)
              | (refine brD (fun _ => ?_) (fun _ => ?_) <;> first | (exfalso; omega) | (conv => whnf))
              | (refine brB (fun _ => ?_) (fun _ => ?_) <;> conv => whnf)
              | ((first | refine CallG.e hN ?_ | refine CallD.e hN ?_ | refine CallQ.e hN ?_ | refine CallP.e hN ?_); conv => whnf)
              | ((first | refine CallG.e hop ?_ | refine CallD.e hop ?_ | refine CallQ.e hop ?_ | refine CallP.e hop ?_); conv => whnf)
              | ((first | refine CallG.e hob ?_ | refine CallD.e hob ?_ | refine CallQ.e hob ?_ | refine CallP.e hob ?_); conv => whnf))
            all_goals first | contradiction | exact err 6 [] _ rfl
          · rw [if_neg (by simp [hl6]), if_pos rfl] at hR
            have hl6' : ¬ (out.length : Int) = 65536 := by omega
            have hl1 : (out ++ [(xs, args)]).length = out.length + 1 := by simp
            have hM := parM_op out args (xs, args) (by omega)
            conv => whnf
            repeat' (first
              | (refine And.intro W1 ?_; conv => whnf)
              | (refine brD (fun _ => ?_) (fun _ => ?_) <;> first | (exfalso; omega) | (conv => whnf))
              | (refine brB (fun _ => ?_) (fun _ => ?_) <;> conv => whnf)
              | ((first | refine CallG.e hN ?_ | refine CallD.e hN ?_ | refine CallQ.e hN ?_ | refine CallP.e hN ?_); conv => whnf)
              | ((first | refine CallG.e hop ?_ | refine CallD.e hop ?_ | refine CallQ.e hop ?_ | refine CallP.e hop ?_); conv => whnf)
              | ((first | refine CallG.e hob ?_ | refine CallD.e hob ?_ | refine CallQ.e hob ?_ | refine CallP.e hob ?_); conv => whnf)
              | (refine And.intro ⟨rfl, rfl, rfl, hclO, by decide, hcapO⟩ ?_; conv => whnf))
            all_goals first | contradiction | skip
            refine ⟨(xto, out ++ [(xs, args)], []), ⟨⟨by simp only [hl1]; omega, by simp, m, Nat.le_of_lt_succ (Nat.lt_of_lt_of_le hM hn), hR⟩, hM⟩, ?_⟩
            exact Wk.gc [some 0, some 1, none] rfl rfl rfl ⟨⟨_, _, rfl, rfl, .same _ rfl⟩, ⟨_, _, rfl, rfl, gcOut82 out xs args rfl (by decide)⟩, ⟨0, 26, rfl⟩, trivial⟩
              ⟨⟨_, rfl, .same _ rfl⟩, ⟨_, rfl, by simp only [hl1]; exact .own 1 1 1 0 0 _ 2 _ _ rfl rfl rfl⟩, ⟨_, rfl, .nilOwn 2 0 6 26 rfl rfl⟩, ⟨_, rfl, .same _ rfl⟩, trivial⟩
      | false =>
        rw [if_neg (by simp [hk0])] at hR
        by_cases hl6 : args.length = 64
        · rw [if_pos (.inr ⟨rfl, hl6⟩)] at hR
          subst hR
          have hl6' : (args.length : Int) = 64 := by omega
          conv => whnf
          repeat' (first
            | (refine And.intro W1 ?_; conv => whnf)
            | (refine brD (fun _ => ?_) (fun _ => ?_) <;> first | (exfalso; omega) | (conv => whnf))
            | (refine brB (fun _ => ?_) (fun _ => ?_) <;> conv => whnf)
            | ((first | refine CallG.e hN ?_ | refine CallD.e hN ?_ | refine CallQ.e hN ?_ | refine CallP.e hN ?_); conv => whnf)
            | ((first | refine CallG.e hop ?_ | refine CallD.e hop ?_ | refine CallQ.e hop ?_ | refine CallP.e hop ?_); conv => whnf)
            | ((first | refine CallG.e hob ?_ | refine CallD.e hob ?_ | refine CallQ.e hob ?_ | refine CallP.e hob ?_); conv => whnf))
          all_goals first | contradiction | exact err 6 [] _ rfl
        · rw [if_neg (by simp [hl6]), if_neg (by simp)] at hR
          have hl6' : ¬ (args.length : Int) = 64 := by omega
          by_cases hye : ye = 0
          · subst hye
            rw [if_neg (by simp)] at hR
            have hl1 : (args ++ [Ob.mk yk yn yf ys yl yd]).length = args.length + 1 := by simp
            have hM := parM_arg out args (.mk yk yn yf ys yl yd) (by omega)
            conv => whnf
            repeat' (first
              | (refine And.intro W1 ?_; conv => whnf)
              | (refine brD (fun _ => ?_) (fun _ => ?_) <;> first | (exfalso; omega) | (conv => whnf))
              | (refine brB (fun _ => ?_) (fun _ => ?_) <;> conv => whnf)
              | ((first | refine CallG.e hN ?_ | refine CallD.e hN ?_ | refine CallQ.e hN ?_ | refine CallP.e hN ?_); conv => whnf)
              | ((first | refine CallG.e hop ?_ | refine CallD.e hop ?_ | refine CallQ.e hop ?_ | refine CallP.e hop ?_); conv => whnf)
              | ((first | refine CallG.e hob ?_ | refine CallD.e hob ?_ | refine CallQ.e hob ?_ | refine CallP.e hob ?_); conv => whnf)
              | (refine And.intro ⟨rfl, rfl, rfl, hclA, by decide, hcapA⟩ ?_; conv => whnf))
            all_goals first | contradiction | skip
            have hcell : BK.cells 26 (((cellsL args).drop 0).take (args.length * 6) ++ [[AV.int .i64 yk, .int .i64 yn, .int .i64 yf, .str ys, .imm 6 (obL yl), .imm 7 (obD yd)]].flatten) = BK.cells 26 (cellsL (args ++ [.mk yk yn yf ys yl yd])) := by
              rw [List.drop_zero, take_all (cellsL_length args), cellsL_append]; rfl
            refine ⟨(ya, out, args ++ [.mk yk yn yf ys yl yd]), ⟨⟨by simp only; omega, by simp only [hl1]; omega, m, Nat.le_of_lt_succ (Nat.lt_of_lt_of_le hM hn), hR⟩, hM⟩, ?_⟩
            exact Wk.gc [some 0, some 1, some 2] rfl rfl rfl ⟨⟨_, _, rfl, rfl, .same _ rfl⟩, ⟨_, _, rfl, rfl, .same _ (by simp [bkFree, hbB, cellsO_hb])⟩, ⟨_, _, rfl, rfl, .eq hcell (by simp [bkFree, hbB, cellsL_hb])⟩, trivial⟩
              ⟨⟨_, rfl, .same _ rfl⟩, ⟨_, rfl, .own 1 1 0 0 0 _ 2 _ _ rfl rfl rfl⟩, ⟨_, rfl, by simp only [hl1]; exact .own 2 2 1 0 0 _ 6 _ _ rfl rfl rfl⟩, ⟨_, rfl, .same _ rfl⟩, trivial⟩
          · rw [if_pos hye] at hR
            subst hR
            conv => whnf
            repeat' (first
              | (refine And.intro W1 ?_; conv => whnf)
              | (refine brD (fun _ => ?_) (fun _ => ?_) <;> first | (exfalso; omega) | (conv => whnf))
              | (refine brB (fun _ => ?_) (fun _ => ?_) <;> conv => whnf)
              | ((first | refine CallG.e hN ?_ | refine CallD.e hN ?_ | refine CallQ.e hN ?_ | refine CallP.e hN ?_); conv => whnf)
              | ((first | refine CallG.e hop ?_ | refine CallD.e hop ?_ | refine CallQ.e hop ?_ | refine CallP.e hop ?_); conv => whnf)
              | ((first | refine CallG.e hob ?_ | refine CallD.e hob ?_ | refine CallQ.e hob ?_ | refine CallP.e hob ?_); conv => whnf))
            all_goals first | contradiction | exact err ye [] _ rfl
  · rw [if_pos he] at hR
    subst hR
    conv => whnf
    repeat' (first
      | (refine And.intro W1 ?_; conv => whnf)
      | (refine brD (fun _ => ?_) (fun _ => ?_) <;> first | (exfalso; omega) | (conv => whnf))
      | (refine brB (fun _ => ?_) (fun _ => ?_) <;> conv => whnf)
      | ((first | refine CallG.e hN ?_ | refine CallD.e hN ?_ | refine CallQ.e hN ?_ | refine CallP.e hN ?_); conv => whnf)
      | ((first | refine CallG.e hop ?_ | refine CallD.e hop ?_ | refine CallQ.e hop ?_ | refine CallP.e hop ?_); conv => whnf)
      | ((first | refine CallG.e hob ?_ | refine CallD.e hob ?_ | refine CallQ.e hob ?_ | refine CallP.e hob ?_); conv => whnf))
    all_goals first | contradiction | exact err xe [] _ rfl
end Ink.D
