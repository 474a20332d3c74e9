import Derived.Test.YtogcalejbddjjaaGreatDoorTyU4
set_option linter.all false
namespace Ink.D
open Go Go.Proofs
set_option maxRecDepth 100000
variable {E : Env} (hE : E.P = Tryz.prog)

include hE
set_option maxHeartbeats 2000000 in
theorem parse211 (arr dic : Int → PR) (s : List UInt8) (a d : Int) (hs : s.length < 1000000) (hd0 : 0 ≤ d) (hd : d ≤ 64)
    (hA : d < 64 → ∀ a, PCalls E 245 [.str s, .int .i64 a, .int .i64 (d + 1)] (· = prAV (finP (arr a)))) (hD : d < 64 → ∀ a, PCalls E 246 [.str s, .int .i64 a, .int .i64 (d + 1)] (· = prAV (finP (dic a))))
    (h64 : d = 64 → ∀ a, arr a = (ob00, a, 5) ∧ dic a = (ob00, a, 5)) :
    PCalls E 211 [.str s, .int .i64 a, .int .i64 d] (· = prAV (finP (objR (ofB s arr dic) s a))) := by
  have hn := rnext hE s a hs
  have hN := number244 hE s (nextL s a).1 hs
  have hA := fun h => hA h (nextL s a).1.to
  have hD := fun h => hD h (nextL s a).1.to
  have h64 := fun h => h64 h (nextL s a).1.to
  have hi1 : inI64 (d + 1) := by unfold inI64; omega
  have hR : objR (ofB s arr dic) s a = if (nextL s a).2 ≠ 0 then (ob00, a, (nextL s a).2) else ofB s arr dic (nextL s a).1 (nextL s a).1.to := rfl
  generalize objR (ofB s arr dic) s a = R at *
  unfold ofB at hR
  generalize hwo : wordO (nextL s a).1.s = wo at *
  unfold wordO at hwo
  generalize nextL s a = x at *
  obtain ⟨⟨xk, xf, xs, xw, xfr, xto⟩, xe⟩ := x
  simp only at *
  generalize numO s _ _ = no at *
  generalize arr _ = ar at *
  generalize dic _ = di at *
  obtain ⟨⟨nk, nn, nf, ns, nl, nd⟩, na⟩ := no
  obtain ⟨⟨ak, an, af_, as_, al, ad⟩, aa, ae⟩ := ar
  obtain ⟨⟨dk, dn, df, ds, dl, dd⟩, da, de⟩ := di
  have hnL : ∀ n0, hbLL n0 (obL nl) = true := fun n0 => obL_hb nl
  have hnD : ∀ n0, hbLL n0 (obD nd) = true := fun n0 => obD_hb nd
  unfold tokAV tkE Tok.av tk at *
  simp only at *
  unfold prAV obC at hN
  simp only at hN
  refine p211 hE (fun l => ?_)
  have err : ∀ (e : Int) (H : List Blk), takeK 1 H id = frm l → RetG E (frm l) (.tup [.agg [.int .i64 0, .int .i64 0, .int .i64 0, .str [], nilA, nilA], .int .i64 0, .int .i64 e]) H fun r H' => hb 0 r = true ∧ r = prAV (ob00, 0, e) ∧ H' = frm l :=
    fun e H hH => RetG.pub (Pub.tup3 (pubOb 0 0 0 []) (.same (.int .i64 0) rfl) (.same (.int .i64 e) rfl)) hH rfl ⟨by simp [prAV, hb, hbL, obC_hb], rfl, rfl⟩
  by_cases he : xe = 0
  · subst he
    rw [if_neg (by simp)] at hR
    by_cases k0 : xk = 0
    · rw [if_pos k0] at hR
      subst hR k0
      rw [finP_no (by decide)]
      conv => whnf
      repeat' (first
        | (refine And.intro W1 ?_; conv => whnf)
        | (refine brD (fun _ => ?_) (fun _ => ?_) <;> first | (exfalso; omega) | (conv => whnf))
        | (refine brB (fun _ => ?_) (fun _ => ?_) <;> conv => whnf)
        | ((first | refine CallG.e hn ?_ | refine CallD.e hn ?_ | refine CallQ.e hn ?_ | refine CallP.e hn ?_); conv => whnf))
      all_goals first | contradiction | exact err 4 _ rfl
    rw [if_neg k0] at hR
    by_cases k1 : xk = 1
    · rw [if_pos k1] at hR
      subst hR k1
      rw [finP_ok]
      conv => whnf
      repeat' (first
        | (refine And.intro W1 ?_; conv => whnf)
        | (refine brD (fun _ => ?_) (fun _ => ?_) <;> first | (exfalso; omega) | (conv => whnf))
        | (refine brB (fun _ => ?_) (fun _ => ?_) <;> conv => whnf)
        | ((first | refine CallG.e hn ?_ | refine CallD.e hn ?_ | refine CallQ.e hn ?_ | refine CallP.e hn ?_); conv => whnf)
        | ((first | refine CallG.e hN ?_ | refine CallD.e hN ?_ | refine CallQ.e hN ?_ | refine CallP.e hN ?_); conv => whnf))
      all_goals first | contradiction | exact RetG.drop (by simp [hb, hbL, hnL, hnD]) rfl rfl ⟨by simp [hb, hbL, hnL, hnD], rfl, rfl⟩
    rw [if_neg k1] at hR
    by_cases k2 : xk = 2
    · rw [if_pos k2] at hR
      subst hR k2
      rw [finP_ok]
      conv => whnf
      repeat' (first
        | (refine And.intro W1 ?_; conv => whnf)
        | (refine brD (fun _ => ?_) (fun _ => ?_) <;> first | (exfalso; omega) | (conv => whnf))
        | (refine brB (fun _ => ?_) (fun _ => ?_) <;> conv => whnf)
        | ((first | refine CallG.e hn ?_ | refine CallD.e hn ?_ | refine CallQ.e hn ?_ | refine CallP.e hn ?_); conv => whnf))
      all_goals first | contradiction | exact RetG.pub (Pub.tup3 (pubOb 3 0 0 xs) (.same (.int .i64 xto) rfl) (.same (.int .i64 0) rfl)) rfl rfl ⟨by simp [prAV, hb, hbL, obC_hb], rfl, rfl⟩
    rw [if_neg k2] at hR
    by_cases k3 : xk = 3
    · rw [if_pos k3] at hR
      subst hR k3
      rw [finP_ok]
      conv => whnf
      repeat' (first
        | (refine And.intro W1 ?_; conv => whnf)
        | (refine brD (fun _ => ?_) (fun _ => ?_) <;> first | (exfalso; omega) | (conv => whnf))
        | (refine brB (fun _ => ?_) (fun _ => ?_) <;> conv => whnf)
        | ((first | refine CallG.e hn ?_ | refine CallD.e hn ?_ | refine CallQ.e hn ?_ | refine CallP.e hn ?_); conv => whnf))
      all_goals first | contradiction | exact RetG.pub (Pub.tup3 (pubOb 4 0 0 xs) (.same (.int .i64 xto) rfl) (.same (.int .i64 0) rfl)) rfl rfl ⟨by simp [prAV, hb, hbL, obC_hb], rfl, rfl⟩
    rw [if_neg k3] at hR
    by_cases k4 : xk = 4
    · rw [if_pos k4] at hR
      subst hR k4
      by_cases hdd : d = 64
      · obtain ⟨e1, e2⟩ := h64 hdd
        cases e1
        rw [finP_no (by decide)]
        conv => whnf
        repeat' (first
          | (refine And.intro W1 ?_; conv => whnf)
          | (refine brD (fun _ => ?_) (fun _ => ?_) <;> first | (exfalso; omega) | (conv => whnf))
          | (refine brB (fun _ => ?_) (fun _ => ?_) <;> conv => whnf)
          | ((first | refine CallG.e hn ?_ | refine CallD.e hn ?_ | refine CallQ.e hn ?_ | refine CallP.e hn ?_); conv => whnf))
        all_goals first | contradiction | exact err 5 _ rfl
      · have hA := hA (by omega)
        generalize finP (Ob.mk ak an af_ as_ al ad, aa, ae) = fa at *
        obtain ⟨⟨bk, bn, bf, bs, bl, bd⟩, ba, be⟩ := fa
        have hbL_ : ∀ n0, hbLL n0 (obL bl) = true := fun n0 => obL_hb bl
        have hbD_ : ∀ n0, hbLL n0 (obD bd) = true := fun n0 => obD_hb bd
        unfold prAV at hA
        simp only at hA
        unfold obC at hA
        unfold prAV
        conv => whnf
        repeat' (first
          | (refine And.intro W1 ?_; conv => whnf)
          | (refine brD (fun _ => ?_) (fun _ => ?_) <;> first | (exfalso; omega) | (conv => whnf))
          | (refine brB (fun _ => ?_) (fun _ => ?_) <;> conv => whnf)
          | ((first | refine CallG.e hn ?_ | refine CallD.e hn ?_ | refine CallQ.e hn ?_ | refine CallP.e hn ?_); conv => whnf)
          | ((first | refine CallG.e hi1 ?_ | refine CallD.e hi1 ?_ | refine CallQ.e hi1 ?_ | refine CallP.e hi1 ?_); conv => whnf)
          | ((first | refine CallG.e hA ?_ | refine CallD.e hA ?_ | refine CallQ.e hA ?_ | refine CallP.e hA ?_); conv => whnf))
        all_goals first | contradiction | exact RetG.drop (by simp [hb, hbL, hbL_, hbD_]) rfl rfl ⟨by simp [hb, hbL, hbL_, hbD_], rfl, rfl⟩
    rw [if_neg k4] at hR
    by_cases k6 : xk = 6
    · rw [if_pos k6] at hR
      subst hR k6
      by_cases hdd : d = 64
      · obtain ⟨e1, e2⟩ := h64 hdd
        cases e2
        rw [finP_no (by decide)]
        conv => whnf
        repeat' (first
          | (refine And.intro W1 ?_; conv => whnf)
          | (refine brD (fun _ => ?_) (fun _ => ?_) <;> first | (exfalso; omega) | (conv => whnf))
          | (refine brB (fun _ => ?_) (fun _ => ?_) <;> conv => whnf)
          | ((first | refine CallG.e hn ?_ | refine CallD.e hn ?_ | refine CallQ.e hn ?_ | refine CallP.e hn ?_); conv => whnf))
        all_goals first | contradiction | exact err 5 _ rfl
      · have hD := hD (by omega)
        generalize finP (Ob.mk dk dn df ds dl dd, da, de) = fa at *
        obtain ⟨⟨bk, bn, bf, bs, bl, bd⟩, ba, be⟩ := fa
        have hbL_ : ∀ n0, hbLL n0 (obL bl) = true := fun n0 => obL_hb bl
        have hbD_ : ∀ n0, hbLL n0 (obD bd) = true := fun n0 => obD_hb bd
        unfold prAV at hD
        simp only at hD
        unfold obC at hD
        unfold prAV
        conv => whnf
        repeat' (first
          | (refine And.intro W1 ?_; conv => whnf)
          | (refine brD (fun _ => ?_) (fun _ => ?_) <;> first | (exfalso; omega) | (conv => whnf))
          | (refine brB (fun _ => ?_) (fun _ => ?_) <;> conv => whnf)
          | ((first | refine CallG.e hn ?_ | refine CallD.e hn ?_ | refine CallQ.e hn ?_ | refine CallP.e hn ?_); conv => whnf)
          | ((first | refine CallG.e hi1 ?_ | refine CallD.e hi1 ?_ | refine CallQ.e hi1 ?_ | refine CallP.e hi1 ?_); conv => whnf)
          | ((first | refine CallG.e hD ?_ | refine CallD.e hD ?_ | refine CallQ.e hD ?_ | refine CallP.e hD ?_); conv => whnf))
        all_goals first | contradiction | exact RetG.drop (by simp [hb, hbL, hbL_, hbD_]) rfl rfl ⟨by simp [hb, hbL, hbL_, hbD_], rfl, rfl⟩
    rw [if_neg k6] at hR
    by_cases k8 : xk = 8
    · rw [if_pos k8] at hR
      subst hR k8
      by_cases w1 : xs = [116, 114, 117, 101]
      · rw [if_pos w1] at hwo
        subst hwo
        rw [finP_ok]
        conv => whnf
        repeat' (first
          | (refine And.intro W1 ?_; conv => whnf)
          | (refine brD (fun _ => ?_) (fun _ => ?_) <;> first | (exfalso; omega) | (conv => whnf))
          | (refine brB (fun _ => ?_) (fun _ => ?_) <;> conv => whnf)
          | ((first | refine CallG.e hn ?_ | refine CallD.e hn ?_ | refine CallQ.e hn ?_ | refine CallP.e hn ?_); conv => whnf))
        all_goals first | contradiction | exact RetG.pub (Pub.tup3 (pubOb 1 1 0 []) (.same (.int .i64 xto) rfl) (.same (.int .i64 0) rfl)) rfl rfl ⟨by simp [prAV, hb, hbL, obC_hb], rfl, rfl⟩
      rw [if_neg w1] at hwo
      by_cases w2 : xs = [102, 97, 108, 115, 101]
      · rw [if_pos w2] at hwo
        subst hwo
        rw [finP_ok]
        conv => whnf
        repeat' (first
          | (refine And.intro W1 ?_; conv => whnf)
          | (refine brD (fun _ => ?_) (fun _ => ?_) <;> first | (exfalso; omega) | (conv => whnf))
          | (refine brB (fun _ => ?_) (fun _ => ?_) <;> conv => whnf)
          | ((first | refine CallG.e hn ?_ | refine CallD.e hn ?_ | refine CallQ.e hn ?_ | refine CallP.e hn ?_); conv => whnf))
        all_goals first | contradiction | exact RetG.pub (Pub.tup3 (pubOb 1 0 0 []) (.same (.int .i64 xto) rfl) (.same (.int .i64 0) rfl)) rfl rfl ⟨by simp [prAV, hb, hbL, obC_hb], rfl, rfl⟩
      rw [if_neg w2] at hwo
      by_cases w3 : xs = [110, 117, 108, 108]
      · rw [if_pos w3] at hwo
        subst hwo
        rw [finP_ok]
        conv => whnf
        repeat' (first
          | (refine And.intro W1 ?_; conv => whnf)
          | (refine brD (fun _ => ?_) (fun _ => ?_) <;> first | (exfalso; omega) | (conv => whnf))
          | (refine brB (fun _ => ?_) (fun _ => ?_) <;> conv => whnf)
          | ((first | refine CallG.e hn ?_ | refine CallD.e hn ?_ | refine CallQ.e hn ?_ | refine CallP.e hn ?_); conv => whnf))
        all_goals first | contradiction | exact RetG.pub (Pub.tup3 (pubOb 0 0 0 []) (.same (.int .i64 xto) rfl) (.same (.int .i64 0) rfl)) rfl rfl ⟨by simp [prAV, hb, hbL, obC_hb], rfl, rfl⟩
      rw [if_neg w3] at hwo
      subst hwo
      rw [finP_no (by decide)]
      conv => whnf
      repeat' (first
        | (refine And.intro W1 ?_; conv => whnf)
        | (refine brD (fun _ => ?_) (fun _ => ?_) <;> first | (exfalso; omega) | (conv => whnf))
        | (refine brB (fun _ => ?_) (fun _ => ?_) <;> conv => whnf)
        | ((first | refine CallG.e hn ?_ | refine CallD.e hn ?_ | refine CallQ.e hn ?_ | refine CallP.e hn ?_); conv => whnf))
      all_goals first | contradiction | exact err 3 _ rfl
    rw [if_neg k8] at hR
    subst hR
    rw [finP_no (by decide)]
    conv => whnf
    repeat' (first
      | (refine And.intro W1 ?_; conv => whnf)
      | (refine brD (fun _ => ?_) (fun _ => ?_) <;> first | (exfalso; omega) | (conv => whnf))
      | (refine brB (fun _ => ?_) (fun _ => ?_) <;> conv => whnf)
      | ((first | refine CallG.e hn ?_ | refine CallD.e hn ?_ | refine CallQ.e hn ?_ | refine CallP.e hn ?_); conv => whnf))
    all_goals first | contradiction | exact err 3 _ rfl
  · rw [if_pos he] at hR
    subst hR
    rw [finP_no he]
    conv => whnf
    repeat' (first
      | (refine And.intro W1 ?_; conv => whnf)
      | (refine brD (fun _ => ?_) (fun _ => ?_) <;> first | (exfalso; omega) | (conv => whnf))
      | (refine brB (fun _ => ?_) (fun _ => ?_) <;> conv => whnf)
      | ((first | refine CallG.e hn ?_ | refine CallD.e hn ?_ | refine CallQ.e hn ?_ | refine CallP.e hn ?_); conv => whnf))
    all_goals first | contradiction | exact err xe _ rfl

theorem refParse (s : List UInt8) (hs : s.length < 1000000) : ∀ (r : Nat), r ≤ 64 → ∀ (a : Int), PCalls E 211 [.str s, .int .i64 a, .int .i64 (64 - (r : Int))] (· = prAV (finP (objR (ofL s r) s a)))
  | 0, _, a => parse211 hE _ _ s a _ hs (by omega) (by omega) (fun h => absurd h (by omega)) (fun h => absurd h (by omega)) (fun _ a => ⟨rfl, rfl⟩)
  | r + 1, hr, a => by
    have ih := refParse s hs r (by omega)
    have e : (64 : Int) - (r : Int) = 64 - ((r + 1 : Nat) : Int) + 1 := by omega
    rw [e] at ih
    have h0 : ∀ t a, t.kind = 0 → (ofL s r t a).2.2 ≠ 0 := by
      intro t a h
      cases r with
      | zero => unfold ofL; rw [ofB_end h]; decide
      | succ r => unfold ofL; rw [ofB_end h]; decide
    exact parse211 hE _ _ s a _ hs (by omega) (by omega) (fun _ a => array245 hE _ s a _ hs h0 ih) (fun _ a => dict246 hE _ s a _ hs ih) (fun h => absurd h (by omega))

theorem parse146 (s : List UInt8) (a : Int) (hs : s.length < 1000000) : PCalls E 146 [.str s, .int .i64 a] (· = prAV (parseR s a)) := by
  have ho := refParse hE s hs 64 (Nat.le_refl _) a
  have e : finP (objR (ofL s 64) s a) = parseR s a := rfl
  rw [e] at ho
  have ho : PCalls E 211 [.str s, .int .i64 a, .int .i64 0] (· = prAV (parseR s a)) := ho
  generalize parseR s a = fa at *
  obtain ⟨⟨bk, bn, bf, bs, bl, bd⟩, ba, be⟩ := fa
  have hbL_ : ∀ n0, hbLL n0 (obL bl) = true := fun n0 => obL_hb bl
  have hbD_ : ∀ n0, hbLL n0 (obD bd) = true := fun n0 => obD_hb bd
  unfold prAV at ho
  simp only at ho
  unfold obC at ho
  unfold prAV
  refine p146 hE (fun l => ?_)
  conv => whnf
  repeat' (first
    | (refine And.intro W1 ?_; conv => whnf)
    | (refine brD (fun _ => ?_) (fun _ => ?_) <;> first | (exfalso; omega) | (conv => whnf))
    | (refine brB (fun _ => ?_) (fun _ => ?_) <;> conv => whnf)
    | ((first | refine CallG.e ho ?_ | refine CallD.e ho ?_ | refine CallQ.e ho ?_ | refine CallP.e ho ?_); conv => whnf))
  exact RetG.drop (by simp [hb, hbL, hbL_, hbD_]) rfl rfl ⟨by simp [hb, hbL, hbL_, hbD_], rfl, rfl⟩
end Ink.D
