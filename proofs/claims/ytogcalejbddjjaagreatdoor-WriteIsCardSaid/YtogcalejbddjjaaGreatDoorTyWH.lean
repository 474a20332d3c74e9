import Derived.Test.YtogcalejbddjjaaGreatDoorTyWG
import Derived.Test.YtogcalejbddjjaaGreatDoorTyU2
set_option linter.all false
namespace Ink.D
open Go Go.Proofs
set_option maxRecDepth 100000
variable {E : Env} (hE : E.P = Tryz.prog)

theorem insD_len2 (k : Nat) (e : List UInt8 × Ob) (d : List (List UInt8 × Ob)) : (insD k e d).length = d.length + 1 := by
  simp [insD]; omega
theorem setD_len2 (d : List (List UInt8 × Ob)) (key : List UInt8) {v w : Ob} (hv : v.kind ≠ 0) (hw : w.kind ≠ 0) : (setD d key v).length = (setD d key w).length := by
  unfold setD
  rw [if_neg hv, if_neg hw]
  split
  · simp
  · rw [insD_len2, insD_len2]

include hE
set_option maxHeartbeats 8000000 in
theorem indirectR (n g : Int) (o : Ob) (k n' f : Int) (s : List UInt8) (l_ : List Ob) (d : List (List UInt8 × Ob)) (ho : o = .mk k n' f s l_ d) (hc : countO o < big) (hs : s.length ≤ 100000)
    (hok : saneF o 0 = 0 → k ≠ 8 → PCalls E 54 [.agg (obC o)] (· = .str (txt o)) ∧ (txt o).length < 100000000)
    (hok8 : saneF o 0 = 0 → k = 8 → PCalls E 54 [.agg (obC (.mk 6 0 0 [] [] (dS d s.length)))] (· = .str (txt (.mk 6 0 0 [] [] (dS d s.length)))) ∧ (txt (.mk 6 0 0 [] [] (dS d s.length))).length < 100000000) :
    PCalls E 22 [.int .i64 n, .int .i64 g, .agg (obC o)] (· = indI n g k s d (txt o) (saneF o 0)) := by
  have hS := sane24 hE o hc
  have hd : d.length < big := by
    subst ho
    have := countD_len d
    simp only [countO] at hc
    omega
  have hI0 := int60 hE 0 (by decide) (by decide)
  have hI1 := int60 hE s.length (by omega) (by omega)
  have hS0 := (set59 hE 0 0 [] [] d lenK (numI 0) hd).pub (args' := [.agg [.int .i64 6, .int .i64 0, .int .i64 0, .str [], nilA, .imm 7 (obD d)], .str lenK, .agg (obC (numI 0))]) (fun m => ⟨pubDic d, .same _ rfl, .same _ (by simp [hb, obC_hb]), trivial⟩)
  have hS1 := (set59 hE 0 0 [] [] d lenK (numI s.length) hd).pub (args' := [.agg [.int .i64 6, .int .i64 0, .int .i64 0, .str [], nilA, .imm 7 (obD d)], .str lenK, .agg (obC (numI s.length))]) (fun m => ⟨pubDic d, .same _ rfl, .same _ (by simp [hb, obC_hb]), trivial⟩)
  rw [setR_eq] at hS0 hS1
  have e1 : setD d lenK (numI s.length) = dS d s.length := rfl
  rw [e1] at hS1
  have hlen : (setD d lenK (numI 0)).length = (dS d s.length).length := setD_len2 d lenK (by decide) (by show (2 : Int) ≠ 0; decide)
  have hDl : (dS d s.length).length ≤ 100000001 := by
    have := setD_len d lenK (numI s.length)
    unfold dS
    unfold big at hd
    omega
  have hdl0 := obD_length (setD d lenK (numI 0))
  have hL : ∀ n0, hbLL n0 (obL l_) = true := fun n0 => obL_hb l_
  have hD : ∀ n0, hbLL n0 (obD d) = true := fun n0 => obD_hb d
  have hi1 : -100000000 ≤ n ∧ n ≤ 2147483 → inI64 (1000 * n) := fun h => by unfold inI64; omega
  have hi2 : -100000000 ≤ g ∧ g ≤ 2147483 → inI64 (1000 * g) := fun h => by unfold inI64; omega
  have hP : ∀ z, 0 ≤ z ∧ z ≤ 2147483 → PCalls E 61 [.int .i64 (1000 * z)] (· = .str (Lib.itoa z)) := fun z hz => by
    obtain ⟨a, b⟩ := itoa_print hz.1 hz.2
    rw [Int.mul_comm] at a b
    rw [← a]
    exact print61 hE _ b
  unfold indI mayI
  generalize setD d lenK (numI 0) = D0 at *
  generalize saneF o 0 = sa at *
  by_cases c1 : n < 0 ∨ g < 0
  · rw [if_pos c1, if_neg (by decide)]
    subst ho
    refine p22 hE (fun l => ?_) (by simp [hbL, hb, obC_hb])
    unfold obC at hS ⊢
    conv => whnf
    repeat' (first
      | (refine And.intro W1 ?_; conv => whnf)
      | (refine brD (fun _ => ?_) (fun _ => ?_) <;> first | (exfalso; omega) | (conv => whnf))
      | (refine brB (fun _ => ?_) (fun _ => ?_) <;> conv => whnf)
      | ((first | refine CallG.e hS ?_ | refine CallD.e hS ?_ | refine CallQ.e hS ?_ | refine CallP.e hS ?_); conv => whnf))
    all_goals first | contradiction | (exfalso; omega) | exact RetG.drop rfl rfl rfl ⟨rfl, rfl, rfl⟩
  rw [if_neg c1]
  have c1a : ¬ n < 0 := fun h => c1 (.inl h)
  have c1b : ¬ g < 0 := fun h => c1 (.inr h)
  by_cases c2 : n > 2147483 ∨ g > 2147483
  · rw [if_pos c2, if_neg (by decide)]
    subst ho
    refine p22 hE (fun l => ?_) (by simp [hbL, hb, obC_hb])
    unfold obC at hS ⊢
    conv => whnf
    repeat' (first
      | (refine And.intro W1 ?_; conv => whnf)
      | (refine brD (fun _ => ?_) (fun _ => ?_) <;> first | (exfalso; omega) | (conv => whnf))
      | (refine brB (fun _ => ?_) (fun _ => ?_) <;> conv => whnf)
      | ((first | refine CallG.e hS ?_ | refine CallD.e hS ?_ | refine CallQ.e hS ?_ | refine CallP.e hS ?_); conv => whnf))
    all_goals first | contradiction | (exfalso; omega) | exact RetG.drop rfl rfl rfl ⟨rfl, rfl, rfl⟩
  rw [if_neg c2]
  have c2a : ¬ n > 2147483 := fun h => c2 (.inl h)
  have c2b : ¬ g > 2147483 := fun h => c2 (.inr h)
  by_cases c3 : sa ≠ 0
  · rw [if_pos c3, if_neg c3]
    subst ho
    refine p22 hE (fun l => ?_) (by simp [hbL, hb, obC_hb])
    unfold obC at hS ⊢
    conv => whnf
    repeat' (first
      | (refine And.intro W1 ?_; conv => whnf)
      | (refine brD (fun _ => ?_) (fun _ => ?_) <;> first | (exfalso; omega) | (conv => whnf))
      | (refine brB (fun _ => ?_) (fun _ => ?_) <;> conv => whnf)
      | ((first | refine CallG.e hS ?_ | refine CallD.e hS ?_ | refine CallQ.e hS ?_ | refine CallP.e hS ?_); conv => whnf))
    all_goals first | contradiction | (exfalso; omega) | exact RetG.drop rfl rfl rfl ⟨rfl, rfl, rfl⟩
  rw [if_neg c3]
  have c3 : sa = 0 := Decidable.not_not.mp c3
  subst c3
  have hi1 := hi1 (by omega)
  have hi2 := hi2 (by omega)
  have hPn := hP n (by omega)
  have hPg := hP g (by omega)
  obtain ⟨hhl, hin, hig⟩ := headT_len (n := n) (g := g) (by omega) (by omega)
  unfold headT at *
  generalize Lib.itoa n = N at *
  generalize Lib.itoa g = G at *
  simp only [List.length_append, List.length_cons, List.length_nil] at hhl
  by_cases h8 : k = 8
  · obtain ⟨hO, hOl⟩ := hok8 rfl h8
    unfold bodyT
    rw [if_pos h8]
    generalize txt (.mk 6 0 0 [] [] (dS d s.length)) = T8 at *
    generalize dS d s.length = D at *
    subst ho h8
    by_cases c4 : D.length > 1024
    · rw [if_pos (show (8 : Int) = 8 ∧ D.length > 1024 from ⟨rfl, c4⟩), if_neg (show ¬ (6 : Int) = 0 by decide)]
      have c4' : (D0.length : Int) > 1024 := by omega
      refine p22 hE (fun l => ?_) (by simp [hbL, hb, obC_hb])
      unfold obC at hS hI0 hS0 ⊢
      conv => whnf
      repeat' (first
        | (refine And.intro W1 ?_; conv => whnf)
        | (refine brD (fun _ => ?_) (fun _ => ?_) <;> first | (exfalso; omega) | (conv => whnf))
        | (refine brB (fun _ => ?_) (fun _ => ?_) <;> conv => whnf)
        | ((first | refine CallG.e hS ?_ | refine CallD.e hS ?_ | refine CallQ.e hS ?_ | refine CallP.e hS ?_); conv => whnf)
        | ((first | refine CallG.e hI0 ?_ | refine CallD.e hI0 ?_ | refine CallQ.e hI0 ?_ | refine CallP.e hI0 ?_); conv => whnf)
        | ((first | refine CallG.e hS0 ?_ | refine CallD.e hS0 ?_ | refine CallQ.e hS0 ?_ | refine CallP.e hS0 ?_); conv => whnf))
      all_goals first | contradiction | (exfalso; omega) | exact RetG.drop rfl rfl rfl ⟨rfl, rfl, rfl⟩
    · rw [if_neg (show ¬ ((8 : Int) = 8 ∧ D.length > 1024) from fun h => c4 h.2), if_pos (show (0 : Int) = 0 from rfl)]
      have c4' : ¬ (D0.length : Int) > 1024 := by omega
      refine p22 hE (fun l => ?_) (by simp [hbL, hb, obC_hb])
      unfold obC at hS hI0 hS0 hI1 hS1 hO ⊢
      conv => whnf
      repeat' (first
        | (refine And.intro W1 ?_; conv => whnf)
        | (refine brD (fun _ => ?_) (fun _ => ?_) <;> first | (exfalso; omega) | (conv => whnf))
        | (refine brB (fun _ => ?_) (fun _ => ?_) <;> conv => whnf)
        | ((first | refine CallG.e hS ?_ | refine CallD.e hS ?_ | refine CallQ.e hS ?_ | refine CallP.e hS ?_); conv => whnf)
        | ((first | refine CallG.e hI0 ?_ | refine CallD.e hI0 ?_ | refine CallQ.e hI0 ?_ | refine CallP.e hI0 ?_); conv => whnf)
        | ((first | refine CallG.e hS0 ?_ | refine CallD.e hS0 ?_ | refine CallQ.e hS0 ?_ | refine CallP.e hS0 ?_); conv => whnf)
        | ((first | refine CallG.e hI1 ?_ | refine CallD.e hI1 ?_ | refine CallQ.e hI1 ?_ | refine CallP.e hI1 ?_); conv => whnf)
        | ((first | refine CallG.e hS1 ?_ | refine CallD.e hS1 ?_ | refine CallQ.e hS1 ?_ | refine CallP.e hS1 ?_); conv => whnf)
        | ((first | refine CallG.e hO ?_ | refine CallD.e hO ?_ | refine CallQ.e hO ?_ | refine CallP.e hO ?_); conv => whnf)
        | ((first | refine CallG.e hPn ?_ | refine CallD.e hPn ?_ | refine CallQ.e hPn ?_ | refine CallP.e hPn ?_); conv => whnf)
        | ((first | refine CallG.e hPg ?_ | refine CallD.e hPg ?_ | refine CallQ.e hPg ?_ | refine CallP.e hPg ?_); conv => whnf)
        | ((first | refine CallG.e hi1 ?_ | refine CallD.e hi1 ?_ | refine CallQ.e hi1 ?_ | refine CallP.e hi1 ?_); conv => whnf)
        | ((first | refine CallG.e hi2 ?_ | refine CallD.e hi2 ?_ | refine CallQ.e hi2 ?_ | refine CallP.e hi2 ?_); conv => whnf))
      all_goals first | contradiction | (exfalso; omega) | exact RetG.drop rfl rfl rfl ⟨rfl, by simp, rfl⟩
  · obtain ⟨hO, hOl⟩ := hok rfl h8
    unfold bodyT
    rw [if_neg h8, if_neg (show ¬ (k = 8 ∧ (dS d s.length).length > 1024) from fun h => h8 h.1), if_pos (show (0 : Int) = 0 from rfl)]
    generalize txt o = T at *
    subst ho
    refine p22 hE (fun l => ?_) (by simp [hbL, hb, obC_hb])
    unfold obC at hS hO ⊢
    conv => whnf
    repeat' (first
      | (refine And.intro W1 ?_; conv => whnf)
      | (refine brD (fun _ => ?_) (fun _ => ?_) <;> first | (exfalso; omega) | (conv => whnf))
      | (refine brB (fun _ => ?_) (fun _ => ?_) <;> conv => whnf)
      | ((first | refine CallG.e hS ?_ | refine CallD.e hS ?_ | refine CallQ.e hS ?_ | refine CallP.e hS ?_); conv => whnf)
      | ((first | refine CallG.e hO ?_ | refine CallD.e hO ?_ | refine CallQ.e hO ?_ | refine CallP.e hO ?_); conv => whnf)
      | ((first | refine CallG.e hPn ?_ | refine CallD.e hPn ?_ | refine CallQ.e hPn ?_ | refine CallP.e hPn ?_); conv => whnf)
      | ((first | refine CallG.e hPg ?_ | refine CallD.e hPg ?_ | refine CallQ.e hPg ?_ | refine CallP.e hPg ?_); conv => whnf)
      | ((first | refine CallG.e hi1 ?_ | refine CallD.e hi1 ?_ | refine CallQ.e hi1 ?_ | refine CallP.e hi1 ?_); conv => whnf)
      | ((first | refine CallG.e hi2 ?_ | refine CallD.e hi2 ?_ | refine CallQ.e hi2 ?_ | refine CallP.e hi2 ?_); conv => whnf))
    all_goals first | contradiction | (exfalso; omega) | exact RetG.drop rfl rfl rfl ⟨rfl, by simp, rfl⟩
end Ink.D
