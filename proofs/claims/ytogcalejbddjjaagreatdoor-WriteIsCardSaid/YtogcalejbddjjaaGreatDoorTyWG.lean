import Derived.Test.YtogcalejbddjjaaGreatDoorTyWF
set_option linter.all false
namespace Ink.D
open Go Go.Proofs
set_option maxRecDepth 100000
variable {E : Env} (hE : E.P = Tryz.prog)

/-! ref04.Int, write.sized, write.may -/
abbrev lenK : List UInt8 := [76, 101, 110, 103, 116, 104]
abbrev numI (n : Int) : Ob := .mk 2 1 (1000 * n) [] [] []
def dS (d : List (List UInt8 × Ob)) (n : Int) : List (List UInt8 × Ob) := setD d lenK (numI n)
theorem pubDic {H : List Blk} {m : Nat} (d : List (List UInt8 × Ob)) : Pub H m (.agg [.int .i64 6, .int .i64 0, .int .i64 0, .str [], nilA, .imm 7 (obD d)]) (.agg (obC (.mk 6 0 0 [] [] d))) :=
  Pub.aggL ⟨.same _ rfl, .same _ rfl, .same _ rfl, .same _ rfl, .nil _ _, .same _ (by simp [hb, obD_hb]), trivial⟩ (obC_sc _)
theorem intO_small {n : Int} (h0 : 0 ≤ n) (h1 : n ≤ 100000) : intO n = numI n := by
  have m1 : mayF n = true := by unfold mayF; simp; omega
  have m2 : mayF (n * 1000) = true := by unfold mayF; simp; omega
  unfold intO intR told
  rw [if_pos m1, if_pos m2, if_pos rfl]
  simp only [numI, Int.mul_comm]
def mayI (n g : Int) (k : Int) (s : List UInt8) (d : List (List UInt8 × Ob)) (sa : Int) : Int :=
  if n < 0 ∨ g < 0 then 1 else if n > 2147483 ∨ g > 2147483 then 2 else if sa ≠ 0 then sa else if k = 8 ∧ (dS d s.length).length > 1024 then 6 else 0

include hE
theorem told166 (f : Int) (hf : mayF f = true) : PCalls E 166 [.int .i64 f] (· = .tup [.int .i64 f, .int .i64 0]) := by
  have hM := may109 hE f
  rw [hf] at hM
  refine p166 hE (fun l => ?_)
  conv => whnf
  repeat' (first
    | (refine And.intro W1 ?_; conv => whnf)
    | (refine brD (fun _ => ?_) (fun _ => ?_) <;> first | (exfalso; omega) | (conv => whnf))
    | (refine brB (fun _ => ?_) (fun _ => ?_) <;> conv => whnf)
    | ((first | refine CallG.e hM ?_ | refine CallD.e hM ?_ | refine CallQ.e hM ?_ | refine CallP.e hM ?_); conv => whnf))
  all_goals exact RetG.q ⟨rfl, rfl, rfl⟩
theorem int108 (n : Int) (h0 : 0 ≤ n) (h1 : n ≤ 100000) : PCalls E 108 [.int .i64 n] (· = .tup [.int .i64 (1000 * n), .int .i64 0]) := by
  have hT := told166 hE (1000 * n) (by unfold mayF; simp; omega)
  have hi : inI64 (1000 * n) := by unfold inI64; omega
  refine p108 hE (fun l => ?_)
  conv => whnf
  repeat' (first
    | (refine And.intro W1 ?_; conv => whnf)
    | (refine brD (fun _ => ?_) (fun _ => ?_) <;> first | (exfalso; omega) | (conv => whnf))
    | (refine brB (fun _ => ?_) (fun _ => ?_) <;> conv => whnf)
    | ((first | refine CallG.e hT ?_ | refine CallD.e hT ?_ | refine CallQ.e hT ?_ | refine CallP.e hT ?_); conv => whnf)
    | ((first | refine CallG.e hi ?_ | refine CallD.e hi ?_ | refine CallQ.e hi ?_ | refine CallP.e hi ?_); conv => whnf))
  all_goals exact RetG.q ⟨rfl, rfl, rfl⟩
theorem int60 (n : Int) (h0 : 0 ≤ n) (h1 : n ≤ 100000) : PCalls E 60 [.int .i64 n] (· = .agg (obC (numI n))) := by
  have hT := int108 hE n h0 h1
  refine p60 hE (fun l => ?_)
  conv => whnf
  repeat' (first
    | (refine And.intro W1 ?_; conv => whnf)
    | (refine brD (fun _ => ?_) (fun _ => ?_) <;> first | (exfalso; omega) | (conv => whnf))
    | (refine brB (fun _ => ?_) (fun _ => ?_) <;> conv => whnf)
    | ((first | refine CallG.e hT ?_ | refine CallD.e hT ?_ | refine CallQ.e hT ?_ | refine CallP.e hT ?_); conv => whnf))
  all_goals first | contradiction | exact RetG.pub (H' := frm l) (pubOb 2 1 (1000 * n) []) rfl rfl ⟨by simp [hb, obC_hb], rfl, rfl⟩

theorem sized58 (k n f : Int) (s : List UInt8) (l_ : List Ob) (d : List (List UInt8 × Ob)) (hs : s.length ≤ 100000) (hd : d.length < big) : PCalls E 58 [.agg (obC (.mk k n f s l_ d))] (· = .agg (obC (.mk 6 0 0 [] [] (dS d s.length)))) := by
  have hI := int34 hE s.length
  rw [intO_small (by omega) (by omega)] at hI
  have hS := set hE (.mk 6 0 0 [] [] d) lenK (numI s.length) (fun _ _ _ _ _ _ h => by cases h; exact hd)
  have e : setL (.mk 6 0 0 [] [] d) lenK (numI s.length) = .mk 6 0 0 [] [] (dS d s.length) := by simp [setL, dS]
  rw [e] at hS
  have hS2 := hS.pub (args' := [.agg [.int .i64 6, .int .i64 0, .int .i64 0, .str [], nilA, .imm 7 (obD d)], .str lenK, .agg (obC (numI s.length))]) (fun m => ⟨pubDic d, .same _ rfl, .same _ (by simp [hb, obC_hb]), trivial⟩)
  have hL : ∀ n0, hbLL n0 (obL l_) = true := fun n0 => obL_hb l_
  have hD : ∀ n0, hbLL n0 (obD d) = true := fun n0 => obD_hb d
  have hD2 : ∀ n0, hbLL n0 (obD (dS d s.length)) = true := fun n0 => obD_hb _
  generalize dS d s.length = D at *
  refine p58 hE (fun l => ?_) (by simp [hbL, hb, obC_hb])
  unfold obC at *
  conv => whnf
  repeat' (first
    | (refine And.intro W1 ?_; conv => whnf)
    | (refine brD (fun _ => ?_) (fun _ => ?_) <;> first | (exfalso; omega) | (conv => whnf))
    | (refine brB (fun _ => ?_) (fun _ => ?_) <;> conv => whnf)
    | ((first | refine CallG.e hI ?_ | refine CallD.e hI ?_ | refine CallQ.e hI ?_ | refine CallP.e hI ?_); conv => whnf)
    | ((first | refine CallG.e hS2 ?_ | refine CallD.e hS2 ?_ | refine CallQ.e hS2 ?_ | refine CallP.e hS2 ?_); conv => whnf))
  all_goals first | contradiction | exact RetG.drop (by simp [hb, hbL, hD2, obL_hb]) rfl rfl ⟨by simp [hb, hbL, hD2, obL_hb], rfl, rfl⟩

set_option maxHeartbeats 2000000 in
theorem mayA (n g : Int) (o : Ob) (k n' f : Int) (s : List UInt8) (l_ : List Ob) (d : List (List UInt8 × Ob)) (ho : o = .mk k n' f s l_ d) (hc : countO o < big) (hs : s.length ≤ 100000) : PCalls E 55 [.int .i64 n, .int .i64 g, .agg (obC o)] (· = .int .i64 (mayI n g k s d (saneF o 0))) := by
  have hS := saneF60 hE o hc
  generalize saneF o 0 = sa at *
  subst ho
  have hd : d.length < big := by
    have := countD_len d
    simp only [countO] at hc
    omega
  have hZ := sized58 hE k n' f s l_ d hs hd
  have hL : ∀ n0, hbLL n0 (obL l_) = true := fun n0 => obL_hb l_
  have hD : ∀ n0, hbLL n0 (obD d) = true := fun n0 => obD_hb d
  have hdl := obD_length (dS d s.length)
  have hDl : (dS d s.length).length ≤ 100000001 := by
    have := setD_len d lenK (numI s.length)
    unfold dS
    unfold big at hd
    omega
  unfold mayI
  generalize dS d s.length = D at *
  refine p55 hE (fun l => ?_) (by simp [hbL, hb, obC_hb])
  unfold obC at hS hZ ⊢
  by_cases c1 : n < 0 ∨ g < 0
  · rw [if_pos c1]
    conv => whnf
    repeat' (first
      | (refine And.intro W1 ?_; conv => whnf)
      | (refine brD (fun _ => ?_) (fun _ => ?_) <;> first | (exfalso; omega) | (conv => whnf))
      | (refine brB (fun _ => ?_) (fun _ => ?_) <;> conv => whnf)
      | ((first | refine CallG.e hS ?_ | refine CallD.e hS ?_ | refine CallQ.e hS ?_ | refine CallP.e hS ?_); conv => whnf))
    all_goals first | contradiction | (exfalso; omega) | exact RetG.drop rfl rfl rfl ⟨rfl, rfl, rfl⟩
  rw [if_neg c1]
  have c1a : ¬ n < 0 := fun h => c1 (.inl h)
  have c1b : ¬ g < 0 := fun h => c1 (.inr h)
  by_cases c2 : n > 2147483 ∨ g > 2147483
  · rw [if_pos c2]
    conv => whnf
    repeat' (first
      | (refine And.intro W1 ?_; conv => whnf)
      | (refine brD (fun _ => ?_) (fun _ => ?_) <;> first | (exfalso; omega) | (conv => whnf))
      | (refine brB (fun _ => ?_) (fun _ => ?_) <;> conv => whnf)
      | ((first | refine CallG.e hS ?_ | refine CallD.e hS ?_ | refine CallQ.e hS ?_ | refine CallP.e hS ?_); conv => whnf))
    all_goals first | contradiction | (exfalso; omega) | exact RetG.drop rfl rfl rfl ⟨rfl, rfl, rfl⟩
  rw [if_neg c2]
  have c2a : ¬ n > 2147483 := fun h => c2 (.inl h)
  have c2b : ¬ g > 2147483 := fun h => c2 (.inr h)
  by_cases c3 : sa ≠ 0
  · rw [if_pos c3]
    conv => whnf
    repeat' (first
      | (refine And.intro W1 ?_; conv => whnf)
      | (refine brD (fun _ => ?_) (fun _ => ?_) <;> first | (exfalso; omega) | (conv => whnf))
      | (refine brB (fun _ => ?_) (fun _ => ?_) <;> conv => whnf)
      | ((first | refine CallG.e hS ?_ | refine CallD.e hS ?_ | refine CallQ.e hS ?_ | refine CallP.e hS ?_); conv => whnf))
    all_goals first | contradiction | (exfalso; omega) | exact RetG.drop rfl rfl rfl ⟨rfl, rfl, rfl⟩
  rw [if_neg c3]
  have c3 : sa = 0 := Decidable.not_not.mp c3
  subst c3
  by_cases h8 : k = 8
  · subst h8
    by_cases c4 : D.length > 1024
    · rw [if_pos ⟨rfl, c4⟩]
      have c4' : (D.length : Int) > 1024 := by omega
      conv => whnf
      repeat' (first
        | (refine And.intro W1 ?_; conv => whnf)
        | (refine brD (fun _ => ?_) (fun _ => ?_) <;> first | (exfalso; omega) | (conv => whnf))
        | (refine brB (fun _ => ?_) (fun _ => ?_) <;> conv => whnf)
        | ((first | refine CallG.e hS ?_ | refine CallD.e hS ?_ | refine CallQ.e hS ?_ | refine CallP.e hS ?_); conv => whnf)
        | ((first | refine CallG.e hZ ?_ | refine CallD.e hZ ?_ | refine CallQ.e hZ ?_ | refine CallP.e hZ ?_); conv => whnf))
      all_goals first | contradiction | (exfalso; omega) | exact RetG.drop rfl rfl rfl ⟨rfl, rfl, rfl⟩
    · rw [if_neg (fun h => c4 h.2)]
      have c4' : ¬ (D.length : Int) > 1024 := by omega
      conv => whnf
      repeat' (first
        | (refine And.intro W1 ?_; conv => whnf)
        | (refine brD (fun _ => ?_) (fun _ => ?_) <;> first | (exfalso; omega) | (conv => whnf))
        | (refine brB (fun _ => ?_) (fun _ => ?_) <;> conv => whnf)
        | ((first | refine CallG.e hS ?_ | refine CallD.e hS ?_ | refine CallQ.e hS ?_ | refine CallP.e hS ?_); conv => whnf)
        | ((first | refine CallG.e hZ ?_ | refine CallD.e hZ ?_ | refine CallQ.e hZ ?_ | refine CallP.e hZ ?_); conv => whnf))
      all_goals first | contradiction | (exfalso; omega) | exact RetG.drop rfl rfl rfl ⟨rfl, rfl, rfl⟩
  · rw [if_neg (fun h => h8 h.1)]
    conv => whnf
    repeat' (first
      | (refine And.intro W1 ?_; conv => whnf)
      | (refine brD (fun _ => ?_) (fun _ => ?_) <;> first | (exfalso; omega) | (conv => whnf))
      | (refine brB (fun _ => ?_) (fun _ => ?_) <;> conv => whnf)
      | ((first | refine CallG.e hS ?_ | refine CallD.e hS ?_ | refine CallQ.e hS ?_ | refine CallP.e hS ?_); conv => whnf))
    all_goals first | contradiction | (exfalso; omega) | exact RetG.drop rfl rfl rfl ⟨rfl, rfl, rfl⟩

omit hE in
def bodyT (k : Int) (s : List UInt8) (d : List (List UInt8 × Ob)) (T : List UInt8) : List UInt8 :=
  if k = 8 then txt (.mk 6 0 0 [] [] (dS d s.length)) ++ ([10, 115, 116, 114, 101, 97, 109, 10] ++ s ++ [10, 101, 110, 100, 115, 116, 114, 101, 97, 109]) else T
omit hE in
def headT (n g : Int) : List UInt8 := Lib.itoa n ++ [32] ++ Lib.itoa g ++ [32, 111, 98, 106, 10]
omit hE in
def indI (n g : Int) (k : Int) (s : List UInt8) (d : List (List UInt8 × Ob)) (T : List UInt8) (sa : Int) : AV :=
  .tup [.str (if mayI n g k s d sa = 0 then headT n g ++ bodyT k s d T ++ [10, 101, 110, 100, 111, 98, 106, 10] else []), .int .i64 (mayI n g k s d sa)]
omit hE in
theorem headT_len {n g : Int} (hn : 0 ≤ n ∧ n ≤ 2147483) (hg : 0 ≤ g ∧ g ≤ 2147483) : (headT n g).length ≤ 26 ∧ (Lib.itoa n).length ≤ 10 ∧ (Lib.itoa g).length ≤ 10 := by
  have hi : ∀ z : Int, 0 ≤ z → z ≤ 2147483 → (Lib.itoa z).length ≤ 10 := fun z h1 h2 => by
    unfold Lib.itoa
    rw [if_neg (by omega)]
    exact dec_len 9 _ (by omega)
  have h1 := hi n hn.1 hn.2
  have h2 := hi g hg.1 hg.2
  unfold headT
  refine ⟨?_, h1, h2⟩
  simp only [List.length_append, List.length_cons, List.length_nil]
  omega
omit hE in
theorem mayI_0 {n g k : Int} {s : List UInt8} {d : List (List UInt8 × Ob)} {sa : Int} (h : mayI n g k s d sa = 0) : (0 ≤ n ∧ n ≤ 2147483) ∧ (0 ≤ g ∧ g ≤ 2147483) ∧ sa = 0 ∧ (k = 8 → (dS d s.length).length ≤ 1024) := by
  unfold mayI at h
  split at h
  · exact absurd h (by decide)
  · split at h
    · exact absurd h (by decide)
    · split at h
      · contradiction
      · split at h
        · exact absurd h (by decide)
        · rename_i a b c e
          exact ⟨⟨by omega, by omega⟩, ⟨by omega, by omega⟩, by omega, fun hk => by
            have : ¬ (dS d s.length).length > 1024 := fun h => e ⟨hk, h⟩
            omega⟩

set_option maxHeartbeats 4000000 in
theorem indirectA (hT : TabE E) (n g : Int) (o : Ob) (k n' f : Int) (s : List UInt8) (l_ : List Ob) (d : List (List UInt8 × Ob)) (ho : o = .mk k n' f s l_ d) (hc : countO o < big) (hs : s.length ≤ 100000)
    (hok : saneF o 0 = 0 → k ≠ 8 → okW o = true ∧ (txt o).length < 100000000) (hok8 : saneF o 0 = 0 → k = 8 → okW (.mk 6 0 0 [] [] (dS d s.length)) = true ∧ (txt (.mk 6 0 0 [] [] (dS d s.length))).length < 100000000) :
    PCalls E 21 [.int .i64 n, .int .i64 g, .agg (obC o)] (· = indI n g k s d (txt o) (saneF o 0)) := by
  have hM := mayA hE n g o k n' f s l_ d ho hc hs
  have hd : d.length < big := by
    subst ho
    have := countD_len d
    simp only [countO] at hc
    omega
  have hm0 := mayI_0 (n := n) (g := g) (k := k) (s := s) (d := d) (sa := saneF o 0)
  have hhb := obC_hb (n0 := 0) o
  have hL : ∀ n0, hbLL n0 (obL l_) = true := fun n0 => obL_hb l_
  have hD : ∀ n0, hbLL n0 (obD d) = true := fun n0 => obD_hb d
  unfold indI
  by_cases hz : mayI n g k s d (saneF o 0) = 0
  · rw [if_pos hz, hz]
    rw [hz] at hM
    obtain ⟨hn, hg, hsa, h8l⟩ := hm0 hz
    have hn1 := itoa hE hT n
    have hg1 := itoa hE hT g
    obtain ⟨hhl, hin, hig⟩ := headT_len hn hg
    have hW1 := writeString hE [] (headT n g) (by simp only [List.length_nil]; omega)
    rw [List.nil_append] at hW1
    by_cases h8 : k = 8
    · obtain ⟨k1, k2⟩ := hok8 hsa h8
      have hZ := sized58 hE k n' f s l_ d hs hd
      have hP := put hE hT _ (.mk 6 0 0 [] [] (dS d s.length)) (Nat.lt_succ_self _) k1 (headT n g) (by omega)
      have hD2 : ∀ n0, hbLL n0 (obD (dS d s.length)) = true := fun n0 => obD_hb _
      unfold bodyT
      rw [if_pos h8]
      generalize txt (.mk 6 0 0 [] [] (dS d s.length)) = T8 at *
      have hW2 := writeString hE (headT n g ++ T8) ([10, 115, 116, 114, 101, 97, 109, 10] ++ s ++ [10, 101, 110, 100, 115, 116, 114, 101, 97, 109]) (by simp only [List.length_append, List.length_cons, List.length_nil]; omega)
      have hW3 := writeString hE (headT n g ++ T8 ++ ([10, 115, 116, 114, 101, 97, 109, 10] ++ s ++ [10, 101, 110, 100, 115, 116, 114, 101, 97, 109])) [10, 101, 110, 100, 111, 98, 106, 10] (by simp only [List.length_append, List.length_cons, List.length_nil]; omega)
      have hStr := string hE (headT n g ++ T8 ++ ([10, 115, 116, 114, 101, 97, 109, 10] ++ s ++ [10, 101, 110, 100, 115, 116, 114, 101, 97, 109]) ++ [10, 101, 110, 100, 111, 98, 106, 10]) (by simp only [List.length_append, List.length_cons, List.length_nil]; omega)
      have hhb2 := obC_hb (n0 := 0) (.mk 6 0 0 [] [] (dS d s.length))
      have ea : headT n g ++ (T8 ++ ([10, 115, 116, 114, 101, 97, 109, 10] ++ s ++ [10, 101, 110, 100, 115, 116, 114, 101, 97, 109])) ++ [10, 101, 110, 100, 111, 98, 106, 10] = headT n g ++ T8 ++ ([10, 115, 116, 114, 101, 97, 109, 10] ++ s ++ [10, 101, 110, 100, 115, 116, 114, 101, 97, 109]) ++ [10, 101, 110, 100, 111, 98, 106, 10] := by simp
      rw [ea]
      subst ho h8
      generalize dS d s.length = DD at *
      unfold headT at *
      generalize Lib.itoa n = N at *
      generalize Lib.itoa g = G at *
      refine p21 hE (fun l => ?_) (by simp [hbL, hb, obC_hb])
      unfold obC at hM hZ hP hhb hhb2 ⊢
      conv => whnf
      repeat' (first
        | (refine And.intro W1 ?_; conv => whnf)
        | (refine brD (fun _ => ?_) (fun _ => ?_) <;> first | (exfalso; omega) | (conv => whnf))
        | (refine brB (fun _ => ?_) (fun _ => ?_) <;> conv => whnf)
        | ((first | refine CallG.e hM ?_ | refine CallD.e hM ?_ | refine CallQ.e hM ?_ | refine CallP.e hM ?_); conv => whnf)
        | ((first | refine CallG.e hn1 ?_ | refine CallD.e hn1 ?_ | refine CallQ.e hn1 ?_ | refine CallP.e hn1 ?_); conv => whnf)
        | ((first | refine CallG.e hg1 ?_ | refine CallD.e hg1 ?_ | refine CallQ.e hg1 ?_ | refine CallP.e hg1 ?_); conv => whnf)
        | ((first | refine CallG.e hZ ?_ | refine CallD.e hZ ?_ | refine CallQ.e hZ ?_ | refine CallP.e hZ ?_); conv => whnf)
        | (refine CallG.b [(2, 0)] hP ⟨rfl, trivial⟩ ⟨.ptr 0 2 0 0 rfl, .same _ hhb2, trivial⟩ (fun r ks' hq _ _ => ?_); obtain ⟨rfl, rfl⟩ := hq; conv => whnf)
        | (refine CallG.b [(2, 0)] hStr ⟨rfl, trivial⟩ ⟨.ptr 0 2 0 0 rfl, trivial⟩ (fun r ks' hq _ _ => ?_); obtain ⟨rfl, rfl⟩ := hq; conv => whnf)
        | (refine CallG.b [(2, 0)] hW1 ⟨rfl, trivial⟩ ⟨.ptr 0 2 0 0 rfl, .same _ rfl, trivial⟩ (fun r ks' hq _ _ => ?_); obtain ⟨rfl, rfl⟩ := hq; conv => whnf)
        | (refine CallG.b [(2, 0)] hW2 ⟨rfl, trivial⟩ ⟨.ptr 0 2 0 0 rfl, .same _ rfl, trivial⟩ (fun r ks' hq _ _ => ?_); obtain ⟨rfl, rfl⟩ := hq; conv => whnf)
        | (refine CallG.b [(2, 0)] hW3 ⟨rfl, trivial⟩ ⟨.ptr 0 2 0 0 rfl, .same _ rfl, trivial⟩ (fun r ks' hq _ _ => ?_); obtain ⟨rfl, rfl⟩ := hq; conv => whnf))
      all_goals first | contradiction | exact RetG.drop rfl rfl rfl ⟨rfl, rfl, rfl⟩
    · obtain ⟨k1, k2⟩ := hok hsa h8
      have hP := put hE hT _ o (Nat.lt_succ_self _) k1 (headT n g) (by omega)
      unfold bodyT
      rw [if_neg h8]
      generalize txt o = T at *
      have hW3 := writeString hE (headT n g ++ T) [10, 101, 110, 100, 111, 98, 106, 10] (by simp only [List.length_append, List.length_cons, List.length_nil]; omega)
      have hStr := string hE (headT n g ++ T ++ [10, 101, 110, 100, 111, 98, 106, 10]) (by simp only [List.length_append, List.length_cons, List.length_nil]; omega)
      subst ho
      unfold headT at *
      generalize Lib.itoa n = N at *
      generalize Lib.itoa g = G at *
      refine p21 hE (fun l => ?_) (by simp [hbL, hb, obC_hb])
      unfold obC at hM hP hhb ⊢
      conv => whnf
      repeat' (first
        | (refine And.intro W1 ?_; conv => whnf)
        | (refine brD (fun _ => ?_) (fun _ => ?_) <;> first | (exfalso; omega) | (conv => whnf))
        | (refine brB (fun _ => ?_) (fun _ => ?_) <;> conv => whnf)
        | ((first | refine CallG.e hM ?_ | refine CallD.e hM ?_ | refine CallQ.e hM ?_ | refine CallP.e hM ?_); conv => whnf)
        | ((first | refine CallG.e hn1 ?_ | refine CallD.e hn1 ?_ | refine CallQ.e hn1 ?_ | refine CallP.e hn1 ?_); conv => whnf)
        | ((first | refine CallG.e hg1 ?_ | refine CallD.e hg1 ?_ | refine CallQ.e hg1 ?_ | refine CallP.e hg1 ?_); conv => whnf)
        | (refine CallG.b [(2, 0)] hP ⟨rfl, trivial⟩ ⟨.ptr 0 2 0 0 rfl, .same _ hhb, trivial⟩ (fun r ks' hq _ _ => ?_); obtain ⟨rfl, rfl⟩ := hq; conv => whnf)
        | (refine CallG.b [(2, 0)] hStr ⟨rfl, trivial⟩ ⟨.ptr 0 2 0 0 rfl, trivial⟩ (fun r ks' hq _ _ => ?_); obtain ⟨rfl, rfl⟩ := hq; conv => whnf)
        | (refine CallG.b [(2, 0)] hW1 ⟨rfl, trivial⟩ ⟨.ptr 0 2 0 0 rfl, .same _ rfl, trivial⟩ (fun r ks' hq _ _ => ?_); obtain ⟨rfl, rfl⟩ := hq; conv => whnf)
        | (refine CallG.b [(2, 0)] hW3 ⟨rfl, trivial⟩ ⟨.ptr 0 2 0 0 rfl, .same _ rfl, trivial⟩ (fun r ks' hq _ _ => ?_); obtain ⟨rfl, rfl⟩ := hq; conv => whnf))
      all_goals first | contradiction | exact RetG.drop rfl rfl rfl ⟨rfl, rfl, rfl⟩
  · rw [if_neg hz]
    generalize mayI n g k s d (saneF o 0) = m at *
    subst ho
    refine p21 hE (fun l => ?_) (by simp [hbL, hb, obC_hb])
    unfold obC at hM ⊢
    conv => whnf
    repeat' (first
      | (refine And.intro W1 ?_; conv => whnf)
      | (refine brD (fun _ => ?_) (fun _ => ?_) <;> first | (exfalso; omega) | (conv => whnf))
      | (refine brB (fun _ => ?_) (fun _ => ?_) <;> conv => whnf)
      | ((first | refine CallG.e hM ?_ | refine CallD.e hM ?_ | refine CallQ.e hM ?_ | refine CallP.e hM ?_); conv => whnf))
    all_goals first | contradiction | exact RetG.drop rfl rfl rfl ⟨rfl, rfl, rfl⟩
end Ink.D
