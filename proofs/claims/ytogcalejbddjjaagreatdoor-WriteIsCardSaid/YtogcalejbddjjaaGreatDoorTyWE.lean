import Derived.Test.YtogcalejbddjjaaGreatDoorTyWD
import Derived.Test.YtogcalejbddjjaaGreatDoorPRefA
set_option linter.all false
namespace Ink.D
open Go Go.Proofs
set_option maxRecDepth 100000
variable {E : Env} (hE : E.P = Tryz.prog)

/-! ref05.object -/
theorem itoa_print {n : Int} (h0 : 0 ≤ n) (h1 : n ≤ 2147483) : printL (n * 1000) = Lib.itoa n ∧ mayF (n * 1000) = true := by
  have e1 : (n * 1000).natAbs / 1000 = n.toNat := by omega
  have e2 : (n * 1000).natAbs % 1000 = 0 := by omega
  constructor
  · rw [printL_eq, e1, e2, if_neg (by omega), if_pos rfl, Lib.itoa, if_neg (by omega)]
    simp
  · unfold mayF; simp; omega
theorem join_step (l : List (List UInt8)) {x : Nat} (h : x < l.length) :
    (x = 0 → joinT (l.take x) ++ l[x] = joinT (l.take (x + 1))) ∧ (0 < x → joinT (l.take x) ++ [32] ++ l[x] = joinT (l.take (x + 1))) ∧ (joinT (l.take x)).length + 1 + l[x].length ≤ (joinT l).length + 1 ∧ (0 < x → (joinT (l.take x)).length + 1 + l[x].length ≤ (joinT l).length) ∧ l[x].length ≤ (joinT l).length := by
  have h1 : joinT (l.take (x + 1)) = joinT (l.take x) ++ (if l.take x = [] then l[x] else 32 :: l[x]) := by
    rw [List.take_succ_eq_append_getElem h, joinT_snoc]
  have h2 := joinT_len_take l x h
  refine ⟨?_, ?_, ?_, ?_, ?_⟩
  · rintro rfl
    rw [h1, if_pos (by simp)]
  · intro hx
    rw [h1, if_neg (by
      intro e
      have h0 : (l.take x).length = 0 := by rw [e]; rfl
      rw [List.length_take] at h0
      omega)]
    simp
  · split at h2 <;> omega
  · intro hx
    rw [if_neg (by
      intro e
      have h0 : (l.take x).length = 0 := by rw [e]; rfl
      rw [List.length_take] at h0
      omega)] at h2
    omega
  · split at h2 <;> omega

include hE
set_option maxHeartbeats 4000000 in
theorem object5 (n f : Int) (s : List UInt8) (l_ : List Ob) (d : List (List UInt8 × Ob)) (hl : l_.length < big) (ht : ([91] ++ joinT (l_.map txt) ++ [93]).length < 1000000000)
    (ih : ∀ o ∈ l_, PCalls E 54 [.agg (obC o)] (· = .str (txt o))) : PCalls E 54 [.agg (obC (.mk 5 n f s l_ d))] (· = .str ([91] ++ joinT (l_.map txt) ++ [93])) := by
  have hll := obL_len l_
  have hml : (l_.map txt).length = l_.length := by simp
  have hL : ∀ n0, hbLL n0 (obL l_) = true := fun n0 => obL_hb l_
  have hD : ∀ n0, hbLL n0 (obD d) = true := fun n0 => obD_hb d
  have hjs := fun (x : Nat) (hx : x < (l_.map txt).length) => join_step (l_.map txt) hx
  have hget : ∀ (x : Nat) (hx : x < (l_.map txt).length) (hx2 : x < l_.length), (l_.map txt)[x] = txt l_[x] := fun x hx hx2 => by simp
  simp only [List.length_append, List.length_cons, List.length_nil] at ht
  unfold big at hl
  generalize hP : l_.map txt = P at *
  refine p54 hE (fun l => ?_) (by simp [hbL, hb, obC_hb])
  unfold obC
  conv => whnf
  repeat' (first
    | (refine And.intro W1 ?_; conv => whnf)
    | (refine brD (fun _ => ?_) (fun _ => ?_) <;> first | (exfalso; omega) | (conv => whnf))
    | (refine brB (fun _ => ?_) (fun _ => ?_) <;> conv => whnf))
  refine LoopG.s (fun x : Nat => x ≤ l_.length) 112 (fun x => [(1, .ptr 1 0 0), (3, .str (joinT (P.take x))), (4, .int .i64 x)]) (fun _ => [⟨0, true, .frame l⟩, ⟨0, true, .cells 26 [.int .i64 5, .int .i64 n, .int .i64 f, .str s, .imm 6 (obL l_), .imm 7 (obD d)]⟩]) (fun x => l_.length - x) 0 (by omega) rfl ⟨rfl, rfl, rfl⟩ rfl ?_
  rintro x h1
  by_cases hx : x < l_.length
  · have hg := obL_at hx
    have hC := ih l_[x] (List.getElem_mem hx)
    obtain ⟨j1, j2, j3, j4, j5⟩ := hjs x (by omega)
    rw [hget x (by omega) hx] at j1 j2 j3 j4 j5
    generalize txt l_[x] = T at *
    have hcl : ∃ c0 c1 c2 c3 c4 c5, obC l_[x] = [c0, c1, c2, c3, c4, c5] := by cases l_[x]; exact ⟨_, _, _, _, _, _, rfl⟩
    obtain ⟨c0, c1, c2, c3, c4, c5, hc⟩ := hcl
    rw [hc] at hg hC
    generalize joinT P = JP at *
    generalize joinT (P.take x) = J at *
    conv => whnf
    repeat' (first
      | (rw [hg]; conv => whnf)
      | (refine And.intro W1 ?_; conv => whnf)
      | (refine brD (fun _ => ?_) (fun _ => ?_) <;> first | (exfalso; omega) | (conv => whnf))
      | (refine brB (fun _ => ?_) (fun _ => ?_) <;> conv => whnf)
      | ((first | refine CallG.e hC ?_ | refine CallD.e hC ?_ | refine CallQ.e hC ?_ | refine CallP.e hC ?_); conv => whnf))
    · exact ⟨x + 1, ⟨by omega, by omega⟩, Wk.slots rfl ⟨rfl, congrArg (fun z => some (AV.str z)) (j2 (by omega)), rfl⟩⟩
    · exact ⟨x + 1, ⟨by omega, by omega⟩, Wk.slots rfl ⟨rfl, congrArg (fun z => some (AV.str z)) (j1 (by omega)), rfl⟩⟩
  · have hxe : x = l_.length := by omega
    have ht2 : P.take x = P := List.take_of_length_le (by omega)
    rw [ht2]
    conv => whnf
    repeat' (first
      | (refine And.intro W1 ?_; conv => whnf)
      | (refine brD (fun _ => ?_) (fun _ => ?_) <;> first | (exfalso; omega) | (conv => whnf))
      | (refine brB (fun _ => ?_) (fun _ => ?_) <;> conv => whnf))
    exact RetG.drop rfl rfl rfl ⟨rfl, rfl, rfl⟩

set_option maxHeartbeats 4000000 in
theorem object6 (n f : Int) (s : List UInt8) (l_ : List Ob) (d : List (List UInt8 × Ob)) (hl : d.length < big) (ht : ([60, 60] ++ joinT (d.map txtE) ++ [62, 62]).length < 1000000000) (hk : ∀ e ∈ d, e.1.length < 1000000)
    (ih : ∀ e ∈ d, PCalls E 54 [.agg (obC e.2)] (· = .str (txt e.2))) : PCalls E 54 [.agg (obC (.mk 6 n f s l_ d))] (· = .str ([60, 60] ++ joinT (d.map txtE) ++ [62, 62])) := by
  have hll := obD_length d
  have hml : (d.map txtE).length = d.length := by simp
  have hL : ∀ n0, hbLL n0 (obL l_) = true := fun n0 => obL_hb l_
  have hD : ∀ n0, hbLL n0 (obD d) = true := fun n0 => obD_hb d
  have hjs := fun (x : Nat) (hx : x < (d.map txtE).length) => join_step (d.map txtE) hx
  have hget : ∀ (x : Nat) (hx : x < (d.map txtE).length) (hx2 : x < d.length), (d.map txtE)[x] = (47 :: (d[x].1.map nameC).flatten) ++ [32] ++ txt d[x].2 := fun x hx hx2 => by
    rw [List.getElem_map]
    generalize d[x] = e
    obtain ⟨a, o⟩ := e
    rw [txtE]
  simp only [List.length_append, List.length_cons, List.length_nil] at ht
  unfold big at hl
  generalize hP : d.map txtE = P at *
  refine p54 hE (fun l => ?_) (by simp [hbL, hb, obC_hb])
  unfold obC
  conv => whnf
  repeat' (first
    | (refine And.intro W1 ?_; conv => whnf)
    | (refine brD (fun _ => ?_) (fun _ => ?_) <;> first | (exfalso; omega) | (conv => whnf))
    | (refine brB (fun _ => ?_) (fun _ => ?_) <;> conv => whnf))
  refine LoopG.s (fun x : Nat => x ≤ d.length) 112 (fun x => [(1, .ptr 1 0 0), (3, .str (joinT (P.take x))), (5, .int .i64 x)]) (fun _ => [⟨0, true, .frame l⟩, ⟨0, true, .cells 26 [.int .i64 6, .int .i64 n, .int .i64 f, .str s, .imm 6 (obL l_), .imm 7 (obD d)]⟩]) (fun x => d.length - x) 0 (by omega) rfl ⟨rfl, rfl, rfl⟩ rfl ?_
  rintro x h1
  by_cases hx : x < d.length
  · have hg := obD_get hx
    have hC := ih d[x] (List.getElem_mem hx)
    have hN := rnameOf hE d[x].1 (hk d[x] (List.getElem_mem hx))
    obtain ⟨j1, j2, j3, j4, j5⟩ := hjs x (by omega)
    rw [hget x (by omega) hx] at j1 j2 j3 j4 j5
    generalize d[x] = en at *
    obtain ⟨ek, ⟨k1, n1, f1, s1, l1, d1⟩⟩ := en
    simp only at *
    generalize txt (.mk k1 n1 f1 s1 l1 d1) = T at *
    generalize 47 :: (ek.map nameC).flatten = N at *
    unfold obE obC at hg
    unfold obC at hC
    generalize joinT P = JP at *
    generalize joinT (P.take x) = J at *
    simp only [List.length_append, List.length_cons, List.length_nil] at j3 j4 j5
    conv => whnf
    repeat' (first
      | (rw [hg]; conv => whnf)
      | (refine And.intro W1 ?_; conv => whnf)
      | (refine brD (fun _ => ?_) (fun _ => ?_) <;> first | (exfalso; omega) | (conv => whnf))
      | (refine brB (fun _ => ?_) (fun _ => ?_) <;> conv => whnf)
      | ((first | refine CallG.e hC ?_ | refine CallD.e hC ?_ | refine CallQ.e hC ?_ | refine CallP.e hC ?_); conv => whnf)
      | ((first | refine CallG.e hN ?_ | refine CallD.e hN ?_ | refine CallQ.e hN ?_ | refine CallP.e hN ?_); conv => whnf))
    · exact ⟨x + 1, ⟨by omega, by omega⟩, Wk.slots rfl ⟨rfl, congrArg (fun z => some (AV.str z)) (by rw [← j2 (by omega)]; simp), rfl⟩⟩
    · exact ⟨x + 1, ⟨by omega, by omega⟩, Wk.slots rfl ⟨rfl, congrArg (fun z => some (AV.str z)) (by rw [← j1 (by omega)]; simp), rfl⟩⟩
  · have hxe : x = d.length := by omega
    have ht2 : P.take x = P := List.take_of_length_le (by omega)
    rw [ht2]
    conv => whnf
    repeat' (first
      | (refine And.intro W1 ?_; conv => whnf)
      | (refine brD (fun _ => ?_) (fun _ => ?_) <;> first | (exfalso; omega) | (conv => whnf))
      | (refine brB (fun _ => ?_) (fun _ => ?_) <;> conv => whnf))
    exact RetG.drop rfl rfl rfl ⟨rfl, rfl, rfl⟩

set_option maxHeartbeats 4000000 in
theorem objectO (k n f : Int) (s : List UInt8) (l_ : List Ob) (d : List (List UInt8 × Ob)) (hs : s.length < 1000000) (deep : Int) (ho : ownL k n f l_.length d deep = 0) (hf : (k = 2 ∨ k = 7) → mayF f = true) (h5 : k ≠ 5) (h6 : k ≠ 6) (h8 : k ≠ 8) (ht : (txt (.mk k n f s l_ d)).length < 1000000000) :
    PCalls E 54 [.agg (obC (.mk k n f s l_ d))] (· = .str (txt (.mk k n f s l_ d))) := by
  refine PCalls.have (φ := inI64 n) (fun c vs h => h.ikA 0 1 rfl rfl) fun hn => ?_
  have hL : ∀ n0, hbLL n0 (obL l_) = true := fun n0 => obL_hb l_
  have hD : ∀ n0, hbLL n0 (obD d) = true := fun n0 => obD_hb d
  refine p54 hE (fun l => ?_) (by simp [hbL, hb, obC_hb])
  unfold txt at ht ⊢
  unfold obC
  by_cases k0 : k = 0
  · subst k0
    rw [if_pos rfl]
    conv => whnf
    repeat' (first
      | (refine And.intro W1 ?_; conv => whnf)
      | (refine brD (fun _ => ?_) (fun _ => ?_) <;> first | (exfalso; omega) | (conv => whnf))
      | (refine brB (fun _ => ?_) (fun _ => ?_) <;> conv => whnf))
    all_goals first | contradiction | exact RetG.drop rfl rfl rfl ⟨rfl, rfl, rfl⟩
  rw [if_neg k0] at ht ⊢
  by_cases k1 : k = 1
  · subst k1
    rw [own_1 hn] at ho
    have hn01 : n = 0 ∨ n = 1 := by
      by_cases h : n = 0 ∨ n = 1
      · exact h
      · rw [if_neg h] at ho; exact absurd ho (by decide)
    rw [if_pos rfl]
    rcases hn01 with rfl | rfl
    · conv => whnf
      repeat' (first
        | (refine And.intro W1 ?_; conv => whnf)
        | (refine brD (fun _ => ?_) (fun _ => ?_) <;> first | (exfalso; omega) | (conv => whnf))
        | (refine brB (fun _ => ?_) (fun _ => ?_) <;> conv => whnf))
      all_goals first | contradiction | exact RetG.drop rfl rfl rfl ⟨rfl, rfl, rfl⟩
    · conv => whnf
      repeat' (first
        | (refine And.intro W1 ?_; conv => whnf)
        | (refine brD (fun _ => ?_) (fun _ => ?_) <;> first | (exfalso; omega) | (conv => whnf))
        | (refine brB (fun _ => ?_) (fun _ => ?_) <;> conv => whnf))
      all_goals first | contradiction | exact RetG.drop rfl rfl rfl ⟨rfl, rfl, rfl⟩
  rw [if_neg k1] at ht ⊢
  by_cases k2 : k = 2
  · subst k2
    rw [if_pos rfl] at ht ⊢
    have hm := hf (.inl rfl)
    have hP := print61 hE f hm
    unfold numT at ht ⊢
    generalize printL f = pf at *
    by_cases hz : n = 0 ∧ f.tmod 1000 = 0
    · rw [if_pos hz] at ht ⊢
      obtain ⟨rfl, hz⟩ := hz
      simp only [List.length_append, List.length_cons, List.length_nil] at ht
      conv => whnf
      repeat' (first
        | (refine And.intro W1 ?_; conv => whnf)
        | (refine brD (fun _ => ?_) (fun _ => ?_) <;> first | (exfalso; omega) | (conv => whnf))
        | (refine brB (fun _ => ?_) (fun _ => ?_) <;> conv => whnf)
        | ((first | refine CallG.e hP ?_ | refine CallD.e hP ?_ | refine CallQ.e hP ?_ | refine CallP.e hP ?_); conv => whnf))
      all_goals first | contradiction | exact RetG.drop rfl rfl rfl ⟨rfl, rfl, rfl⟩
    · rw [if_neg hz] at ht ⊢
      conv => whnf
      repeat' (first
        | (refine And.intro W1 ?_; conv => whnf)
        | (refine brD (fun _ => ?_) (fun _ => ?_) <;> first | (exfalso; omega) | (conv => whnf))
        | (refine brB (fun _ => ?_) (fun _ => ?_) <;> conv => whnf)
        | ((first | refine CallG.e hP ?_ | refine CallD.e hP ?_ | refine CallQ.e hP ?_ | refine CallP.e hP ?_); conv => whnf))
      all_goals first | contradiction | (exfalso; exact hz ⟨by assumption, by assumption⟩) | exact RetG.drop rfl rfl rfl ⟨rfl, rfl, rfl⟩
  rw [if_neg k2] at ht ⊢
  by_cases k3 : k = 3
  · subst k3
    rw [if_pos rfl] at ht ⊢
    have hN := rnameOf hE s hs
    generalize 47 :: (s.map nameC).flatten = N at *
    conv => whnf
    repeat' (first
      | (refine And.intro W1 ?_; conv => whnf)
      | (refine brD (fun _ => ?_) (fun _ => ?_) <;> first | (exfalso; omega) | (conv => whnf))
      | (refine brB (fun _ => ?_) (fun _ => ?_) <;> conv => whnf)
      | ((first | refine CallG.e hN ?_ | refine CallD.e hN ?_ | refine CallQ.e hN ?_ | refine CallP.e hN ?_); conv => whnf))
    all_goals first | contradiction | exact RetG.drop rfl rfl rfl ⟨rfl, rfl, rfl⟩
  rw [if_neg k3] at ht ⊢
  by_cases k4 : k = 4
  · subst k4
    rw [if_pos rfl] at ht ⊢
    have hQ := rquote hE s hs
    generalize 40 :: (s.map quoteC).flatten ++ [41] = N at *
    conv => whnf
    repeat' (first
      | (refine And.intro W1 ?_; conv => whnf)
      | (refine brD (fun _ => ?_) (fun _ => ?_) <;> first | (exfalso; omega) | (conv => whnf))
      | (refine brB (fun _ => ?_) (fun _ => ?_) <;> conv => whnf)
      | ((first | refine CallG.e hQ ?_ | refine CallD.e hQ ?_ | refine CallQ.e hQ ?_ | refine CallP.e hQ ?_); conv => whnf))
    all_goals first | contradiction | exact RetG.drop rfl rfl rfl ⟨rfl, rfl, rfl⟩
  rw [if_neg k4] at ht ⊢
  by_cases k7 : k = 7
  · subst k7
    rw [if_pos rfl] at ht ⊢
    have hm := hf (.inr rfl)
    rw [own_7] at ho
    have hb : 0 ≤ n ∧ n ≤ 2147483 := by
      split at ho
      · exact absurd ho (by decide)
      · rename_i a
        split at ho
        · exact absurd ho (by decide)
        · rename_i b
          have a1 : ¬ n < 0 := fun h => a (.inl h)
          have b1 : ¬ n > 2147483 := fun h => b (.inr h)
          omega
    obtain ⟨e1, e2⟩ := itoa_print hb.1 hb.2
    have hP := print61 hE f hm
    have hP2 := print61 hE (n * 1000) e2
    rw [e1] at hP2
    have hi : inI64 (n * 1000) := by unfold inI64; omega
    generalize printL f = pf at *
    generalize Lib.itoa n = I at *
    simp only [List.length_append, List.length_cons, List.length_nil] at ht
    conv => whnf
    repeat' (first
      | (refine And.intro W1 ?_; conv => whnf)
      | (refine brD (fun _ => ?_) (fun _ => ?_) <;> first | (exfalso; omega) | (conv => whnf))
      | (refine brB (fun _ => ?_) (fun _ => ?_) <;> conv => whnf)
      | ((first | refine CallG.e hP2 ?_ | refine CallD.e hP2 ?_ | refine CallQ.e hP2 ?_ | refine CallP.e hP2 ?_); conv => whnf)
      | ((first | refine CallG.e hP ?_ | refine CallD.e hP ?_ | refine CallQ.e hP ?_ | refine CallP.e hP ?_); conv => whnf)
      | ((first | refine CallG.e hi ?_ | refine CallD.e hi ?_ | refine CallQ.e hi ?_ | refine CallP.e hi ?_); conv => whnf))
    all_goals first | contradiction | exact RetG.drop rfl rfl rfl ⟨rfl, rfl, rfl⟩
  have : k < 0 ∨ 8 < k := by omega
  rw [own_out this] at ho
  exact absurd ho (by decide)
end Ink.D
