import Derived.Test.YtogcalejbddjjaaGreatDoorTyWE
set_option linter.all false
namespace Ink.D
open Go Go.Proofs
set_option maxRecDepth 100000
variable {E : Env} (hE : E.P = Tryz.prog)

theorem saneFs_mem {deep : Int} : ∀ {l : List Ob}, saneFs l deep = 0 → ∀ o ∈ l, saneF o deep = 0
  | [], _, o, h => absurd h (by simp)
  | x :: l, hs, o, h => by
    rw [saneFs] at hs
    by_cases hx : saneF x deep ≠ 0
    · rw [if_pos hx] at hs; exact absurd hs hx
    · rw [if_neg hx] at hs
      rcases List.mem_cons.1 h with rfl | h
      · exact Decidable.not_not.mp hx
      · exact saneFs_mem hs o h
theorem saneFd_mem {deep : Int} : ∀ {d : List (List UInt8 × Ob)}, saneFd d deep = 0 → ∀ e ∈ d, saneF e.2 deep = 0
  | [], _, e, h => absurd h (by simp)
  | (a, x) :: d, hs, e, h => by
    rw [saneFd, saneFe] at hs
    by_cases hx : saneF x deep ≠ 0
    · rw [if_pos hx] at hs; exact absurd hs hx
    · rw [if_neg hx] at hs
      rcases List.mem_cons.1 h with rfl | h
      · exact Decidable.not_not.mp hx
      · exact saneFd_mem hs e h
theorem saneF_parts {k n f : Int} {s : List UInt8} {l : List Ob} {d : List (List UInt8 × Ob)} {deep : Int} (h : saneF (.mk k n f s l d) deep = 0) :
    ownL k n f l.length d deep = 0 ∧ (k = 5 → saneFs l (deep + 1) = 0) ∧ (k = 6 ∨ k = 8 → saneFd d (deep + 1) = 0) := by
  rw [saneF_own] at h
  by_cases ho : ownL k n f l.length d deep ≠ 0
  · rw [if_pos ho] at h; exact absurd h ho
  · rw [if_neg ho] at h
    refine ⟨Decidable.not_not.mp ho, fun h5 => ?_, fun h6 => ?_⟩
    · rw [if_pos h5] at h; exact h
    · rw [if_neg (by omega), if_pos h6] at h; exact h
theorem not8 {o : Ob} {deep : Int} (h : saneF o deep = 0) (hd : 0 < deep) : o.kind ≠ 8 := by
  obtain ⟨k, n, f, s, l, d⟩ := o
  have := (saneF_parts h).1
  intro h8
  have h8 : k = 8 := h8
  subst h8
  rw [own_8, if_pos hd] at this
  exact absurd this (by decide)
theorem okW_parts {k n f : Int} {s : List UInt8} {l : List Ob} {d : List (List UInt8 × Ob)} (h : okW (.mk k n f s l d) = true) :
    ((k = 2 ∨ k = 7) → mayF f = true) ∧ s.length < 1000000 ∧ l.length < big ∧ d.length < big ∧ (k = 5 → okWs l = true) ∧ (¬ (k = 0 ∨ k = 1 ∨ k = 2 ∨ k = 3 ∨ k = 4 ∨ k = 5 ∨ k = 7) → okWd d = true) := by
  unfold okW at h
  simp only [Bool.and_eq_true, Bool.or_eq_true, Bool.not_eq_true', decide_eq_true_eq, decide_eq_false_iff_not] at h
  obtain ⟨⟨⟨⟨⟨h1, h2⟩, h3⟩, h4⟩, h5⟩, h6⟩ := h
  exact ⟨fun hk => h1.resolve_left (fun hn => hn hk), h2, h3, h4, fun hk => h5.resolve_left (fun hn => hn hk), fun hk => h6.resolve_left hk⟩
theorem okWs_mem {l : List Ob} (h : okWs l = true) : ∀ o ∈ l, okW o = true := fun o ho => by
  obtain ⟨x, hx, rfl⟩ := List.mem_iff_getElem.1 ho
  exact okWs_at hx h
theorem okWd_mem {d : List (List UInt8 × Ob)} (h : okWd d = true) : ∀ e ∈ d, e.1.length < 1000000 ∧ okW e.2 = true := fun e he => by
  obtain ⟨x, hx, rfl⟩ := List.mem_iff_getElem.1 he
  have := okWd_at hx h
  generalize d[x] = e at *
  obtain ⟨a, o⟩ := e
  simpa [okWe] using this
theorem txtL_le {l : List Ob} {o : Ob} (h : o ∈ l) : (txt o).length ≤ (joinT (l.map txt)).length := by
  obtain ⟨x, hx, rfl⟩ := List.mem_iff_getElem.1 h
  have := (join_step (l.map txt) (x := x) (by simpa using hx)).2.2.2.2
  simpa using this
theorem txtD_le {d : List (List UInt8 × Ob)} {e : List UInt8 × Ob} (h : e ∈ d) : (txt e.2).length ≤ (joinT (d.map txtE)).length := by
  obtain ⟨x, hx, rfl⟩ := List.mem_iff_getElem.1 h
  have := (join_step (d.map txtE) (x := x) (by simpa using hx)).2.2.2.2
  rw [List.getElem_map] at this
  generalize d[x] = e at *
  obtain ⟨a, o⟩ := e
  rw [txtE] at this
  simp only [List.length_append] at this
  simp only
  omega

include hE
theorem object54 : ∀ (m : Nat) (o : Ob), sizeOf o < m → okW o = true → countO o < big → ∀ deep, 0 ≤ deep → saneF o deep = 0 → o.kind ≠ 8 → (txt o).length < 1000000000 → PCalls E 54 [.agg (obC o)] (· = .str (txt o))
  | 0, _, h, _, _, _, _, _, _, _ => absurd h (Nat.not_lt_zero _)
  | m + 1, .mk k n f s l_ d, hm, hok, hc, deep, hd0, hs, h8, ht => by
    obtain ⟨o1, o2, o3, o4, o5, o6⟩ := okW_parts hok
    obtain ⟨s1, s2, s3⟩ := saneF_parts hs
    have h8 : k ≠ 8 := h8
    have hsz : sizeOf l_ < m ∧ sizeOf d < m := by
      simp only [Ob.mk.sizeOf_spec] at hm
      omega
    have hc' : countL l_ + countD d + 1 < big := by simp only [countO] at hc; omega
    by_cases h5 : k = 5
    · subst h5
      have e : txt (.mk 5 n f s l_ d) = [91] ++ joinT (l_.map txt) ++ [93] := by rw [txt, txtL_map]; rfl
      rw [e] at ht ⊢
      refine object5 hE n f s l_ d o3 ht fun o ho => ?_
      have h1 := List.sizeOf_lt_of_mem ho
      have h2 := txtL_le ho
      have h3 := saneFs_mem (s2 rfl) o ho
      have h4 := countO_mem ho
      simp only [List.length_append, List.length_cons, List.length_nil] at ht
      exact object54 m o (by omega) (okWs_mem (o5 rfl) o ho) (by omega) (deep + 1) (by omega) h3 (not8 h3 (by omega)) (by omega)
    by_cases h6 : k = 6
    · subst h6
      have e : txt (.mk 6 n f s l_ d) = [60, 60] ++ joinT (d.map txtE) ++ [62, 62] := by rw [txt, txtD_map]; rfl
      rw [e] at ht ⊢
      have hw := okWd_mem (o6 (by decide))
      refine object6 hE n f s l_ d o4 ht (fun e he => (hw e he).1) fun e he => ?_
      have h1 := List.sizeOf_lt_of_mem he
      have h1b : sizeOf e.2 < sizeOf e := by obtain ⟨a, o⟩ := e; simp; omega
      have h2 := txtD_le he
      have h3 := saneFd_mem (s3 (.inl rfl)) e he
      have h4 := countD_mem he
      simp only [List.length_append, List.length_cons, List.length_nil] at ht
      exact object54 m e.2 (by omega) (hw e he).2 (by omega) (deep + 1) (by omega) h3 (not8 h3 (by omega)) (by omega)
    exact objectO hE k n f s l_ d o2 deep s1 o1 h5 h6 h8 ht

theorem object20 (o : Ob) (hc : countO o < big) (hok : errF o = 0 → okW o = true ∧ (txt o).length < 1000000000) : PCalls E 20 [.agg (obC o)] (· = .tup [.str (resT o), .int .i64 (errF o)]) := by
  have hS := sane24 hE o hc
  by_cases h0 : errF o = 0
  · obtain ⟨k1, k2⟩ := hok h0
    have hs0 : saneF o 0 = 0 ∧ o.kind ≠ 8 := by
      unfold errF at h0
      split at h0
      · rename_i h; exact absurd h0 h
      · rename_i h
        split at h0
        · omega
        · rename_i h2; exact ⟨Decidable.not_not.mp h, h2⟩
    have hO := object54 hE _ o (Nat.lt_succ_self _) k1 hc 0 (by decide) hs0.1 hs0.2 k2
    have e : resT o = txt o := by unfold resT; rw [if_pos h0]
    rw [e, h0]
    rw [hs0.1] at hS
    generalize txt o = T at *
    refine p20 hE (fun l => ?_) (by simp [hbL, hb, obC_hb])
    cases o with
    | mk k n f s l_ d =>
      have h8 : k ≠ 8 := hs0.2
      unfold obC at hS hO ⊢
      conv => whnf
      repeat' (first
        | (refine And.intro W1 ?_; conv => whnf)
        | (refine brD (fun _ => ?_) (fun _ => ?_) <;> first | (exfalso; omega) | (conv => whnf))
        | (refine brB (fun _ => ?_) (fun _ => ?_) <;> conv => whnf)
        | ((first | refine CallG.e hS ?_ | refine CallD.e hS ?_ | refine CallQ.e hS ?_ | refine CallP.e hS ?_); conv => whnf)
        | ((first | refine CallG.e hO ?_ | refine CallD.e hO ?_ | refine CallQ.e hO ?_ | refine CallP.e hO ?_); conv => whnf))
      all_goals first | contradiction | exact RetG.drop rfl rfl rfl ⟨rfl, rfl, rfl⟩
  · have e : resT o = [] := by unfold resT; rw [if_neg h0]
    rw [e]
    have he : errF o = if saneF o 0 ≠ 0 then saneF o 0 else if o.kind = 8 then 1 else 0 := rfl
    generalize errF o = er at *
    generalize saneF o 0 = sa at *
    refine p20 hE (fun l => ?_) (by simp [hbL, hb, obC_hb])
    cases o with
    | mk k n f s l_ d =>
      have he : er = if sa ≠ 0 then sa else if k = 8 then 1 else 0 := he
      unfold obC at hS ⊢
      by_cases hsa : sa = 0
      · subst hsa
        rw [if_neg (by simp)] at he
        by_cases h8 : k = 8
        · rw [if_pos h8] at he
          subst he h8
          conv => whnf
          repeat' (first
            | (refine And.intro W1 ?_; conv => whnf)
            | (refine brD (fun _ => ?_) (fun _ => ?_) <;> first | (exfalso; omega) | (conv => whnf))
            | (refine brB (fun _ => ?_) (fun _ => ?_) <;> conv => whnf)
            | ((first | refine CallG.e hS ?_ | refine CallD.e hS ?_ | refine CallQ.e hS ?_ | refine CallP.e hS ?_); conv => whnf))
          all_goals first | contradiction | exact RetG.drop rfl rfl rfl ⟨rfl, rfl, rfl⟩
        · rw [if_neg h8] at he
          exact absurd he h0
      · rw [if_pos hsa] at he
        subst he
        conv => whnf
        repeat' (first
          | (refine And.intro W1 ?_; conv => whnf)
          | (refine brD (fun _ => ?_) (fun _ => ?_) <;> first | (exfalso; omega) | (conv => whnf))
          | (refine brB (fun _ => ?_) (fun _ => ?_) <;> conv => whnf)
          | ((first | refine CallG.e hS ?_ | refine CallD.e hS ?_ | refine CallQ.e hS ?_ | refine CallP.e hS ?_); conv => whnf))
        all_goals first | contradiction | exact RetG.drop rfl rfl rfl ⟨rfl, rfl, rfl⟩
end Ink.D
