import Derived.Test.YtogcalejbddjjaaGreatDoorTyWH
import Derived.Test.YtogcalejbddjjaaGreatDoorPCosE
import Derived.Test.YtogcalejbddjjaaGreatDoorPWrB
set_option linter.all false
namespace Ink.D
open Go Go.Proofs
set_option maxRecDepth 100000
variable {E : Env} (hE : E.P = Tryz.prog)

/-! the law WriteIs -/
theorem bulkD_app (a b : List (List UInt8 × Ob)) : bulkD (a ++ b) = bulkD a + bulkD b := by
  induction a with
  | nil => simp [bulkD]
  | cons e a ih => rw [List.cons_append, bulkD, bulkD, ih]; omega
theorem bulkD_drop (key : List UInt8) : ∀ d : List (List UInt8 × Ob), bulkD (dropD key d) ≤ bulkD d
  | [] => by simp [dropD]
  | e :: d => by
    have := bulkD_drop key d
    unfold dropD at this ⊢
    rw [List.filter_cons]
    split
    · rw [bulkD, bulkD]; omega
    · rw [bulkD]; omega
theorem bulkD_set (d : List (List UInt8 × Ob)) (key : List UInt8) (v : Ob) : bulkD (setD d key v) ≤ bulkD d + (key.length + bulkO v) := by
  have h := bulkD_drop key d
  unfold setD
  split
  · omega
  · split
    · rw [bulkD_app]; simp [bulkD, bulkE]; omega
    · have e : bulkD (insD (ixK key d 0).toNat (key, v) (dropD key d)) = bulkD (dropD key d) + (key.length + bulkO v) := by
        rw [insD, bulkD_app, bulkD]
        conv => rhs; rw [← List.take_append_drop (ixK key d 0).toNat (dropD key d), bulkD_app]
        simp only [bulkE]; omega
      omega
theorem setD_mem {d : List (List UInt8 × Ob)} {key : List UInt8} {v : Ob} {e : List UInt8 × Ob} (h : e ∈ setD d key v) : e ∈ d ∨ e = (key, v) := by
  have hdr : ∀ x, x ∈ dropD key d → x ∈ d := fun x hx => (List.mem_filter.1 hx).1
  unfold setD at h
  split at h
  · exact .inl (hdr _ h)
  · split at h
    · rcases List.mem_append.1 h with h | h
      · exact .inl (hdr _ h)
      · exact .inr (by simpa using h)
    · unfold insD at h
      rcases List.mem_append.1 h with h | h
      · exact .inl (hdr _ (List.mem_of_mem_take h))
      · rcases List.mem_cons.1 h with h | h
        · exact .inr h
        · exact .inl (hdr _ (List.mem_of_mem_drop h))
theorem okWd_iff {d : List (List UInt8 × Ob)} (h : ∀ e ∈ d, e.1.length < 1000000 ∧ okW e.2 = true) : okWd d = true := by
  induction d with
  | nil => rfl
  | cons e d ih =>
    obtain ⟨a, o⟩ := e
    have h1 := h (a, o) (List.mem_cons_self ..)
    simp only [okWd, okWe, Bool.and_eq_true, decide_eq_true_eq]
    exact ⟨h1, ih fun x hx => h x (List.mem_cons_of_mem _ hx)⟩
theorem okW_num {n : Int} (h0 : 0 ≤ n) (h1 : n ≤ 100000) : okW (numI n) = true := by
  have m : mayF (1000 * n) = true := by unfold mayF; simp; omega
  unfold okW
  rw [m]
  simp [okWs, big]
theorem sane_num {n : Int} (h0 : 0 ≤ n) (h1 : n ≤ 100000) (deep : Int) : saneF (numI n) deep = 0 := by
  have m : mayF (1000 * n) = true := by unfold mayF; simp; omega
  have t : (1000 * n).tmod 1000 = 0 := by rw [Int.tmod_eq_emod_of_nonneg (by omega)]; omega
  rw [saneF_own, own_2 (by unfold inI64; omega), m, t]
  simp

theorem sized_ok {k n f : Int} {s : List UInt8} {l d : _} (hk : k = 8) (hok : okW (.mk k n f s l d) = true) (hw : wfO (.mk k n f s l d)) (hb : bulkO (.mk k n f s l d) ≤ 3000) :
    okW (.mk 6 0 0 [] [] (dS d s.length)) = true ∧ (txt (.mk 6 0 0 [] [] (dS d s.length))).length < 100000000 := by
  obtain ⟨o1, o2, o3, o4, o5, o6⟩ := okW_parts hok
  have hd := okWd_mem (o6 (by omega))
  simp only [bulkO] at hb
  have hl := setD_len d lenK (numI s.length)
  have hbk := bulkD_set d lenK (numI s.length)
  have hb1 : bulkO (numI s.length) = 1 := by simp [bulkO, bulkL, bulkD]
  have hlk : lenK.length = 6 := rfl
  have ho : okW (.mk 6 0 0 [] [] (dS d s.length)) = true := by
    have h1 : okWd (dS d s.length) = true := okWd_iff fun e he => by
      rcases setD_mem he with he | rfl
      · exact hd e he
      · exact ⟨by show lenK.length < 1000000; decide, okW_num (by omega) (by omega)⟩
    have h2 : (dS d s.length).length < big := by
      have h3 := count_bulk _ (.mk k n f s l d) (Nat.lt_succ_self _)
      have h4 := countD_len d
      simp only [countO, bulkO] at h3
      unfold dS big
      omega
    unfold okW
    simp [h1, h2, okWs, big]
  refine ⟨ho, ?_⟩
  have hwd : wfDs d := by
    simp only [wfO] at hw
    exact hw.2.2.2.2.2.2.2
  have hw2 : wfO (.mk 6 0 0 [] [] (dS d s.length)) := by
    simp only [wfO]
    refine ⟨by unfold inI64; omega, by unfold inI64; omega, by unfold inI64; omega, by decide, by decide, ?_, trivial, wfDs_iff.2 fun e he => ?_⟩
    · have h3 := count_bulk _ (.mk k n f s l d) (Nat.lt_succ_self _)
      have h4 := countD_len d
      simp only [countO, bulkO] at h3
      unfold dS
      omega
    · rcases setD_mem he with he | rfl
      · exact wfDs_iff.1 hwd e he
      · refine ⟨by show lenK.length ≤ 140737488351232; decide, ?_⟩
        simp only [wfO]
        exact ⟨by unfold inI64; omega, by unfold inI64; omega, by unfold inI64; omega, by decide, by decide, by decide, trivial, trivial⟩
  have := txt_len _ _ (Nat.lt_succ_self _) ho hw2
  simp only [bulkO, bulkL, List.length_nil] at this
  unfold dS at this ⊢
  omega

include hE
set_option maxHeartbeats 2000000 in
theorem sized54 {k n f : Int} {s : List UInt8} {l d : _} (hk : k = 8) (hs : saneF (.mk k n f s l d) 0 = 0) (hok : okW (.mk k n f s l d) = true) (hw : wfO (.mk k n f s l d)) (hb : bulkO (.mk k n f s l d) ≤ 3000) :
    PCalls E 54 [.agg (obC (.mk 6 0 0 [] [] (dS d s.length)))] (· = .str (txt (.mk 6 0 0 [] [] (dS d s.length)))) := by
  obtain ⟨ho, ht⟩ := sized_ok hk hok hw hb
  obtain ⟨o1, o2, o3, o4, o5, o6⟩ := okW_parts ho
  obtain ⟨p1, p2, p3, p4, p5, p6⟩ := okW_parts hok
  have hd := okWd_mem (o6 (by decide))
  have hsd := saneFd_mem ((saneF_parts hs).2.2 (.inr hk))
  have hcd := count_bulk _ (.mk k n f s l d) (Nat.lt_succ_self _)
  simp only [countO] at hcd
  simp only [bulkO] at hb hcd
  have e : txt (.mk 6 0 0 [] [] (dS d s.length)) = [60, 60] ++ joinT ((dS d s.length).map txtE) ++ [62, 62] := by rw [txt, txtD_map]; rfl
  rw [e] at ht ⊢
  refine object6 hE 0 0 [] [] _ o4 (by omega) (fun e he => (hd e he).1) fun e he => ?_
  have h2 := txtD_le he
  simp only [List.length_append, List.length_cons, List.length_nil] at ht
  have hok2 := (hd e he).2
  rcases setD_mem he with he | rfl
  · have h3 := hsd e he
    have h4 := countD_mem he
    exact object54 hE _ e.2 (Nat.lt_succ_self _) hok2 (by unfold big; omega) (0 + 1) (by omega) h3 (not8 h3 (by omega)) (by omega)
  · exact object54 hE _ _ (Nat.lt_succ_self _) hok2 (by simp [countO, countL, countD, big]) 0 (by omega) (sane_num (by omega) (by omega) 0) (by simp [Ob.kind]) (by omega)

set_option maxHeartbeats 2000000 in
theorem writeIs (hT : TabE E) (n g : Int) (o : Ob) (ho : wfO o) : PCalls E 3 [.int .i64 n, .int .i64 g, .agg (obC o)] (· = .bool true) := by
  have hA := awake5 hE hT
  have hF := few37 hE o ho 3000 (by decide) (by decide)
  have sa := few_bulk _ o 3000 0 (Nat.lt_succ_self _)
  generalize fewO o 3000 0 = fa at *
  have hbA := fun n0 => obC_hb (n0 := n0) o
  by_cases g1 : 0 ≤ fa
  · have sa := sa g1
    rw [decide_eq_true g1] at hF
    have ca := count_bulk _ o (Nat.lt_succ_self _)
    have hcb : countO o < big := by unfold big; omega
    have hokw : saneF o 0 = 0 → okW o = true ∧ (txt o).length < 100000000 := fun h => by
      have h1 := okW_of _ o 0 (Nat.lt_succ_self _) h (by omega)
      have h2 := txt_len _ o (Nat.lt_succ_self _) h1 ho
      exact ⟨h1, by omega⟩
    have hs0 : errF o = 0 → saneF o 0 = 0 := fun h => by
      unfold errF at h
      split at h
      · exact h
      · rename_i hh; exact Decidable.not_not.mp hh
    have hok : errF o = 0 → okW o = true ∧ (txt o).length < 1000000000 := fun h => by
      obtain ⟨a, b⟩ := hokw (hs0 h)
      exact ⟨a, by omega⟩
    have c1 := objectR hE hT o hcb hok
    have c2 := object20 hE o hcb hok
    have c5 := saneF60 hE o hcb
    have c6 := sane24 hE o hcb
    obtain ⟨k, n', f, s, l_, d, hoe⟩ : ∃ k n' f s l_ d, o = .mk k n' f s l_ d := by cases o; exact ⟨_, _, _, _, _, _, rfl⟩
    have hsl : s.length ≤ 100000 := by subst hoe; simp only [bulkO] at sa; omega
    have c3 := indirectA hE hT n g o k n' f s l_ d hoe hcb hsl (fun h _ => hokw h) (fun h h8 => by
      subst hoe; exact sized_ok h8 (hokw h).1 ho (by omega))
    have c4 := indirectR hE n g o k n' f s l_ d hoe hcb hsl (fun h h8 => by
      obtain ⟨a, b⟩ := hokw h
      exact ⟨object54 hE _ o (Nat.lt_succ_self _) a hcb 0 (by omega) h (by subst hoe; exact h8) (by omega), b⟩) (fun h h8 => by
      subst hoe
      exact ⟨sized54 hE h8 h (hokw h).1 ho (by omega), (sized_ok h8 (hokw h).1 ho (by omega)).2⟩)
    unfold indI at c3 c4
    generalize (if mayI n g k s d (saneF o 0) = 0 then headT n g ++ bodyT k s d (txt o) ++ [10, 101, 110, 100, 111, 98, 106, 10] else []) = R1 at *
    generalize mayI n g k s d (saneF o 0) = R2 at *
    generalize resT o = R3 at *
    generalize errF o = R4 at *
    generalize saneF o 0 = R5 at *
    subst hoe
    unfold obC at *
    refine p3 hE (fun l => ?_) (by simp [hbL, hb] at hbA ⊢; simp [hbA])
    conv => whnf
    repeat' (first
      | (refine And.intro W1 ?_; conv => whnf)
      | (refine brD (fun _ => ?_) (fun _ => ?_) <;> first | (exfalso; omega) | (conv => whnf))
      | (refine brB (fun _ => ?_) (fun _ => ?_) <;> conv => whnf)
      | ((first | refine CallG.e hA ?_ | refine CallD.e hA ?_ | refine CallQ.e hA ?_ | refine CallP.e hA ?_); conv => whnf)
      | ((first | refine CallG.e hF ?_ | refine CallD.e hF ?_ | refine CallQ.e hF ?_ | refine CallP.e hF ?_); conv => whnf)
      | ((first | refine CallG.e c1 ?_ | refine CallD.e c1 ?_ | refine CallQ.e c1 ?_ | refine CallP.e c1 ?_); conv => whnf)
      | ((first | refine CallG.e c2 ?_ | refine CallD.e c2 ?_ | refine CallQ.e c2 ?_ | refine CallP.e c2 ?_); conv => whnf)
      | ((first | refine CallG.e c3 ?_ | refine CallD.e c3 ?_ | refine CallQ.e c3 ?_ | refine CallP.e c3 ?_); conv => whnf)
      | ((first | refine CallG.e c4 ?_ | refine CallD.e c4 ?_ | refine CallQ.e c4 ?_ | refine CallP.e c4 ?_); conv => whnf)
      | ((first | refine CallG.e c5 ?_ | refine CallD.e c5 ?_ | refine CallQ.e c5 ?_ | refine CallP.e c5 ?_); conv => whnf)
      | ((first | refine CallG.e c6 ?_ | refine CallD.e c6 ?_ | refine CallQ.e c6 ?_ | refine CallP.e c6 ?_); conv => whnf))
    all_goals first | contradiction | exact RetG.drop rfl rfl rfl ⟨rfl, by simp_all, rfl⟩
  · rw [decide_eq_false g1] at hF
    obtain ⟨k, n', f, s, l_, d⟩ := o
    unfold obC at *
    refine p3 hE (fun l => ?_) (by simp [hbL, hb] at hbA ⊢; simp [hbA])
    conv => whnf
    repeat' (first
      | (refine And.intro W1 ?_; conv => whnf)
      | (refine brD (fun _ => ?_) (fun _ => ?_) <;> first | (exfalso; omega) | (conv => whnf))
      | (refine brB (fun _ => ?_) (fun _ => ?_) <;> conv => whnf)
      | ((first | refine CallG.e hA ?_ | refine CallD.e hA ?_ | refine CallQ.e hA ?_ | refine CallP.e hA ?_); conv => whnf)
      | ((first | refine CallG.e hF ?_ | refine CallD.e hF ?_ | refine CallQ.e hF ?_ | refine CallP.e hF ?_); conv => whnf))
    all_goals first | contradiction | exact RetG.drop rfl rfl rfl ⟨rfl, rfl, rfl⟩
end Ink.D
