import Derived.Test.YtogcalejbddjjaaGreatDoorTyV1
import Derived.Test.YtogcalejbddjjaaGreatDoorPWrB
set_option linter.all false
namespace Ink.D
open Go Go.Proofs
set_option maxRecDepth 100000
set_option linter.unusedSimpArgs false
set_option linter.unusedVariables false
variable {E : Env} (hE : E.P = Tryz.prog)

theorem noRef_end {s : List UInt8} (q : Nat) (h : q = s.length) : noRef s q := by
  have hd : s.drop q = [] := List.drop_eq_nil_of_le (by omega)
  have hn := nx_end hd (by omega)
  exact noRef_kind (by rw [hn]; simp)

theorem back0 {o : Ob} (hp : plainO o = true) (hs : errF o = 0) (hw : wfO o) : parseR (txt o) 0 = (o, ((txt o).length : Int), 0) := by
  have h0 : saneF o 0 = 0 ∧ o.kind ≠ 8 := by
    unfold errF at hs
    by_cases h : saneF o 0 = 0
    · rw [if_neg (by simp [h])] at hs
      exact ⟨h, fun h8 => by rw [if_pos h8] at hs; exact absurd hs (by decide)⟩
    · rw [if_pos h] at hs; exact absurd hs h
  have := back _ o 64 0 (txt o) [] 0 (Nat.lt_succ_self _) (by omega) (by omega) ⟨hp, h0.1, hw, h0.2⟩ tailN_nil (by simp) (fun _ => noRef_end _ (by simp))
  unfold parseR
  rw [show (0 : Int) = ((0 : Nat) : Int) from rfl, this]
  simp

include hE
theorem objectV (hT : TabE E) (o : Ob) (hc : countO o < big) (hok : errF o = 0 → okW o = true ∧ (txt o).length < 1000000000) : PCalls E 19 [.agg (obC o)] (· = .tup [.str (resT o), .int .i64 (errF o)]) := by
  have := objectF hE hT o hc hok
  rwa [objAVF_eq] at this

set_option maxHeartbeats 2000000 in
theorem writeBack (hT : TabE E) (o : Ob) (ho : wfO o) : PCalls E 4 [.agg (obC o)] (· = .bool true) := by
  have hA := awake5 hE hT
  have hF := few37 hE o ho 3000 (by decide) (by decide)
  have sa := few_bulk _ o 3000 0 (Nat.lt_succ_self _)
  generalize fewO o 3000 0 = fa at *
  have hbA := fun n0 => obC_hb (n0 := n0) o
  by_cases g1 : 0 ≤ fa
  · have sa := sa g1
    rw [decide_eq_true g1] at hF
    have ca := count_bulk _ o (Nat.lt_succ_self _)
    have hP := plain25 hE _ o (Nat.lt_succ_self _) (by unfold big; omega)
    cases hp : plainO o with
    | false =>
      rw [hp] at hP
      obtain ⟨k, n, f, s, l_, d⟩ := o
      unfold obC at *
      refine p4 hE (fun l => ?_) (by simp [hbL, hb] at hbA ⊢; simp [hbA])
      conv => whnf
      repeat' (first
        | (refine And.intro ?_ ?_; (focus (first | omega | decide | (unfold inI64; omega) | (simp only [List.length_append, List.length_cons, List.length_nil] <;> omega) | (refine ⟨?_, ?_⟩ <;> omega) | (refine ⟨?_, ?_, ?_, ?_, ?_, ?_⟩ <;> first | rfl | trivial | decide | omega | (simp [bytesAV_length] <;> omega)) | (simp <;> omega) | (unfold inI64; simp only [List.length_append, List.length_cons, List.length_nil] <;> omega))); conv => whnf)
        | (refine brD (fun _ => ?_) (fun _ => ?_) <;> first | (exfalso; omega) | (conv => whnf))
        | (refine brB (fun _ => ?_) (fun _ => ?_) <;> conv => whnf)
        | ((first | refine CallG.e (hA) ?_ | refine CallD.e (hA) ?_ | refine CallQ.e (hA) ?_ | refine CallP.e (hA) ?_); conv => whnf)
        | ((first | refine CallG.e (hF) ?_ | refine CallD.e (hF) ?_ | refine CallQ.e (hF) ?_ | refine CallP.e (hF) ?_); conv => whnf)
        | ((first | refine CallG.e (hP) ?_ | refine CallD.e (hP) ?_ | refine CallQ.e (hP) ?_ | refine CallP.e (hP) ?_); conv => whnf))
      all_goals exact RetG.drop rfl rfl rfl ⟨rfl, rfl, rfl⟩
    | true =>
      rw [hp] at hP
      have hO := objectV hE hT o (by unfold big; omega) (ok_few ho (by omega))
      have hS := saneF60 hE o (by unfold big; omega)
      by_cases hz : errF o = 0
      · have hb2 := back0 hp hz ho
        have hk := (ok_few ho (by omega) hz).1
        have hl := txt_len _ o (Nat.lt_succ_self _) hk ho
        have hR := parse31 hE (txt o) 0 (by omega)
        rw [hb2] at hR
        have hX := exact8 hE _ o o (Nat.lt_succ_self _) (by unfold big; omega) (by unfold big; omega)
        rw [ex_refl _ o (Nat.lt_succ_self _)] at hX
        have r1 : resT o = txt o := by unfold resT; rw [if_pos hz]
        rw [r1, hz] at hO
        clear hS hb2 hp r1
        generalize txt o = T at *
        obtain ⟨k, n, f, s, l_, d⟩ := o
        unfold obC at *
        refine p4 hE (fun l => ?_) (by simp [hbL, hb] at hbA ⊢; simp [hbA])
        conv => whnf
        repeat' (first
          | (refine And.intro ?_ ?_; (focus (first | omega | decide | (unfold inI64; omega) | (simp only [List.length_append, List.length_cons, List.length_nil] <;> omega) | (refine ⟨?_, ?_⟩ <;> omega) | (refine ⟨?_, ?_, ?_, ?_, ?_, ?_⟩ <;> first | rfl | trivial | decide | omega | (simp [bytesAV_length] <;> omega)) | (simp <;> omega) | (unfold inI64; simp only [List.length_append, List.length_cons, List.length_nil] <;> omega))); conv => whnf)
          | (refine brD (fun _ => ?_) (fun _ => ?_) <;> first | (exfalso; omega) | (conv => whnf))
          | (refine brB (fun _ => ?_) (fun _ => ?_) <;> conv => whnf)
          | ((first | refine CallG.e (hA) ?_ | refine CallD.e (hA) ?_ | refine CallQ.e (hA) ?_ | refine CallP.e (hA) ?_); conv => whnf)
          | ((first | refine CallG.e (hF) ?_ | refine CallD.e (hF) ?_ | refine CallQ.e (hF) ?_ | refine CallP.e (hF) ?_); conv => whnf)
          | ((first | refine CallG.e (hP) ?_ | refine CallD.e (hP) ?_ | refine CallQ.e (hP) ?_ | refine CallP.e (hP) ?_); conv => whnf)
          | ((first | refine CallG.e (hO) ?_ | refine CallD.e (hO) ?_ | refine CallQ.e (hO) ?_ | refine CallP.e (hO) ?_); conv => whnf)
          | ((first | refine CallG.e (hR) ?_ | refine CallD.e (hR) ?_ | refine CallQ.e (hR) ?_ | refine CallP.e (hR) ?_); conv => whnf)
          | ((first | refine CallG.e (hX) ?_ | refine CallD.e (hX) ?_ | refine CallQ.e (hX) ?_ | refine CallP.e (hX) ?_); conv => whnf))
        all_goals first | exact RetG.drop rfl rfl rfl ⟨rfl, congrArg AV.bool (by first | rfl | exact decide_eq_true rfl | exact decide_eq_true (by omega)), rfl⟩ | (rename_i h; exact absurd rfl h)
      · have hcase : errF o = saneF o 0 ∨ o.kind = 8 := by
          unfold errF at hz ⊢
          by_cases h : saneF o 0 = 0
          · right
            rw [if_neg (by simp [h])] at hz
            exact Decidable.byContradiction fun h8 => by rw [if_neg h8] at hz; exact hz rfl
          · left; rw [if_pos h]
        have r1 : resT o = [] := by unfold resT; rw [if_neg hz]
        rw [r1] at hO
        clear hp r1
        generalize errF o = e at *
        generalize saneF o 0 = e2 at *
        obtain ⟨k, n, f, s, l_, d⟩ := o
        unfold Ob.kind at hcase
        simp only at hcase
        unfold obC at *
        refine p4 hE (fun l => ?_) (by simp [hbL, hb] at hbA ⊢; simp [hbA])
        conv => whnf
        repeat' (first
          | (refine And.intro ?_ ?_; (focus (first | omega | decide | (unfold inI64; omega) | (simp only [List.length_append, List.length_cons, List.length_nil] <;> omega) | (refine ⟨?_, ?_⟩ <;> omega) | (refine ⟨?_, ?_, ?_, ?_, ?_, ?_⟩ <;> first | rfl | trivial | decide | omega | (simp [bytesAV_length] <;> omega)) | (simp <;> omega) | (unfold inI64; simp only [List.length_append, List.length_cons, List.length_nil] <;> omega))); conv => whnf)
          | (refine brD (fun _ => ?_) (fun _ => ?_) <;> first | (exfalso; omega) | (conv => whnf))
          | (refine brB (fun _ => ?_) (fun _ => ?_) <;> conv => whnf)
          | ((first | refine CallG.e (hA) ?_ | refine CallD.e (hA) ?_ | refine CallQ.e (hA) ?_ | refine CallP.e (hA) ?_); conv => whnf)
          | ((first | refine CallG.e (hF) ?_ | refine CallD.e (hF) ?_ | refine CallQ.e (hF) ?_ | refine CallP.e (hF) ?_); conv => whnf)
          | ((first | refine CallG.e (hP) ?_ | refine CallD.e (hP) ?_ | refine CallQ.e (hP) ?_ | refine CallP.e (hP) ?_); conv => whnf)
          | ((first | refine CallG.e (hO) ?_ | refine CallD.e (hO) ?_ | refine CallQ.e (hO) ?_ | refine CallP.e (hO) ?_); conv => whnf)
          | ((first | refine CallG.e (hS) ?_ | refine CallD.e (hS) ?_ | refine CallQ.e (hS) ?_ | refine CallP.e (hS) ?_); conv => whnf))
        all_goals first | exact RetG.drop rfl rfl rfl ⟨rfl, congrArg AV.bool (by first | rfl | exact decide_eq_true rfl | exact decide_eq_true (by omega)), rfl⟩ | (rename_i h; exact absurd rfl h)
  · rw [decide_eq_false g1] at hF
    obtain ⟨k, n, f, s, l_, d⟩ := o
    unfold obC at *
    refine p4 hE (fun l => ?_) (by simp [hbL, hb] at hbA ⊢; simp [hbA])
    conv => whnf
    repeat' (first
      | (refine And.intro ?_ ?_; (focus (first | omega | decide | (unfold inI64; omega) | (simp only [List.length_append, List.length_cons, List.length_nil] <;> omega) | (refine ⟨?_, ?_⟩ <;> omega) | (refine ⟨?_, ?_, ?_, ?_, ?_, ?_⟩ <;> first | rfl | trivial | decide | omega | (simp [bytesAV_length] <;> omega)) | (simp <;> omega) | (unfold inI64; simp only [List.length_append, List.length_cons, List.length_nil] <;> omega))); conv => whnf)
      | (refine brD (fun _ => ?_) (fun _ => ?_) <;> first | (exfalso; omega) | (conv => whnf))
      | (refine brB (fun _ => ?_) (fun _ => ?_) <;> conv => whnf)
      | ((first | refine CallG.e (hA) ?_ | refine CallD.e (hA) ?_ | refine CallQ.e (hA) ?_ | refine CallP.e (hA) ?_); conv => whnf)
      | ((first | refine CallG.e (hF) ?_ | refine CallD.e (hF) ?_ | refine CallQ.e (hF) ?_ | refine CallP.e (hF) ?_); conv => whnf))
    all_goals exact RetG.drop rfl rfl rfl ⟨rfl, rfl, rfl⟩
end Ink.D
