import Derived.Test.YtipdgghfkdlfmaaGreatDoorPCosC
import Derived.Test.YtipdgghfkdlfmaaGreatDoorPCosE
set_option linter.all false
namespace Ink.D
open Go Go.Proofs
set_option maxRecDepth 100000
set_option linter.unusedSimpArgs false
set_option linter.unusedVariables false
variable {E : Env} (hE : E.P = Tryz.prog)

abbrev rawIn (a : Ob) : AV := .agg [.int .i64 5, .int .i64 0, .int .i64 0, .str [], .imm 6 [obC a], nilA]
abbrev rawDict (d : List (List UInt8 × Ob)) : AV := .agg [.int .i64 6, .int .i64 0, .int .i64 0, .str [], nilA, .imm 7 (obD d)]
theorem pubIn {H : List Blk} {m : Nat} (a : Ob) : Pub H m (rawIn a) (.agg (obC (.mk 5 0 0 [] [a] []))) :=
  Pub.aggL ⟨.same _ rfl, .same _ rfl, .same _ rfl, .same _ rfl, .same _ (by simp [hb, hbLL, obC_hb]), .nil _ _, trivial⟩ (obC_sc _)
theorem pubDict {H : List Blk} {m : Nat} (d : List (List UInt8 × Ob)) : Pub H m (rawDict d) (.agg (obC (.mk 6 0 0 [] [] d))) :=
  Pub.aggL ⟨.same _ rfl, .same _ rfl, .same _ rfl, .same _ rfl, .nil _ _, .same _ (by simp [hb, obD_hb]), trivial⟩ (obC_sc _)

include hE
set_option maxHeartbeats 4000000 in
theorem cosSame (a b : Ob) (ha : wfO a) (hb_ : wfO b) (key : List UInt8) (hk0 : key.length ≤ 9223372036854775807) : PCalls E 4 [.agg (obC a), .agg (obC b), .str key] (· = .bool true) := by
  have hA := awake30 hE
  have hFa := few37 hE a ha 2000 (by decide) (by decide)
  have hFb := few37 hE b hb_ 2000 (by decide) (by decide)
  have sa := few_small _ a 2000 0 (Nat.lt_succ_self _)
  have sb := few_small _ b 2000 0 (Nat.lt_succ_self _)
  generalize fewO a 2000 0 = fa at *
  generalize fewO b 2000 0 = fb at *
  have hbA := fun n0 => obC_hb (n0 := n0) a
  have hbB := fun n0 => obC_hb (n0 := n0) b
  by_cases hg : 0 ≤ fa ∧ 0 ≤ fb ∧ key.length ≤ 300
  · obtain ⟨g1, g2, g3⟩ := hg
    have sa := sa g1
    have sb := sb g2
    have ca : countO a < big := by unfold big; omega
    have cb : countO b < big := by unfold big; omega
    have hne : key ≠ key ++ [120] := fun h => by
      have := congrArg List.length h
      simp at this
    have cin : countO (.mk 5 0 0 [] [a] []) = countO a + 1 := by simp [countO, countL, countD]; omega
    have cd : countO (.mk 6 0 0 [] [] [(key, a), (key ++ [120], b)]) = countO a + countO b + 1 := by simp [countO, countL, countD, countE]; omega
    have ce : countO (.mk 6 0 0 [] [] [(key ++ [120], b), (key, a)]) = countO a + countO b + 1 := by simp [countO, countL, countD, countE]; omega
    have h1 := same50 hE _ a a (Nat.lt_succ_self _) ca ca
    rw [same_refl _ a (Nat.lt_succ_self _)] at h1
    have h2 := same50 hE _ a b (Nat.lt_succ_self _) ca cb
    have h3 := same50 hE _ b a (Nat.lt_succ_self _) cb ca
    rw [← same_symm a b] at h3
    have h4 := same50 hE _ a (.mk 5 0 0 [] [a] []) (Nat.lt_succ_self _) ca (by rw [cin]; unfold big; omega)
    rw [same_in _ a (Nat.lt_succ_self _)] at h4
    have h5 := same50 hE _ (.mk 6 0 0 [] [] [(key, a), (key ++ [120], b)]) (.mk 6 0 0 [] [] [(key ++ [120], b), (key, a)]) (Nat.lt_succ_self _) (by rw [cd]; unfold big; omega) (by rw [ce]; unfold big; omega)
    rw [same_two key (key ++ [120]) a b hne] at h5
    have h6 := count32 hE _ (.mk 5 0 0 [] [a] []) (Nat.lt_succ_self _) (by rw [cin]; unfold big; omega)
    rw [cin] at h6
    have h7 := count32 hE _ a (Nat.lt_succ_self _) ca
    have h8 := count32 hE _ (.mk 6 0 0 [] [] [(key, a), (key ++ [120], b)]) (Nat.lt_succ_self _) (by rw [cd]; unfold big; omega)
    rw [cd] at h8
    have h9 := count32 hE _ b (Nat.lt_succ_self _) cb
    have h4r := h4.pub (args' := [.agg (obC a), rawIn a]) (fun n => ⟨.same _ (by simp [hb, hbA]), pubIn a, trivial⟩)
    have h5r := h5.pub (args' := [rawDict [(key, a), (key ++ [120], b)], rawDict [(key ++ [120], b), (key, a)]]) (fun n => ⟨pubDict _, pubDict _, trivial⟩)
    have h6r := h6.pub (args' := [rawIn a]) (fun n => ⟨pubIn a, trivial⟩)
    have h8r := h8.pub (args' := [rawDict [(key, a), (key ++ [120], b)]]) (fun n => ⟨pubDict _, trivial⟩)
    rw [decide_eq_true g1] at hFa
    rw [decide_eq_true g2] at hFb
    have hi1 : inI64 ((countO a : Int) + 1) := by unfold inI64; omega
    have hi2 : inI64 ((countO a : Int) + (countO b : Int)) := by unfold inI64; omega
    have hi3 : inI64 ((countO a : Int) + (countO b : Int) + 1) := by unfold inI64; omega
    clear h4 h5 h6 h8 cin cd ce hne sa sb ca cb
    generalize sameO a b = y at *
    generalize countO a = na at *
    generalize countO b = nb at *
    obtain ⟨ak, an, af_, as_, al, ad⟩ := a
    obtain ⟨bk, bn, bf, bs, bl, bd⟩ := b
    unfold rawIn rawDict at *
    unfold obD obE obD obE obD at *
    unfold obC at *
    refine p4 hE (fun l => ?_) (by simp [hbL, hb] at hbA hbB ⊢; simp [hbA, hbB])
    cases y with
    | true =>
      conv => whnf
      repeat' (first
        | (refine And.intro ?_ ?_; (focus (first | omega | decide | (unfold inI64; omega) | (simp only [List.length_append, List.length_cons, List.length_nil] <;> omega) | (refine ⟨?_, ?_⟩ <;> omega) | (refine ⟨?_, ?_, ?_, ?_, ?_, ?_⟩ <;> first | rfl | trivial | decide | omega | (simp [bytesAV_length] <;> omega)) | (simp <;> omega) | (unfold inI64; simp only [List.length_append, List.length_cons, List.length_nil] <;> omega))); conv => whnf)
        | (refine brD (fun _ => ?_) (fun _ => ?_) <;> first | (exfalso; omega) | (conv => whnf))
        | (refine brB (fun _ => ?_) (fun _ => ?_) <;> conv => whnf)
        | ((first | refine CallG.e (hA) ?_ | refine CallD.e (hA) ?_ | refine CallQ.e (hA) ?_ | refine CallP.e (hA) ?_); conv => whnf)
        | ((first | refine CallG.e (hFa) ?_ | refine CallD.e (hFa) ?_ | refine CallQ.e (hFa) ?_ | refine CallP.e (hFa) ?_); conv => whnf)
        | ((first | refine CallG.e (hFb) ?_ | refine CallD.e (hFb) ?_ | refine CallQ.e (hFb) ?_ | refine CallP.e (hFb) ?_); conv => whnf)
        | ((first | refine CallG.e (h1) ?_ | refine CallD.e (h1) ?_ | refine CallQ.e (h1) ?_ | refine CallP.e (h1) ?_); conv => whnf)
        | ((first | refine CallG.e (h2) ?_ | refine CallD.e (h2) ?_ | refine CallQ.e (h2) ?_ | refine CallP.e (h2) ?_); conv => whnf)
        | ((first | refine CallG.e (h3) ?_ | refine CallD.e (h3) ?_ | refine CallQ.e (h3) ?_ | refine CallP.e (h3) ?_); conv => whnf)
        | ((first | refine CallG.e (h4r) ?_ | refine CallD.e (h4r) ?_ | refine CallQ.e (h4r) ?_ | refine CallP.e (h4r) ?_); conv => whnf)
        | ((first | refine CallG.e (h5r) ?_ | refine CallD.e (h5r) ?_ | refine CallQ.e (h5r) ?_ | refine CallP.e (h5r) ?_); conv => whnf)
        | ((first | refine CallG.e (h6r) ?_ | refine CallD.e (h6r) ?_ | refine CallQ.e (h6r) ?_ | refine CallP.e (h6r) ?_); conv => whnf)
        | ((first | refine CallG.e (h7) ?_ | refine CallD.e (h7) ?_ | refine CallQ.e (h7) ?_ | refine CallP.e (h7) ?_); conv => whnf)
        | ((first | refine CallG.e (h8r) ?_ | refine CallD.e (h8r) ?_ | refine CallQ.e (h8r) ?_ | refine CallP.e (h8r) ?_); conv => whnf)
        | ((first | refine CallG.e (h9) ?_ | refine CallD.e (h9) ?_ | refine CallQ.e (h9) ?_ | refine CallP.e (h9) ?_); conv => whnf)
        | ((first | refine CallG.e (hi1) ?_ | refine CallD.e (hi1) ?_ | refine CallQ.e (hi1) ?_ | refine CallP.e (hi1) ?_); conv => whnf)
        | ((first | refine CallG.e (hi2) ?_ | refine CallD.e (hi2) ?_ | refine CallQ.e (hi2) ?_ | refine CallP.e (hi2) ?_); conv => whnf)
        | ((first | refine CallG.e (hi3) ?_ | refine CallD.e (hi3) ?_ | refine CallQ.e (hi3) ?_ | refine CallP.e (hi3) ?_); conv => whnf))
      all_goals exact RetG.drop rfl rfl rfl ⟨rfl, congrArg AV.bool (by first | rfl | exact decide_eq_true (by omega)), rfl⟩
    | false =>
      conv => whnf
      repeat' (first
        | (refine And.intro ?_ ?_; (focus (first | omega | decide | (unfold inI64; omega) | (simp only [List.length_append, List.length_cons, List.length_nil] <;> omega) | (refine ⟨?_, ?_⟩ <;> omega) | (refine ⟨?_, ?_, ?_, ?_, ?_, ?_⟩ <;> first | rfl | trivial | decide | omega | (simp [bytesAV_length] <;> omega)) | (simp <;> omega) | (unfold inI64; simp only [List.length_append, List.length_cons, List.length_nil] <;> omega))); conv => whnf)
        | (refine brD (fun _ => ?_) (fun _ => ?_) <;> first | (exfalso; omega) | (conv => whnf))
        | (refine brB (fun _ => ?_) (fun _ => ?_) <;> conv => whnf)
        | ((first | refine CallG.e (hA) ?_ | refine CallD.e (hA) ?_ | refine CallQ.e (hA) ?_ | refine CallP.e (hA) ?_); conv => whnf)
        | ((first | refine CallG.e (hFa) ?_ | refine CallD.e (hFa) ?_ | refine CallQ.e (hFa) ?_ | refine CallP.e (hFa) ?_); conv => whnf)
        | ((first | refine CallG.e (hFb) ?_ | refine CallD.e (hFb) ?_ | refine CallQ.e (hFb) ?_ | refine CallP.e (hFb) ?_); conv => whnf)
        | ((first | refine CallG.e (h1) ?_ | refine CallD.e (h1) ?_ | refine CallQ.e (h1) ?_ | refine CallP.e (h1) ?_); conv => whnf)
        | ((first | refine CallG.e (h2) ?_ | refine CallD.e (h2) ?_ | refine CallQ.e (h2) ?_ | refine CallP.e (h2) ?_); conv => whnf)
        | ((first | refine CallG.e (h3) ?_ | refine CallD.e (h3) ?_ | refine CallQ.e (h3) ?_ | refine CallP.e (h3) ?_); conv => whnf)
        | ((first | refine CallG.e (h4r) ?_ | refine CallD.e (h4r) ?_ | refine CallQ.e (h4r) ?_ | refine CallP.e (h4r) ?_); conv => whnf)
        | ((first | refine CallG.e (h5r) ?_ | refine CallD.e (h5r) ?_ | refine CallQ.e (h5r) ?_ | refine CallP.e (h5r) ?_); conv => whnf)
        | ((first | refine CallG.e (h6r) ?_ | refine CallD.e (h6r) ?_ | refine CallQ.e (h6r) ?_ | refine CallP.e (h6r) ?_); conv => whnf)
        | ((first | refine CallG.e (h7) ?_ | refine CallD.e (h7) ?_ | refine CallQ.e (h7) ?_ | refine CallP.e (h7) ?_); conv => whnf)
        | ((first | refine CallG.e (h8r) ?_ | refine CallD.e (h8r) ?_ | refine CallQ.e (h8r) ?_ | refine CallP.e (h8r) ?_); conv => whnf)
        | ((first | refine CallG.e (h9) ?_ | refine CallD.e (h9) ?_ | refine CallQ.e (h9) ?_ | refine CallP.e (h9) ?_); conv => whnf)
        | ((first | refine CallG.e (hi1) ?_ | refine CallD.e (hi1) ?_ | refine CallQ.e (hi1) ?_ | refine CallP.e (hi1) ?_); conv => whnf)
        | ((first | refine CallG.e (hi2) ?_ | refine CallD.e (hi2) ?_ | refine CallQ.e (hi2) ?_ | refine CallP.e (hi2) ?_); conv => whnf)
        | ((first | refine CallG.e (hi3) ?_ | refine CallD.e (hi3) ?_ | refine CallQ.e (hi3) ?_ | refine CallP.e (hi3) ?_); conv => whnf))
      all_goals exact RetG.drop rfl rfl rfl ⟨rfl, congrArg AV.bool (by first | rfl | exact decide_eq_true (by omega)), rfl⟩
  · have hF : ∀ (x y : Bool), x = decide (0 ≤ fa) → y = decide (0 ≤ fb) → True := fun _ _ _ _ => trivial
    obtain ⟨ak, an, af_, as_, al, ad⟩ := a
    obtain ⟨bk, bn, bf, bs, bl, bd⟩ := b
    unfold obC at *
    refine p4 hE (fun l => ?_) (by simp [hbL, hb] at hbA hbB ⊢; simp [hbA, hbB])
    by_cases ga : 0 ≤ fa
    · rw [decide_eq_true ga] at hFa
      by_cases gb : 0 ≤ fb
      · rw [decide_eq_true gb] at hFb
        conv => whnf
        repeat' (first
          | (refine And.intro ?_ ?_; (focus (first | omega | decide | (unfold inI64; omega) | (simp only [List.length_append, List.length_cons, List.length_nil] <;> omega) | (refine ⟨?_, ?_⟩ <;> omega) | (refine ⟨?_, ?_, ?_, ?_, ?_, ?_⟩ <;> first | rfl | trivial | decide | omega | (simp [bytesAV_length] <;> omega)) | (simp <;> omega) | (unfold inI64; simp only [List.length_append, List.length_cons, List.length_nil] <;> omega))); conv => whnf)
          | (refine brD (fun _ => ?_) (fun _ => ?_) <;> first | (exfalso; omega) | (conv => whnf))
          | (refine brB (fun _ => ?_) (fun _ => ?_) <;> conv => whnf)
          | ((first | refine CallG.e (hA) ?_ | refine CallD.e (hA) ?_ | refine CallQ.e (hA) ?_ | refine CallP.e (hA) ?_); conv => whnf)
          | ((first | refine CallG.e (hFa) ?_ | refine CallD.e (hFa) ?_ | refine CallQ.e (hFa) ?_ | refine CallP.e (hFa) ?_); conv => whnf)
          | ((first | refine CallG.e (hFb) ?_ | refine CallD.e (hFb) ?_ | refine CallQ.e (hFb) ?_ | refine CallP.e (hFb) ?_); conv => whnf))
        all_goals exact RetG.drop rfl rfl rfl ⟨rfl, congrArg AV.bool (by first | rfl | exact decide_eq_true (by omega)), rfl⟩
      · rw [decide_eq_false gb] at hFb
        conv => whnf
        repeat' (first
          | (refine And.intro ?_ ?_; (focus (first | omega | decide | (unfold inI64; omega) | (simp only [List.length_append, List.length_cons, List.length_nil] <;> omega) | (refine ⟨?_, ?_⟩ <;> omega) | (refine ⟨?_, ?_, ?_, ?_, ?_, ?_⟩ <;> first | rfl | trivial | decide | omega | (simp [bytesAV_length] <;> omega)) | (simp <;> omega) | (unfold inI64; simp only [List.length_append, List.length_cons, List.length_nil] <;> omega))); conv => whnf)
          | (refine brD (fun _ => ?_) (fun _ => ?_) <;> first | (exfalso; omega) | (conv => whnf))
          | (refine brB (fun _ => ?_) (fun _ => ?_) <;> conv => whnf)
          | ((first | refine CallG.e (hA) ?_ | refine CallD.e (hA) ?_ | refine CallQ.e (hA) ?_ | refine CallP.e (hA) ?_); conv => whnf)
          | ((first | refine CallG.e (hFa) ?_ | refine CallD.e (hFa) ?_ | refine CallQ.e (hFa) ?_ | refine CallP.e (hFa) ?_); conv => whnf)
          | ((first | refine CallG.e (hFb) ?_ | refine CallD.e (hFb) ?_ | refine CallQ.e (hFb) ?_ | refine CallP.e (hFb) ?_); conv => whnf))
        all_goals exact RetG.drop rfl rfl rfl ⟨rfl, congrArg AV.bool (by first | rfl | exact decide_eq_true (by omega)), rfl⟩
    · rw [decide_eq_false ga] at hFa
      conv => whnf
      repeat' (first
        | (refine And.intro ?_ ?_; (focus (first | omega | decide | (unfold inI64; omega) | (simp only [List.length_append, List.length_cons, List.length_nil] <;> omega) | (refine ⟨?_, ?_⟩ <;> omega) | (refine ⟨?_, ?_, ?_, ?_, ?_, ?_⟩ <;> first | rfl | trivial | decide | omega | (simp [bytesAV_length] <;> omega)) | (simp <;> omega) | (unfold inI64; simp only [List.length_append, List.length_cons, List.length_nil] <;> omega))); conv => whnf)
        | (refine brD (fun _ => ?_) (fun _ => ?_) <;> first | (exfalso; omega) | (conv => whnf))
        | (refine brB (fun _ => ?_) (fun _ => ?_) <;> conv => whnf)
        | ((first | refine CallG.e (hA) ?_ | refine CallD.e (hA) ?_ | refine CallQ.e (hA) ?_ | refine CallP.e (hA) ?_); conv => whnf)
        | ((first | refine CallG.e (hFa) ?_ | refine CallD.e (hFa) ?_ | refine CallQ.e (hFa) ?_ | refine CallP.e (hFa) ?_); conv => whnf))
      all_goals exact RetG.drop rfl rfl rfl ⟨rfl, congrArg AV.bool (by first | rfl | exact decide_eq_true (by omega)), rfl⟩
end Ink.D
