import Derived.Test.YtogcalejbddjjaaGreatDoorTyB2
import Derived.Test.YtogcalejbddjjaaGreatDoorPCosI
import Derived.Test.YtogcalejbddjjaaGreatDoorPCosB
import Derived.Test.YtogcalejbddjjaaGreatDoorPWrF
set_option linter.all false
namespace Ink.D
open Go Go.Proofs
set_option maxRecDepth 100000
set_option linter.unusedSimpArgs false
set_option linter.unusedVariables false
variable {E : Env} (hE : E.P = Tryz.prog)

theorem plainL_take {l : List Ob} {x : Nat} (h : x < l.length) : plainL (l.drop x) = (plainO l[x] && plainL (l.drop (x + 1))) := by
  rw [List.drop_eq_getElem_cons h, plainL]
theorem plainD_take {l : List (List UInt8 × Ob)} {x : Nat} (h : x < l.length) : plainD (l.drop x) = (plainO l[x].2 && plainD (l.drop (x + 1))) := by
  rw [List.drop_eq_getElem_cons h, plainD]
  generalize l[x] = e
  obtain ⟨a, o⟩ := e
  rfl

include hE
set_option maxHeartbeats 4000000 in
theorem plain25 : ∀ (N : Nat) (o : Ob), sizeOf o < N → countO o < big → PCalls E 25 [.agg (obC o)] (· = .bool (plainO o))
  | 0, o, h, _ => by omega
  | N + 1, .mk k n f s l_ d, hN, hc => by
    have hlen := countL_len l_
    have hdlen := countD_len d
    have hl := obL_len l_
    have hl2 := obD_length d
    unfold countO at hc
    have ihl : ∀ (x : Nat) (h : x < l_.length), PCalls E 25 [.agg (obC l_[x])] (· = .bool (plainO l_[x])) := fun x h => by
      have h1 := List.sizeOf_lt_of_mem (List.getElem_mem h)
      have h2 := countO_mem (List.getElem_mem h)
      exact plain25 N _ (by simp at hN; omega) (by omega)
    have ihd : ∀ (x : Nat) (h : x < d.length), PCalls E 25 [.agg (obC d[x].2)] (· = .bool (plainO d[x].2)) := fun x h => by
      have h1 := List.sizeOf_lt_of_mem (List.getElem_mem h)
      have h2 := countD_mem (List.getElem_mem h)
      have h3 : sizeOf d[x].2 < sizeOf d[x] := by generalize d[x] = e; obtain ⟨a, o⟩ := e; simp; omega
      exact plain25 N _ (by simp at hN; omega) (by omega)
    have hD : ∀ n0, hbLL n0 (obD d) = true := fun n0 => obD_hb d
    have hL : ∀ n0, hbLL n0 (obL l_) = true := fun n0 => obL_hb l_
    unfold big at hc
    unfold plainO
    generalize hP : decide (¬ ((k ≠ 1 ∧ k ≠ 2 ∧ k ≠ 7 ∧ n ≠ 0) ∨ (k ≠ 2 ∧ k ≠ 7 ∧ f ≠ 0) ∨ (k ≠ 3 ∧ k ≠ 4 ∧ k ≠ 8 ∧ s ≠ []) ∨ (k ≠ 5 ∧ 0 < l_.length) ∨ (k ≠ 6 ∧ k ≠ 8 ∧ 0 < d.length))) = P
    refine p25 hE (fun l => ?_) (by simp [hbL, hb, obC_hb])
    unfold obC
    refine wpc_join 3 106 (fun _ : Unit => P = true) (fun _ => [(1, .ptr 1 0 0)]) (fun _ => [⟨0, true, .frame l⟩, ⟨0, true, .cells 26 [.int .i64 k, .int .i64 n, .int .i64 f, .str s, .imm 6 (obL l_), .imm 7 (obD d)]⟩]) ?_ ?_
    · by_cases hs : s = []
      · subst hs
        simp only [ne_eq, not_true_eq_false, and_false, false_or] at hP
        conv => whnf
        repeat' (first
          | (refine And.intro ?_ ?_; (focus (first | omega | decide | (unfold inI64; omega) | (simp only [List.length_append, List.length_cons, List.length_nil] <;> omega) | (refine ⟨?_, ?_⟩ <;> omega) | (refine ⟨?_, ?_, ?_, ?_, ?_, ?_⟩ <;> first | rfl | trivial | decide | omega | (simp [bytesAV_length] <;> omega)) | (simp <;> omega) | (unfold inI64; simp only [List.length_append, List.length_cons, List.length_nil] <;> omega))); conv => whnf)
          | (refine brD (fun _ => ?_) (fun _ => ?_) <;> first | (exfalso; omega) | (conv => whnf))
          | (refine brB (fun _ => ?_) (fun _ => ?_) <;> conv => whnf))
        all_goals first | exact ⟨(), by rw [← hP]; simp only [decide_eq_true_eq]; omega, rfl, rfl⟩ | (exfalso; contradiction) | exact RetG.drop rfl rfl rfl ⟨rfl, by rw [show P = false by rw [← hP]; simp only [decide_eq_false_iff_not]; omega]; rfl, rfl⟩
      · simp only [ne_eq, hs, not_false_eq_true, and_true] at hP
        conv => whnf
        repeat' (first
          | (refine And.intro ?_ ?_; (focus (first | omega | decide | (unfold inI64; omega) | (simp only [List.length_append, List.length_cons, List.length_nil] <;> omega) | (refine ⟨?_, ?_⟩ <;> omega) | (refine ⟨?_, ?_, ?_, ?_, ?_, ?_⟩ <;> first | rfl | trivial | decide | omega | (simp [bytesAV_length] <;> omega)) | (simp <;> omega) | (unfold inI64; simp only [List.length_append, List.length_cons, List.length_nil] <;> omega))); conv => whnf)
          | (refine brD (fun _ => ?_) (fun _ => ?_) <;> first | (exfalso; omega) | (conv => whnf))
          | (refine brB (fun _ => ?_) (fun _ => ?_) <;> conv => whnf))
        all_goals first | exact ⟨(), by rw [← hP]; simp only [decide_eq_true_eq]; omega, rfl, rfl⟩ | (exfalso; contradiction) | exact RetG.drop rfl rfl rfl ⟨rfl, by rw [show P = false by rw [← hP]; simp only [decide_eq_false_iff_not]; omega]; rfl, rfl⟩
    rintro ⟨⟩ junk rfl
    clear hP
    generalize hR : (true && (plainL l_ && plainD d)) = R
    rw [Bool.true_and] at hR
    conv => whnf
    repeat' (first
      | (refine And.intro ?_ ?_; (focus (first | omega | decide | (unfold inI64; omega) | (simp only [List.length_append, List.length_cons, List.length_nil] <;> omega) | (refine ⟨?_, ?_⟩ <;> omega) | (refine ⟨?_, ?_, ?_, ?_, ?_, ?_⟩ <;> first | rfl | trivial | decide | omega | (simp [bytesAV_length] <;> omega)) | (simp <;> omega) | (unfold inI64; simp only [List.length_append, List.length_cons, List.length_nil] <;> omega))); conv => whnf)
      | (refine brD (fun _ => ?_) (fun _ => ?_) <;> first | (exfalso; omega) | (conv => whnf))
      | (refine brB (fun _ => ?_) (fun _ => ?_) <;> conv => whnf))
    refine LoopG.s (fun x : Nat => x ≤ l_.length ∧ (plainL (l_.drop x) && plainD d) = R) 106 (fun x => [(1, .ptr 1 0 0), (4, .int .i64 x)]) (fun _ => [⟨0, true, .frame l⟩, ⟨0, true, .cells 26 [.int .i64 k, .int .i64 n, .int .i64 f, .str s, .imm 6 (obL l_), .imm 7 (obD d)]⟩]) (fun x => l_.length - x) 0 ⟨by simp, by simpa using hR⟩ rfl ⟨rfl, rfl⟩ rfl ?_
    rintro x ⟨i1, i2⟩
    by_cases hx : x < l_.length
    · have hg := obL_at hx
      have hC := ihl x hx
      have htk := plainL_take hx
      have hcs : ∃ c0 c1 c2 c3 c4 c5, obC l_[x] = [c0, c1, c2, c3, c4, c5] := by cases l_[x]; exact ⟨_, _, _, _, _, _, rfl⟩
      obtain ⟨c0, c1, c2, c3, c4, c5, hc⟩ := hcs
      rw [hc] at hg hC
      rw [htk] at i2
      generalize plainO l_[x] = q at *
      conv => whnf
      repeat' (first
        | (rw [hg]; conv => whnf)
        | (refine And.intro ?_ ?_; (focus (first | omega | decide | (unfold inI64; omega) | (simp only [List.length_append, List.length_cons, List.length_nil] <;> omega) | (refine ⟨?_, ?_⟩ <;> omega) | (refine ⟨?_, ?_, ?_, ?_, ?_, ?_⟩ <;> first | rfl | trivial | decide | omega | (simp [bytesAV_length] <;> omega)) | (simp <;> omega) | (unfold inI64; simp only [List.length_append, List.length_cons, List.length_nil] <;> omega))); conv => whnf)
        | (refine brD (fun _ => ?_) (fun _ => ?_) <;> first | (exfalso; omega) | (conv => whnf))
        | (refine brB (fun _ => ?_) (fun _ => ?_) <;> conv => whnf)
        | ((first | refine CallG.e (hC) ?_ | refine CallD.e (hC) ?_ | refine CallQ.e (hC) ?_ | refine CallP.e (hC) ?_); conv => whnf))
      · rename_i hq
        have hq : q = false := by simpa using hq
        exact RetG.drop rfl rfl rfl ⟨rfl, by rw [← i2, hq]; rfl, rfl⟩
      · rename_i hq
        have hq : q = true := by simpa using hq
        rw [hq] at i2
        exact ⟨x + 1, ⟨⟨by omega, by simpa using i2⟩, by omega⟩, Wk.slots rfl ⟨rfl, rfl⟩⟩
    · have hxe : x = l_.length := by omega
      subst hxe
      rw [List.drop_length] at i2
      conv => whnf
      repeat' (first
        | (refine And.intro ?_ ?_; (focus (first | omega | decide | (unfold inI64; omega) | (simp only [List.length_append, List.length_cons, List.length_nil] <;> omega) | (refine ⟨?_, ?_⟩ <;> omega) | (refine ⟨?_, ?_, ?_, ?_, ?_, ?_⟩ <;> first | rfl | trivial | decide | omega | (simp [bytesAV_length] <;> omega)) | (simp <;> omega) | (unfold inI64; simp only [List.length_append, List.length_cons, List.length_nil] <;> omega))); conv => whnf)
        | (refine brD (fun _ => ?_) (fun _ => ?_) <;> first | (exfalso; omega) | (conv => whnf))
        | (refine brB (fun _ => ?_) (fun _ => ?_) <;> conv => whnf))
      refine LoopG.s (fun x : Nat => x ≤ d.length ∧ plainD (d.drop x) = R) 106 (fun x => [(1, .ptr 1 0 0), (5, .int .i64 x)]) (fun _ => [⟨0, true, .frame l⟩, ⟨0, true, .cells 26 [.int .i64 k, .int .i64 n, .int .i64 f, .str s, .imm 6 (obL l_), .imm 7 (obD d)]⟩]) (fun x => d.length - x) 0 ⟨by simp, by simpa [plainL] using i2⟩ rfl ⟨rfl, rfl⟩ rfl ?_
      clear i2
      rintro x ⟨i1, i2⟩
      by_cases hx : x < d.length
      · have hg := obD_get hx
        have hC := ihd x hx
        have htk := plainD_take hx
        have hcs : ∃ a c0 c1 c2 c3 c4 c5, obE d[x] = [a, c0, c1, c2, c3, c4, c5] ∧ obC d[x].2 = [c0, c1, c2, c3, c4, c5] := by
          generalize d[x] = e; obtain ⟨a, o⟩ := e; cases o; exact ⟨_, _, _, _, _, _, _, rfl, rfl⟩
        obtain ⟨c6, c0, c1, c2, c3, c4, c5, hc, hc2⟩ := hcs
        rw [hc] at hg
        rw [hc2] at hC
        rw [htk] at i2
        generalize plainO d[x].2 = q at *
        conv => whnf
        repeat' (first
          | (rw [hg]; conv => whnf)
          | (refine And.intro ?_ ?_; (focus (first | omega | decide | (unfold inI64; omega) | (simp only [List.length_append, List.length_cons, List.length_nil] <;> omega) | (refine ⟨?_, ?_⟩ <;> omega) | (refine ⟨?_, ?_, ?_, ?_, ?_, ?_⟩ <;> first | rfl | trivial | decide | omega | (simp [bytesAV_length] <;> omega)) | (simp <;> omega) | (unfold inI64; simp only [List.length_append, List.length_cons, List.length_nil] <;> omega))); conv => whnf)
          | (refine brD (fun _ => ?_) (fun _ => ?_) <;> first | (exfalso; omega) | (conv => whnf))
          | (refine brB (fun _ => ?_) (fun _ => ?_) <;> conv => whnf)
          | ((first | refine CallG.e (hC) ?_ | refine CallD.e (hC) ?_ | refine CallQ.e (hC) ?_ | refine CallP.e (hC) ?_); conv => whnf))
        · rename_i hq
          have hq : q = false := by simpa using hq
          exact RetG.drop rfl rfl rfl ⟨rfl, by rw [← i2, hq]; rfl, rfl⟩
        · rename_i hq
          have hq : q = true := by simpa using hq
          rw [hq] at i2
          exact ⟨x + 1, ⟨⟨by omega, by simpa using i2⟩, by omega⟩, Wk.slots rfl ⟨rfl, rfl⟩⟩
      · have hxe : x = d.length := by omega
        subst hxe
        rw [List.drop_length] at i2
        conv => whnf
        repeat' (first
          | (refine And.intro ?_ ?_; (focus (first | omega | decide | (unfold inI64; omega) | (simp only [List.length_append, List.length_cons, List.length_nil] <;> omega) | (refine ⟨?_, ?_⟩ <;> omega) | (refine ⟨?_, ?_, ?_, ?_, ?_, ?_⟩ <;> first | rfl | trivial | decide | omega | (simp [bytesAV_length] <;> omega)) | (simp <;> omega) | (unfold inI64; simp only [List.length_append, List.length_cons, List.length_nil] <;> omega))); conv => whnf)
          | (refine brD (fun _ => ?_) (fun _ => ?_) <;> first | (exfalso; omega) | (conv => whnf))
          | (refine brB (fun _ => ?_) (fun _ => ?_) <;> conv => whnf))
        exact RetG.drop rfl rfl rfl ⟨rfl, by rw [← i2]; rfl, rfl⟩
end Ink.D
