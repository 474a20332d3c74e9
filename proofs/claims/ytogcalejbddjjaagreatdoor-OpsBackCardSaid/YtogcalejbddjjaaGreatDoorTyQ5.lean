import Derived.Test.YtogcalejbddjjaaGreatDoorTyQ4
set_option linter.all false
namespace Ink.D
open Go Go.Proofs
set_option maxRecDepth 100000
variable {E : Env} (hE : E.P = Tryz.prog)

include hE
set_option maxHeartbeats 4000000 in
theorem opsBack (hT : TabE E) (ops : List OpL) (hl0 : ops.length ≤ 140737488351232) (hw : ∀ p ∈ ops, wfOp p) : PCalls E 15 [.imm 2 (opLs ops)] (· = .bool true) := by
  have hA := awake42 hE hT
  have hlL := opLs_len ops
  have hL : ∀ n0, hbLL n0 (opLs ops) = true := fun n0 => opLs_hb ops
  have hF := few47 hE ops hl0 hw 2000 (by decide)
  cases hf : fewOps ops 2000 with
  | false =>
    rw [hf] at hF
    refine p15 hE (fun l => ?_) (by simp [hbL, hb, hL])
    conv => whnf
    repeat' (first
      | (refine And.intro W1 ?_; conv => whnf)
      | (refine brD (fun _ => ?_) (fun _ => ?_) <;> first | (exfalso; omega) | (conv => whnf))
      | (refine brB (fun _ => ?_) (fun _ => ?_) <;> conv => whnf)
      | ((first | refine CallG.e hA ?_ | refine CallD.e hA ?_ | refine CallQ.e hA ?_ | refine CallP.e hA ?_); conv => whnf)
      | ((first | refine CallG.e hF ?_ | refine CallD.e hF ?_ | refine CallQ.e hF ?_ | refine CallP.e hF ?_); conv => whnf))
    exact RetG.q ⟨rfl, rfl, rfl⟩
  | true =>
    rw [hf] at hF
    have hfb : 0 ≤ fewO (allO ops) (2000 : Nat) 0 := by
      unfold fewOps at hf
      simp at hf
      exact hf.2
    have hbk := few_bulk _ (allO ops) (2000 : Nat) 0 (Nat.lt_succ_self _) hfb
    obtain ⟨hfl, hsum, hpb⟩ := bulk_all (ops := ops) (by omega)
    have hmem : ∀ p ∈ ops, ∀ o ∈ p.2, wfO o ∧ bulkO o ≤ 2000 ∧ countO o < big := fun p hp o ho => by
      have h1 := wfOs_iff.1 (hw p hp).2.2 o ho
      have h2 := bulkL_mem ho
      have h3 := (hpb p hp).2
      have h4 := count_bulk _ o (Nat.lt_succ_self _)
      exact ⟨h1, by omega, by unfold big; omega⟩
    have hlen2 : ∀ p ∈ ops, p.2.length < 1000000 := fun p hp => by
      have h3 := (hpb p hp).2
      have h4 := bulkL_len p.2
      omega
    have hO := ours49 hE ops (by omega)
    have hTl := writeT_len (ops := ops) (fun p hp => ⟨hw p hp, (hpb p hp).2⟩)
    have hW := write31 hE hT ops (by unfold big; omega) (fun p hp => ⟨by have := hlen2 p hp; unfold big; omega, by have := (hpb p hp).1; omega, fun o ho => by
      obtain ⟨h1, h2, h3⟩ := hmem p hp o ho
      exact ⟨h3, ok_few h1 (by omega)⟩⟩) (by omega)
    have hTh := theirs46 hE ops (by omega)
    have hSm := same45 hE ops (by omega) (fun p hp => ⟨hlen2 p hp, fun o ho => (hmem p hp o ho).2.2⟩)
    have hPl : ∀ p ∈ ops, ∀ o ∈ p.2, PCalls E 48 [.agg (obC o)] (· = .bool (plainP o)) := fun p hp o ho => plain48 hE _ o (Nat.lt_succ_self _) (hmem p hp o ho).2.2
    have hPs := parse43 hE (writeT ops) (by omega)
    have hback : allP ops = true → writeE ops = 0 → parseO (writeT ops) = (ops, 0) := fun h1 h2 => by
      obtain ⟨g1, g2⟩ := write_good h2 (fun p hp o ho => ⟨plainP_O _ o (Nat.lt_succ_self _) (List.all_eq_true.mp (List.all_eq_true.mp h1 p hp) o ho), (hmem p hp o ho).1⟩)
      exact parse_back g2 g1
    generalize hR : allP ops = R at *
    refine p15 hE (fun l => ?_) (by simp [hbL, hb, hL])
    conv => whnf
    repeat' (first
      | (refine And.intro W1 ?_; conv => whnf)
      | (refine brD (fun _ => ?_) (fun _ => ?_) <;> first | (exfalso; omega) | (conv => whnf))
      | (refine brB (fun _ => ?_) (fun _ => ?_) <;> conv => whnf)
      | ((first | refine CallG.e hA ?_ | refine CallD.e hA ?_ | refine CallQ.e hA ?_ | refine CallP.e hA ?_); conv => whnf)
      | ((first | refine CallG.e hF ?_ | refine CallD.e hF ?_ | refine CallQ.e hF ?_ | refine CallP.e hF ?_); conv => whnf))
    refine LoopG.s (fun x : Nat => x ≤ ops.length ∧ allP (ops.drop x) = R) 71 (fun x => [(0, .imm 2 (opLs ops)), (3, .bool true), (4, .int .i64 x)]) (fun _ => frm l) (fun x => ops.length - x) 0 ⟨by omega, by simpa using hR⟩ rfl ⟨rfl, rfl, rfl⟩ rfl ?_
    rintro x ⟨h1, h2⟩
    by_cases hx : x < ops.length
    · have hg := opLs_at hx
      rw [opE_at] at hg
      have hk := allP_at hx
      rw [h2] at hk
      have hPl := hPl ops[x] (List.getElem_mem hx)
      have hl2 := hlen2 ops[x] (List.getElem_mem hx)
      generalize hZ : allP (ops.drop (x + 1)) = Z at *
      have hnext : Z = R → allP (ops.drop (x + 1)) = R := fun h => hZ.trans h
      clear hZ
      generalize ops[x] = op at *
      obtain ⟨nm, args⟩ := op
      simp only at hg hk hPl hl2
      have hlA := obL_len args
      conv => whnf
      repeat' (first
        | (refine And.intro W1 ?_; conv => whnf)
        | (refine brD (fun _ => ?_) (fun _ => ?_) <;> first | (exfalso; omega) | (conv => whnf))
        | (refine brB (fun _ => ?_) (fun _ => ?_) <;> conv => whnf))
      refine LoopG.s (fun k : Nat => k ≤ args.length ∧ ((args.drop k).all plainP && Z) = R) 71 (fun k => [(0, .imm 2 (opLs ops)), (3, .bool true), (4, .int .i64 x), (5, .int .i64 k)]) (fun _ => frm l) (fun k => args.length - k) 0 ⟨by omega, by simpa using hk.symm⟩ rfl ⟨rfl, rfl, rfl, rfl⟩ rfl ?_
      rintro k ⟨hk1, hk2⟩
      by_cases hkx : k < args.length
      · have hg2 := obL_at hkx
        have ha := allQ_at hkx
        rw [ha] at hk2
        have hPo := hPl args[k] (List.getElem_mem hkx)
        have hcs : ∃ c0 c1 c2 c3 c4 c5, obC args[k] = [c0, c1, c2, c3, c4, c5] := by cases args[k]; exact ⟨_, _, _, _, _, _, rfl⟩
        obtain ⟨c0, c1, c2, c3, c4, c5, hcc⟩ := hcs
        rw [hcc] at hg2 hPo
        generalize plainP args[k] = y at *
        conv => whnf
        repeat' (first
          | (rw [hg]; conv => whnf)
          | (rw [hg2]; conv => whnf)
          | (refine And.intro W1 ?_; conv => whnf)
          | (refine brD (fun _ => ?_) (fun _ => ?_) <;> first | (exfalso; omega) | (conv => whnf))
          | (refine brB (fun _ => ?_) (fun _ => ?_) <;> conv => whnf)
          | ((first | refine CallG.e hPo ?_ | refine CallD.e hPo ?_ | refine CallQ.e hPo ?_ | refine CallP.e hPo ?_); conv => whnf))
        · exact RetG.q ⟨rfl, rfl, rfl⟩
        · rename_i hy
          have hy : y = true := by simpa using hy
          rw [hy] at hk2
          exact ⟨k + 1, ⟨⟨by omega, by simpa using hk2⟩, by omega⟩, Wk.slots rfl ⟨rfl, rfl, rfl, rfl⟩⟩
      · obtain rfl : k = args.length := by omega
        rw [List.drop_length] at hk2
        conv => whnf
        repeat' (first
          | (rw [hg]; conv => whnf)
          | (refine And.intro W1 ?_; conv => whnf)
          | (refine brD (fun _ => ?_) (fun _ => ?_) <;> first | (exfalso; omega) | (conv => whnf))
          | (refine brB (fun _ => ?_) (fun _ => ?_) <;> conv => whnf))
        exact ⟨x + 1, ⟨⟨by omega, hnext (by simpa using hk2)⟩, by omega⟩, Wk.slots rfl ⟨rfl, rfl, rfl⟩⟩
    · obtain rfl : x = ops.length := by omega
      rw [List.drop_length] at h2
      have h2 : R = true := by rw [← h2]; rfl
      by_cases he : writeE ops = 0
      · have hback := hback h2 he
        rw [hback] at hPs
        rw [he, if_pos rfl] at hW
        simp only at hPs
        conv => whnf
        repeat' (first
          | (refine And.intro W1 ?_; conv => whnf)
          | (refine brD (fun _ => ?_) (fun _ => ?_) <;> first | (exfalso; omega) | (conv => whnf))
          | (refine brB (fun _ => ?_) (fun _ => ?_) <;> conv => whnf)
          | ((first | refine CallG.e hO ?_ | refine CallD.e hO ?_ | refine CallQ.e hO ?_ | refine CallP.e hO ?_); conv => whnf)
          | ((first | refine CallG.e hW ?_ | refine CallD.e hW ?_ | refine CallQ.e hW ?_ | refine CallP.e hW ?_); conv => whnf)
          | ((first | refine CallG.e hPs ?_ | refine CallD.e hPs ?_ | refine CallQ.e hPs ?_ | refine CallP.e hPs ?_); conv => whnf)
          | ((first | refine CallG.e hTh ?_ | refine CallD.e hTh ?_ | refine CallQ.e hTh ?_ | refine CallP.e hTh ?_); conv => whnf)
          | ((first | refine CallG.e hSm ?_ | refine CallD.e hSm ?_ | refine CallQ.e hSm ?_ | refine CallP.e hSm ?_); conv => whnf))
        all_goals exact RetG.q ⟨rfl, rfl, rfl⟩
      · rw [if_neg he] at hW
        generalize writeE ops = e at *
        conv => whnf
        repeat' (first
          | (refine And.intro W1 ?_; conv => whnf)
          | (refine brD (fun _ => ?_) (fun _ => ?_) <;> first | (exfalso; omega) | (conv => whnf))
          | (refine brB (fun _ => ?_) (fun _ => ?_) <;> conv => whnf)
          | ((first | refine CallG.e hO ?_ | refine CallD.e hO ?_ | refine CallQ.e hO ?_ | refine CallP.e hO ?_); conv => whnf)
          | ((first | refine CallG.e hW ?_ | refine CallD.e hW ?_ | refine CallQ.e hW ?_ | refine CallP.e hW ?_); conv => whnf))
        all_goals exact RetG.q ⟨rfl, rfl, rfl⟩
end Ink.D
