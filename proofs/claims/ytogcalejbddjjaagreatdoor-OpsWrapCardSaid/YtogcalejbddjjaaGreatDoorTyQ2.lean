import Derived.Test.YtogcalejbddjjaaGreatDoorTyQ1
set_option linter.all false
namespace Ink.D
open Go Go.Proofs
set_option maxRecDepth 100000
variable {E : Env} (hE : E.P = Tryz.prog)

theorem noText_at {l : List OpL} {x : Nat} (h : x < l.length) : noText (l.drop x) = (!(decide (l[x].1 = [66, 84]) || decide (l[x].1 = [69, 84])) && noText (l.drop (x + 1))) := by
  unfold noText
  rw [List.drop_eq_getElem_cons h, List.all_cons]

include hE
set_option maxHeartbeats 4000000 in
theorem opsWrap (hT : TabE E) (ops : List OpL) (hl0 : ops.length ≤ 140737488351232) (hw : ∀ p ∈ ops, wfOp p) : PCalls E 16 [.imm 2 (opLs ops)] (· = .bool true) := by
  have hA := awake42 hE hT
  have hlL := opLs_len ops
  have hL : ∀ n0, hbLL n0 (opLs ops) = true := fun n0 => opLs_hb ops
  have hF := few47 hE ops hl0 hw 2000 (by decide)
  have hfl : fewOps ops 2000 = true → ops.length ≤ 2000 := by
    unfold fewOps
    intro h
    simp at h
    exact h.1
  cases hf : fewOps ops 2000 with
  | false =>
    rw [hf] at hF
    refine p16 hE (fun l => ?_) (by simp [hbL, hb, hL])
    conv => whnf
    repeat' (first
      | (refine And.intro W1 ?_; conv => whnf)
      | (refine brD (fun _ => ?_) (fun _ => ?_) <;> first | (exfalso; omega) | (conv => whnf))
      | (refine brB (fun _ => ?_) (fun _ => ?_) <;> conv => whnf)
      | ((first | refine CallG.e hA ?_ | refine CallD.e hA ?_ | refine CallQ.e hA ?_ | refine CallP.e hA ?_); conv => whnf)
      | ((first | refine CallG.e hF ?_ | refine CallD.e hF ?_ | refine CallQ.e hF ?_ | refine CallP.e hF ?_); conv => whnf))
    exact RetG.q ⟨rfl, rfl, rfl⟩
  | true =>
    rw [hf] at hF
    have hfl := hfl hf
    have hO := ours49 hE ops (by omega)
    have hW := wrap50 hE ops (by omega)
    have hB := balanced30 hE ops (by unfold big; omega)
    have hwb := wrap_bal (ops := ops)
    generalize hR : noText ops = R
    refine p16 hE (fun l => ?_) (by simp [hbL, hb, hL])
    conv => whnf
    repeat' (first
      | (refine And.intro W1 ?_; conv => whnf)
      | (refine brD (fun _ => ?_) (fun _ => ?_) <;> first | (exfalso; omega) | (conv => whnf))
      | (refine brB (fun _ => ?_) (fun _ => ?_) <;> conv => whnf)
      | ((first | refine CallG.e hA ?_ | refine CallD.e hA ?_ | refine CallQ.e hA ?_ | refine CallP.e hA ?_); conv => whnf)
      | ((first | refine CallG.e hF ?_ | refine CallD.e hF ?_ | refine CallQ.e hF ?_ | refine CallP.e hF ?_); conv => whnf))
    refine LoopG.s (fun x : Nat => x ≤ ops.length ∧ noText (ops.drop x) = R) 78 (fun x => [(0, .imm 2 (opLs ops)), (3, .bool true), (4, .int .i64 x)]) (fun _ => frm l) (fun x => ops.length - x) 0 ⟨by omega, by simpa using hR⟩ rfl ⟨rfl, rfl, rfl⟩ rfl ?_
    rintro x ⟨h1, h2⟩
    by_cases hx : x < ops.length
    · have hg := opLs_at hx
      rw [opE_at] at hg
      have hk := noText_at hx
      rw [h2] at hk
      conv => whnf
      repeat' (first
        | (rw [hg]; conv => whnf)
        | (refine And.intro W1 ?_; conv => whnf)
        | (refine brD (fun _ => ?_) (fun _ => ?_) <;> first | (exfalso; omega) | (conv => whnf))
        | (refine brB (fun _ => ?_) (fun _ => ?_) <;> conv => whnf))
      · exact RetG.q ⟨rfl, rfl, rfl⟩
      · exact RetG.q ⟨rfl, rfl, rfl⟩
      · rename_i g1 g2
        exact ⟨x + 1, ⟨⟨by omega, by rw [hk, decide_eq_false g1, decide_eq_false g2]; rfl⟩, by omega⟩, Wk.slots rfl ⟨rfl, rfl, rfl⟩⟩
    · obtain rfl : x = ops.length := by omega
      rw [List.drop_length] at h2
      have hn : noText ops = true := by rw [hR, ← h2]; rfl
      obtain ⟨hb1, M, hM, hM1, hM2⟩ := hwb hn
      have hBW := balanced30 hE (wrapL ops) (by have := wrapL_len ops; unfold big; omega)
      rw [hb1] at hBW
      have hg0 : (opLs (wrapL ops)).getD (0 : Int).toNat [] = [.str [113], .imm 6 []] := by rw [hM]; rfl
      have hll : (opLs (wrapL ops)).length = M.length + 2 := by rw [opLs_len, hM]; simp
      have hg1 : (opLs (wrapL ops)).getD (((opLs (wrapL ops)).length : Int) - 1).toNat [] = [.str [81], .imm 6 []] := by
        rw [hll, hM]
        have e : (((M.length + 2 : Nat) : Int) - 1).toNat = M.length + 1 := by omega
        rw [e]
        simp [opLs, List.getD_eq_getElem?_getD, opE, obL]
      have hMb : M.length < 1000000 := by have := wrapL_len ops; rw [← opLs_len, hll] at this; omega
      have hLW : ∀ n0, hbLL n0 (opLs (wrapL ops)) = true := fun n0 => opLs_hb _
      generalize wrapL ops = W at *
      cases hbl : balL ops 0 false with
      | true =>
        rw [hbl] at hB
        have hM2 := hM2 hbl
        conv => whnf
        repeat' (first
          | (rw [hg0]; conv => whnf)
          | (rw [hg1]; conv => whnf)
          | (refine And.intro W1 ?_; conv => whnf)
          | (refine brD (fun _ => ?_) (fun _ => ?_) <;> first | (exfalso; omega) | (conv => whnf))
          | (refine brB (fun _ => ?_) (fun _ => ?_) <;> conv => whnf)
          | ((first | refine CallG.e hO ?_ | refine CallD.e hO ?_ | refine CallQ.e hO ?_ | refine CallP.e hO ?_); conv => whnf)
          | ((first | refine CallG.e hW ?_ | refine CallD.e hW ?_ | refine CallQ.e hW ?_ | refine CallP.e hW ?_); conv => whnf)
          | ((first | refine CallG.e hBW ?_ | refine CallD.e hBW ?_ | refine CallQ.e hBW ?_ | refine CallP.e hBW ?_); conv => whnf)
          | ((first | refine CallG.e hB ?_ | refine CallD.e hB ?_ | refine CallQ.e hB ?_ | refine CallP.e hB ?_); conv => whnf))
        all_goals first | exact RetG.q ⟨rfl, congrArg AV.bool (decide_eq_true (by omega)), rfl⟩ | exact RetG.q ⟨rfl, rfl, rfl⟩
      | false =>
        rw [hbl] at hB
        conv => whnf
        repeat' (first
          | (rw [hg0]; conv => whnf)
          | (rw [hg1]; conv => whnf)
          | (refine And.intro W1 ?_; conv => whnf)
          | (refine brD (fun _ => ?_) (fun _ => ?_) <;> first | (exfalso; omega) | (conv => whnf))
          | (refine brB (fun _ => ?_) (fun _ => ?_) <;> conv => whnf)
          | ((first | refine CallG.e hO ?_ | refine CallD.e hO ?_ | refine CallQ.e hO ?_ | refine CallP.e hO ?_); conv => whnf)
          | ((first | refine CallG.e hW ?_ | refine CallD.e hW ?_ | refine CallQ.e hW ?_ | refine CallP.e hW ?_); conv => whnf)
          | ((first | refine CallG.e hBW ?_ | refine CallD.e hBW ?_ | refine CallQ.e hBW ?_ | refine CallP.e hBW ?_); conv => whnf)
          | ((first | refine CallG.e hB ?_ | refine CallD.e hB ?_ | refine CallQ.e hB ?_ | refine CallP.e hB ?_); conv => whnf))
        all_goals first | exact RetG.q ⟨rfl, congrArg AV.bool (decide_eq_true (by omega)), rfl⟩ | exact RetG.q ⟨rfl, rfl, rfl⟩
end Ink.D
