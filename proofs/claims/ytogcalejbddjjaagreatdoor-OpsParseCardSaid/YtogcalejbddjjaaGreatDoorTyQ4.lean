import Derived.Test.YtogcalejbddjjaaGreatDoorTyQ3
set_option linter.all false
namespace Ink.D
open Go Go.Proofs
set_option maxRecDepth 100000
variable {E : Env} (hE : E.P = Tryz.prog)

include hE
theorem theirs46 (ops : List OpL) (hl : ops.length < 1000000) : PCalls E 46 [.imm 2 (opLs ops)] (· = .imm 2 (opLs ops)) := by
  have hlL := opLs_len ops
  have hL : ∀ n0, hbLL n0 (opLs ops) = true := fun n0 => opLs_hb ops
  refine p46 hE (fun l => ?_) (by simp [hbL, hb, hL])
  conv => whnf
  repeat' (first
    | (refine And.intro W1 ?_; conv => whnf)
    | (refine brD (fun _ => ?_) (fun _ => ?_) <;> first | (exfalso; omega) | (conv => whnf))
    | (refine brB (fun _ => ?_) (fun _ => ?_) <;> conv => whnf))
  refine LoopG.w (fun x : Nat => x ≤ ops.length) 26 (fun x => [(0, .imm 2 (opLs ops)), (2, nilA), (3, .own 1 0 0 x 2), (4, .int .i64 x)]) (fun x => [⟨0, true, .frame l⟩, ⟨0, true, .cells 82 (cellsO (ops.take x))⟩]) (fun x => ops.length - x) 0 (by omega)
    (Wk.gc [some 0, none] rfl rfl rfl ⟨⟨_, _, rfl, rfl, .same _ rfl⟩, ⟨0, 82, rfl⟩, trivial⟩ ⟨⟨_, rfl, .same _ (by simp [hb, hL])⟩, ⟨_, rfl, .same _ rfl⟩, ⟨_, rfl, .nilOwn 1 0 2 82 rfl rfl⟩, ⟨_, rfl, .same _ rfl⟩, trivial⟩) ?_
  intro x h1
  by_cases hx : x < ops.length
  · have hg := opLs_at hx
    rw [opE_at] at hg
    have htk := cellsO_take hx
    have hA : ∀ n0, hbLL n0 (obL ops[x].2) = true := fun n0 => obL_hb _
    have hcl : 0 + x * 2 ≤ (cellsO (ops.take x)).length := by rw [cellsO_length, List.length_take]; omega
    have hcap : (x + 1) * 40 ≤ 70368744177664 := by omega
    conv => whnf
    repeat' (first
      | (rw [hg]; conv => whnf)
      | (refine And.intro W1 ?_; conv => whnf)
      | (refine brD (fun _ => ?_) (fun _ => ?_) <;> first | (exfalso; omega) | (conv => whnf))
      | (refine brB (fun _ => ?_) (fun _ => ?_) <;> conv => whnf)
      | (refine And.intro ⟨rfl, rfl, rfl, hcl, by decide, hcap⟩ ?_; conv => whnf))
    have hcell : BK.cells 82 (((cellsO (ops.take x)).drop 0).take (x * 2) ++ [[AV.str ops[x].1, .imm 6 (obL ops[x].2)]].flatten) = BK.cells 82 (cellsO (ops.take (x + 1))) := by
      rw [List.drop_zero, take_all (by rw [cellsO_length, List.length_take]; omega), htk]; rfl
    exact ⟨x + 1, ⟨by omega, by omega⟩, Wk.gc [some 0, some 1] rfl rfl rfl ⟨⟨_, _, rfl, rfl, .same _ rfl⟩, ⟨_, _, rfl, rfl, .eq hcell (by simp [bkFree, hbB, cellsO_hb])⟩, trivial⟩
      ⟨⟨_, rfl, .same _ (by simp [hb, hL])⟩, ⟨_, rfl, .same _ rfl⟩, ⟨_, rfl, .own 1 1 1 0 0 _ 2 _ _ rfl rfl rfl⟩, ⟨_, rfl, .same _ rfl⟩, trivial⟩⟩
  · obtain rfl : x = ops.length := by omega
    rw [List.take_length]
    conv => whnf
    repeat' (first
      | (refine And.intro W1 ?_; conv => whnf)
      | (refine brD (fun _ => ?_) (fun _ => ?_) <;> first | (exfalso; omega) | (conv => whnf))
      | (refine brB (fun _ => ?_) (fun _ => ?_) <;> conv => whnf))
    exact RetG.pub (pubOt ops rfl (show 1 ≤ 1 by decide)) rfl rfl ⟨by simp [hb, hL], rfl, rfl⟩


theorem same45 (ops : List OpL) (hl : ops.length < 1000000) (hc : ∀ p ∈ ops, p.2.length < 1000000 ∧ ∀ o ∈ p.2, countO o < big) : PCalls E 45 [.imm 2 (opLs ops), .imm 2 (opLs ops)] (· = .bool true) := by
  have hlL := opLs_len ops
  have hL : ∀ n0, hbLL n0 (opLs ops) = true := fun n0 => opLs_hb ops
  refine p45 hE (fun l => ?_) (by simp [hbL, hb, hL])
  conv => whnf
  repeat' (first
    | (refine And.intro W1 ?_; conv => whnf)
    | (refine brD (fun _ => ?_) (fun _ => ?_) <;> first | (exfalso; omega) | (conv => whnf))
    | (refine brB (fun _ => ?_) (fun _ => ?_) <;> conv => whnf))
  refine LoopG.s (fun x : Nat => x ≤ ops.length) 72 (fun x => [(0, .imm 2 (opLs ops)), (1, .imm 2 (opLs ops)), (5, .int .i64 x)]) (fun _ => frm l) (fun x => ops.length - x) 0 (by omega) rfl ⟨rfl, rfl, rfl⟩ rfl ?_
  intro x h1
  by_cases hx : x < ops.length
  · have hg := opLs_at hx
    rw [opE_at] at hg
    obtain ⟨hc1, hc2⟩ := hc ops[x] (List.getElem_mem hx)
    generalize ops[x] = op at *
    obtain ⟨nm, args⟩ := op
    simp only at hg hc1 hc2
    have hlA := obL_len args
    conv => whnf
    repeat' (first
      | (rw [hg]; conv => whnf)
      | (refine And.intro W1 ?_; conv => whnf)
      | (refine brD (fun _ => ?_) (fun _ => ?_) <;> first | (exfalso; omega) | (conv => whnf))
      | (refine brB (fun _ => ?_) (fun _ => ?_) <;> conv => whnf))
    all_goals first | (exfalso; rename_i h; exact h rfl) | skip
    refine LoopG.s (fun k : Nat => k ≤ args.length) 72 (fun k => [(0, .imm 2 (opLs ops)), (1, .imm 2 (opLs ops)), (5, .int .i64 x), (6, .int .i64 k)]) (fun _ => frm l) (fun k => args.length - k) 0 (by omega) rfl ⟨rfl, rfl, rfl, rfl⟩ rfl ?_
    intro k hk1
    by_cases hk : k < args.length
    · have hg2 := obL_at hk
      have hX := exact8 hE _ args[k] args[k] (Nat.lt_succ_self _) (hc2 _ (List.getElem_mem hk)) (hc2 _ (List.getElem_mem hk))
      rw [ex_refl _ args[k] (Nat.lt_succ_self _)] at hX
      have hcs : ∃ c0 c1 c2 c3 c4 c5, obC args[k] = [c0, c1, c2, c3, c4, c5] := by cases args[k]; exact ⟨_, _, _, _, _, _, rfl⟩
      obtain ⟨c0, c1, c2, c3, c4, c5, hcc⟩ := hcs
      rw [hcc] at hg2 hX
      conv => whnf
      repeat' (first
        | (rw [hg]; conv => whnf)
        | (rw [hg2]; conv => whnf)
        | (refine And.intro W1 ?_; conv => whnf)
        | (refine brD (fun _ => ?_) (fun _ => ?_) <;> first | (exfalso; omega) | (conv => whnf))
        | (refine brB (fun _ => ?_) (fun _ => ?_) <;> conv => whnf)
        | ((first | refine CallG.e hX ?_ | refine CallD.e hX ?_ | refine CallQ.e hX ?_ | refine CallP.e hX ?_); conv => whnf))
      exact ⟨k + 1, ⟨by omega, by omega⟩, Wk.slots rfl ⟨rfl, rfl, rfl, rfl⟩⟩
    · conv => whnf
      repeat' (first
        | (rw [hg]; conv => whnf)
        | (refine And.intro W1 ?_; conv => whnf)
        | (refine brD (fun _ => ?_) (fun _ => ?_) <;> first | (exfalso; omega) | (conv => whnf))
        | (refine brB (fun _ => ?_) (fun _ => ?_) <;> conv => whnf))
      exact ⟨x + 1, ⟨by omega, by omega⟩, Wk.slots rfl ⟨rfl, rfl, rfl⟩⟩
  · conv => whnf
    repeat' (first
      | (refine And.intro W1 ?_; conv => whnf)
      | (refine brD (fun _ => ?_) (fun _ => ?_) <;> first | (exfalso; omega) | (conv => whnf))
      | (refine brB (fun _ => ?_) (fun _ => ?_) <;> conv => whnf))
    exact RetG.q ⟨rfl, rfl, rfl⟩

end Ink.D
