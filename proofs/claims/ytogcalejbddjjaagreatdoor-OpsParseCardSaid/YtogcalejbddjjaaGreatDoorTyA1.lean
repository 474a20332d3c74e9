import Derived.Test.YtogcalejbddjjaaGreatDoorTyN2
import Derived.Test.YtogcalejbddjjaaGreatDoorTyN4
set_option linter.all false
namespace Ink.D
open Go Go.Proofs
set_option maxRecDepth 100000
variable {E : Env} (hE : E.P = Tryz.prog)

/-! law 11's example alone: one operator without operands is written -/
include hE
theorem put69q (nm b : List UInt8) (hn : nm.length < 1000000) (hy : namedB nm = true) (hlen : b.length + (nm ++ [10]).length < 1000000000) :
    BCalls E 69 [.ptr 1 0 0, .agg [.str nm, .imm 6 []]] [.bld 90 5 b] fun r ks => r = .int .i64 0 ∧ ks = [.bld 90 5 (b ++ (nm ++ [10]))] := by
  have hN := named122 hE nm hn
  rw [hy] at hN
  have hW := writeString hE b (nm ++ [10]) (by simp only [List.length_append] at *; omega)
  refine b69 hE fun l => ?_
  conv => whnf
  repeat' (first
    | (refine And.intro W1 ?_; conv => whnf)
    | (refine brD (fun _ => ?_) (fun _ => ?_) <;> first | (exfalso; omega) | (conv => whnf))
    | (refine brB (fun _ => ?_) (fun _ => ?_) <;> conv => whnf)
    | ((first | refine CallG.e hN ?_ | refine CallD.e hN ?_ | refine CallQ.e hN ?_ | refine CallP.e hN ?_); conv => whnf))
  refine LoopG.s (fun x : Nat => x = 0) 46 (fun x => [(0, .ptr 1 0 0), (3, .ptr 2 0 0), (20, .imm 6 []), (21, .int .i64 0), (22, .int .i64 0)]) (fun x => frmB l [.bld 90 5 b] ++ [⟨0, true, .cells 47 [.str nm, .imm 6 []]⟩]) (fun x => 0) 0 rfl rfl ⟨rfl, rfl, rfl, rfl, rfl⟩ rfl ?_
  rintro x rfl
  conv => whnf
  repeat' (first
    | (refine And.intro W1 ?_; conv => whnf)
    | (refine brD (fun _ => ?_) (fun _ => ?_) <;> first | (exfalso; omega) | (conv => whnf))
    | (refine brB (fun _ => ?_) (fun _ => ?_) <;> conv => whnf)
    | (refine CallG.b [(1, 0)] hW ⟨rfl, trivial⟩ ⟨.ptr 0 1 0 0 rfl, .same _ rfl, trivial⟩ (fun r ks' hq _ _ => ?_); obtain ⟨rfl, rfl⟩ := hq; conv => whnf))
  exact RetG.b (ks := [.bld 90 5 b]) (ks' := [.bld 90 5 (b ++ (nm ++ [10]))]) rfl rfl rfl rfl rfl rfl ⟨rfl, rfl⟩

set_option maxHeartbeats 1000000 in
theorem write31q : PCalls E 31 [.imm 2 [[.str [113], .imm 6 []]]] (· = .tup [.str [113, 10], .int .i64 0]) := by
  have hP := put69q hE [113] [] (by decide) (by decide +kernel) (by decide)
  have hS := string hE [113, 10] (by decide)
  refine p31 hE (fun l => ?_) (by simp [hbL, hb, hbLL])
  conv => whnf
  repeat' (first
    | (refine And.intro W1 ?_; conv => whnf)
    | (refine brD (fun _ => ?_) (fun _ => ?_) <;> first | (exfalso; omega) | (conv => whnf))
    | (refine brB (fun _ => ?_) (fun _ => ?_) <;> conv => whnf))
  refine LoopG.s (fun x : Nat => x ≤ 1) 24 (fun x => [(0, .imm 2 [[.str [113], .imm 6 []]]), (4, .ptr 1 0 0), (11, .imm 2 [[.str [113], .imm 6 []]]), (12, .int .i64 1), (13, .int .i64 x)]) (fun x => frmB l [.bld 90 5 (if x = 0 then [] else [113, 10])]) (fun x => 1 - x) 0 (by decide) rfl ⟨rfl, rfl, rfl, rfl, rfl⟩ rfl ?_
  rintro x h1
  match x, h1 with
  | 0, _ =>
    conv => whnf
    repeat' (first
      | (refine And.intro W1 ?_; conv => whnf)
      | (refine brD (fun _ => ?_) (fun _ => ?_) <;> first | (exfalso; omega) | (conv => whnf))
      | (refine brB (fun _ => ?_) (fun _ => ?_) <;> conv => whnf)
      | (refine CallG.b [(1, 0)] hP ⟨rfl, trivial⟩ ⟨.ptr 0 1 0 0 rfl, .same _ rfl, trivial⟩ (fun r ks' hq _ _ => ?_); obtain ⟨rfl, rfl⟩ := hq; conv => whnf))
    all_goals first | contradiction | skip
    exact ⟨1, ⟨by decide, by decide⟩, Wk.cut 2 rfl rfl rfl ⟨⟨_, rfl, .same _ rfl⟩, ⟨_, rfl, .same _ rfl⟩, ⟨_, rfl, .same _ rfl⟩, ⟨_, rfl, .same _ rfl⟩, ⟨_, rfl, .same _ rfl⟩, trivial⟩ rfl rfl⟩
  | 1, _ =>
    conv => whnf
    repeat' (first
      | (refine And.intro W1 ?_; conv => whnf)
      | (refine brD (fun _ => ?_) (fun _ => ?_) <;> first | (exfalso; omega) | (conv => whnf))
      | (refine brB (fun _ => ?_) (fun _ => ?_) <;> conv => whnf)
      | (refine CallG.b [(1, 0)] hS ⟨rfl, trivial⟩ ⟨.ptr 0 1 0 0 rfl, trivial⟩ (fun r ks' hq _ _ => ?_); obtain ⟨rfl, rfl⟩ := hq; conv => whnf))
    exact RetG.drop rfl rfl rfl ⟨rfl, rfl, rfl⟩

omit hE in
theorem aw11q : parseO [49, 32, 48, 32, 48, 32, 114, 103, 32, 47, 70, 32, 84, 102] = ([([114, 103], [.mk 2 1 1000 [] [] [], .mk 2 1 0 [] [] [], .mk 2 1 0 [] [] []]), ([84, 102], [.mk 3 0 0 [70] [] []])], 0) := by
  kernel_rfl

theorem awake42q : PCalls E 42 [] (· = .bool true) := by
  have hP := parse43 hE [49, 32, 48, 32, 48, 32, 114, 103, 32, 47, 70, 32, 84, 102] (by decide)
  rw [aw11q] at hP
  have hW := write31q hE
  have hR := wrap50 hE [] (by decide)
  have hR2 := hR.pub (args' := [nilA]) (fun n => ⟨.nil _ _, trivial⟩)
  have hB := balanced30 hE (wrapOL []) (by decide)
  have e3 : balL (wrapOL []) 0 false = true := by decide +kernel
  rw [e3] at hB
  refine p42 hE (fun l => ?_)
  have u1 : opLs [([114, 103], [Ob.mk 2 1 1000 [] [] [], .mk 2 1 0 [] [] [], .mk 2 1 0 [] [] []]), ([84, 102], [.mk 3 0 0 [70] [] []])] = [[.str [114, 103], .imm 6 [obC (.mk 2 1 1000 [] [] []), obC (.mk 2 1 0 [] [] []), obC (.mk 2 1 0 [] [] [])]], [.str [84, 102], .imm 6 [obC (.mk 3 0 0 [70] [] [])]]] := rfl
  simp only at hP
  rw [u1] at hP
  have hW2 := hW.pub (args' := [.imm 2 [[.str [113], nilA]]]) (fun n => ⟨pubOne [113] _ [] (.nil _ _), trivial⟩)
  conv => whnf
  repeat' (first
    | (refine And.intro W1 ?_; conv => whnf)
    | (refine brD (fun _ => ?_) (fun _ => ?_) <;> first | (exfalso; omega) | (conv => whnf))
    | (refine brB (fun _ => ?_) (fun _ => ?_) <;> conv => whnf)
    | ((first | refine CallG.e hP ?_ | refine CallD.e hP ?_ | refine CallQ.e hP ?_ | refine CallP.e hP ?_); conv => whnf)
    | ((first | refine CallG.e hW2 ?_ | refine CallD.e hW2 ?_ | refine CallQ.e hW2 ?_ | refine CallP.e hW2 ?_); conv => whnf)
    | ((first | refine CallG.e hR2 ?_ | refine CallD.e hR2 ?_ | refine CallQ.e hR2 ?_ | refine CallP.e hR2 ?_); conv => whnf)
    | ((first | refine CallG.e hB ?_ | refine CallD.e hB ?_ | refine CallQ.e hB ?_ | refine CallP.e hB ?_); conv => whnf))
  exact RetG.q ⟨rfl, rfl, rfl⟩
end Ink.D
