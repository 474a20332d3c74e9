import Derived.Test.YtogcalejbddjjaaGreatDoorTyN4
import Derived.Test.YtogcalejbddjjaaGreatDoorPWrB
set_option linter.all false
namespace Ink.D
open Go Go.Proofs
set_option maxRecDepth 100000
variable {E : Env} (hE : E.P = Tryz.prog)

/-! law 11: the document's example; so many operands; references -/
theorem aw11 : parseO [49, 32, 48, 32, 48, 32, 114, 103, 32, 47, 70, 32, 84, 102] = ([([114, 103], [.mk 2 1 1000 [] [] [], .mk 2 1 0 [] [] [], .mk 2 1 0 [] [] []]), ([84, 102], [.mk 3 0 0 [70] [] []])], 0) := by
  kernel_rfl

include hE
theorem awake42 (hT : TabE E) : PCalls E 42 [] (· = .bool true) := by
  have hP := parse43 hE [49, 32, 48, 32, 48, 32, 114, 103, 32, 47, 70, 32, 84, 102] (by decide)
  rw [aw11] at hP
  have hW := write31 hE hT [opQ] (by decide) (by intro p hp; simp at hp; subst hp; exact ⟨by decide, by decide, by simp⟩) (by decide)
  have e1 : (if writeE [opQ] = 0 then writeT [opQ] else []) = [113, 10] := by decide +kernel
  have e2 : writeE [opQ] = 0 := by decide +kernel
  rw [e1, e2] at hW
  have hR := wrap50 hE [] (by decide)
  have hR2 := hR.pub (args' := [nilA]) (fun n => ⟨.nil _ _, trivial⟩)
  have hB := balanced30 hE (wrapOL []) (by decide)
  have e3 : balL (wrapOL []) 0 false = true := by decide +kernel
  rw [e3] at hB
  refine p42 hE (fun l => ?_)
  have u1 : opLs [([114, 103], [Ob.mk 2 1 1000 [] [] [], .mk 2 1 0 [] [] [], .mk 2 1 0 [] [] []]), ([84, 102], [.mk 3 0 0 [70] [] []])] = [[.str [114, 103], .imm 6 [obC (.mk 2 1 1000 [] [] []), obC (.mk 2 1 0 [] [] []), obC (.mk 2 1 0 [] [] [])]], [.str [84, 102], .imm 6 [obC (.mk 3 0 0 [70] [] [])]]] := rfl
  simp only at hP
  rw [u1] at hP
  have hW2 := hW.pub (args' := [.imm 2 [[.str [113], nilA]]]) (fun n => ⟨pubOne [113] _ [] (.nil _ _), trivial⟩)
  conv => whnf
  repeat' (first
    | (refine And.intro W1 ?_; conv => whnf)
    | (refine brD (fun _ => ?_) (fun _ => ?_) <;> first | (exfalso; omega) | (conv => whnf))
    | (refine brB (fun _ => ?_) (fun _ => ?_) <;> conv => whnf)
    | ((first | refine CallG.e hP ?_ | refine CallD.e hP ?_ | refine CallQ.e hP ?_ | refine CallP.e hP ?_); conv => whnf)
    | ((first | refine CallG.e hW2 ?_ | refine CallD.e hW2 ?_ | refine CallQ.e hW2 ?_ | refine CallP.e hW2 ?_); conv => whnf)
    | ((first | refine CallG.e hR2 ?_ | refine CallD.e hR2 ?_ | refine CallQ.e hR2 ?_ | refine CallP.e hR2 ?_); conv => whnf)
    | ((first | refine CallG.e hB ?_ | refine CallD.e hB ?_ | refine CallQ.e hB ?_ | refine CallP.e hB ?_); conv => whnf))
  exact RetG.q ⟨rfl, rfl, rfl⟩
end Ink.D
