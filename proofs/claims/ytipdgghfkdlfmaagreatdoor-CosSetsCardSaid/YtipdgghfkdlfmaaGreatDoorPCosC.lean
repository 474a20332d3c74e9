import Derived.Test.YtipdgghfkdlfmaaGreatDoorPCosB
import Derived.KernelRfl
set_option linter.all false
namespace Ink.D
open Go Go.Proofs
set_option maxRecDepth 100000
set_option linter.unusedSimpArgs false
set_option linter.unusedVariables false
variable {E : Env} (hE : E.P = Tryz.prog)

abbrev awT1 : List UInt8 := [91, 49, 32, 48, 32, 82, 32, 47, 65, 93]
abbrev awT2 : List UInt8 := [60, 60, 47, 65, 32, 110, 117, 108, 108, 62, 62]
abbrev awO1 : Ob := .mk 5 0 0 [] [.mk 7 1 0 [] [] [], .mk 3 0 0 [65] [] []] []
abbrev awO2 : Ob := .mk 6 0 0 [] [] []

theorem awP1 : parseR awT1 0 = (awO1, 10, 0) := by kernel_rfl
theorem awP2 : parseR awT2 0 = (awO2, 11, 0) := by kernel_rfl
theorem awI : intO 3 = .mk 2 1 3000 [] [] [] := by kernel_rfl
theorem awS : setL awO2 [120] (.mk 2 1 3000 [] [] []) = .mk 6 0 0 [] [] [([120], .mk 2 1 3000 [] [] [])] := by kernel_rfl
theorem awG : getL (.mk 6 0 0 [] [] [([120], .mk 2 1 3000 [] [] [])]) [120] = .mk 2 1 3000 [] [] [] := by kernel_rfl
theorem awC : countO awO1 = 3 := by kernel_rfl
theorem awE : sameO awO1 awO1 = true := by kernel_rfl

include hE
theorem awake30 : PCalls E 6 [] (· = .bool true) := by
  have h1 := parse31 hE awT1 0 (by decide)
  have h2 := parse31 hE awT2 0 (by decide)
  rw [awP1] at h1
  rw [awP2] at h2
  have h3 := int34 hE 3
  rw [awI] at h3
  have h4 := set hE awO2 [120] (.mk 2 1 3000 [] [] []) (fun k n f s l d h => by cases h; decide)
  rw [awS] at h4
  have h5 := get35 hE 6 0 0 [] [] [([120], .mk 2 1 3000 [] [] [])] [120] (by decide)
  rw [awG] at h5
  have h6 := count32 hE _ awO1 (Nat.lt_succ_self _) (by rw [awC]; decide)
  rw [awC] at h6
  have h7 := same50 hE _ awO1 awO1 (Nat.lt_succ_self _) (by rw [awC]; decide) (by rw [awC]; decide)
  rw [awE] at h7
  refine p6 hE fun l => ?_
  unfold obC at h1 h2 h3 h4 h5 h6 h7
  conv => whnf
  repeat' (first
    | (refine And.intro ?_ ?_; (focus (first | omega | decide | (unfold inI64; omega) | (simp only [List.length_append, List.length_cons, List.length_nil] <;> omega) | (refine ⟨?_, ?_⟩ <;> omega) | (refine ⟨?_, ?_, ?_, ?_, ?_, ?_⟩ <;> first | rfl | trivial | decide | omega | (simp [bytesAV_length] <;> omega)) | (simp <;> omega) | (unfold inI64; simp only [List.length_append, List.length_cons, List.length_nil] <;> omega))); conv => whnf)
    | (refine brD (fun _ => ?_) (fun _ => ?_) <;> first | (exfalso; omega) | (conv => whnf))
    | (refine brB (fun _ => ?_) (fun _ => ?_) <;> conv => whnf)
    | ((first | refine CallG.e (h1) ?_ | refine CallD.e (h1) ?_ | refine CallQ.e (h1) ?_ | refine CallP.e (h1) ?_); conv => whnf)
    | ((first | refine CallG.e (h2) ?_ | refine CallD.e (h2) ?_ | refine CallQ.e (h2) ?_ | refine CallP.e (h2) ?_); conv => whnf)
    | ((first | refine CallG.e (h3) ?_ | refine CallD.e (h3) ?_ | refine CallQ.e (h3) ?_ | refine CallP.e (h3) ?_); conv => whnf)
    | ((first | refine CallG.e (h4) ?_ | refine CallD.e (h4) ?_ | refine CallQ.e (h4) ?_ | refine CallP.e (h4) ?_); conv => whnf)
    | ((first | refine CallG.e (h5) ?_ | refine CallD.e (h5) ?_ | refine CallQ.e (h5) ?_ | refine CallP.e (h5) ?_); conv => whnf)
    | ((first | refine CallG.e (h6) ?_ | refine CallD.e (h6) ?_ | refine CallQ.e (h6) ?_ | refine CallP.e (h6) ?_); conv => whnf)
    | ((first | refine CallG.e (h7) ?_ | refine CallD.e (h7) ?_ | refine CallQ.e (h7) ?_ | refine CallP.e (h7) ?_); conv => whnf))
  exact RetG.drop rfl rfl rfl ⟨rfl, rfl, rfl⟩
end Ink.D
