import Derived.Test.YtogcalejbddjjaaGreatDoorTyU7
import Derived.Test.YtogcalejbddjjaaGreatDoorTyQ4
import Derived.Test.YtogcalejbddjjaaGreatDoorTyA1
set_option linter.all false
namespace Ink.D
open Go Go.Proofs
set_option maxRecDepth 100000
variable {E : Env} (hE : E.P = Tryz.prog)

include hE
set_option maxHeartbeats 1000000 in
theorem opsParse (s : List UInt8) (h0 : s.length ≤ 9223372036854775807) : PCalls E 14 [.str s] (· = .bool true) := by
  have hA := awake42q hE
  by_cases hl : s.length > 1500
  · have hl' : (s.length : Int) > 1500 := by omega
    refine p14 hE (fun l => ?_)
    conv => whnf
    repeat' (first
      | (refine And.intro W1 ?_; conv => whnf)
      | (refine brD (fun _ => ?_) (fun _ => ?_) <;> first | (exfalso; omega) | (conv => whnf))
      | (refine brB (fun _ => ?_) (fun _ => ?_) <;> conv => whnf)
      | ((first | refine CallG.e hA ?_ | refine CallD.e hA ?_ | refine CallQ.e hA ?_ | refine CallP.e hA ?_); conv => whnf))
    all_goals first | contradiction | exact RetG.q ⟨rfl, rfl, rfl⟩
  · have hl' : ¬ (s.length : Int) > 1500 := by omega
    have h1 := parse43 hE s (by omega)
    have h2 := parse44 hE s (by omega)
    have hc := parO_cnt s (parM [] []) 0 [] [] (by simp) (by simp) (by simp) (by simp)
    have hth := theirs46 hE (parseO s).1 (by have := hc.1; unfold parseO; omega)
    have hsm := same45 hE (parseO s).1 (by have := hc.1; unfold parseO; omega) (fun p hp => ⟨by have := (hc.2 p hp).1; omega, fun o ho => by have := (hc.2 p hp).2 o ho; unfold big; omega⟩)
    generalize parseO s = x at *
    obtain ⟨ops, e⟩ := x
    have hL : ∀ n0, hbLL n0 (opLs ops) = true := fun n0 => opLs_hb ops
    simp only at *
    refine p14 hE (fun l => ?_)
    conv => whnf
    repeat' (first
      | (refine And.intro W1 ?_; conv => whnf)
      | (refine brD (fun _ => ?_) (fun _ => ?_) <;> first | (exfalso; omega) | (conv => whnf))
      | (refine brB (fun _ => ?_) (fun _ => ?_) <;> conv => whnf)
      | ((first | refine CallG.e hA ?_ | refine CallD.e hA ?_ | refine CallQ.e hA ?_ | refine CallP.e hA ?_); conv => whnf)
      | ((first | refine CallG.e h1 ?_ | refine CallD.e h1 ?_ | refine CallQ.e h1 ?_ | refine CallP.e h1 ?_); conv => whnf)
      | ((first | refine CallG.e h2 ?_ | refine CallD.e h2 ?_ | refine CallQ.e h2 ?_ | refine CallP.e h2 ?_); conv => whnf)
      | ((first | refine CallG.e hth ?_ | refine CallD.e hth ?_ | refine CallQ.e hth ?_ | refine CallP.e hth ?_); conv => whnf)
      | ((first | refine CallG.e hsm ?_ | refine CallD.e hsm ?_ | refine CallQ.e hsm ?_ | refine CallP.e hsm ?_); conv => whnf))
    all_goals first | contradiction | exact RetG.q ⟨rfl, rfl, rfl⟩
end Ink.D
