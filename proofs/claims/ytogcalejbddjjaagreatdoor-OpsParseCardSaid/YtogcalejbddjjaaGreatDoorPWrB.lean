import Derived.Test.YtogcalejbddjjaaGreatDoorPWrA
import Derived.Test.YtogcalejbddjjaaGreatDoorInkE
set_option linter.all false
namespace Ink.D
open Go Go.Proofs
set_option maxRecDepth 100000
variable {E : Env} (hE : E.P = Tryz.prog)

def numT (n f : Int) : List UInt8 := if n = 0 ∧ f.tmod 1000 = 0 then printL f ++ [46, 48] else printL f

theorem printL_len (f : Int) (hf : mayF f = true) : (printL f).length ≤ 20 := by
  have hm : -2147483648 ≤ f ∧ f ≤ 2147483648 := by simpa [mayF] using hf
  have h1 := fixO_len (fixB f)
  have h2 : (Lib.decDigits f.natAbs).length ≤ 10 := dec_len 9 _ (by omega)
  have h3 : (fixB f).length ≤ 14 := by
    unfold fixB
    split
    · rw [List.length_append, Lib.repeatL_length]; simp; omega
    · omega
  unfold printL
  split <;> simp <;> omega

include hE
theorem number (hT : TabE E) (k n f : Int) (s : List UInt8) (l_ : List Ob) (d : List (List UInt8 × Ob)) (hf : mayF f = true) :
    PCalls E 94 [.agg (obC (.mk k n f s l_ d))] (· = .str (numT n f)) := by
  have hP := print hE hT f hf
  have hl := printL_len f hf
  refine p94 hE (fun l => ?_) (by simp [hbL, hb, obC_hb])
  unfold obC numT
  generalize printL f = p at *
  conv => whnf
  repeat' (first
    | (refine And.intro W1 ?_; conv => whnf)
    | (refine brD (fun _ => ?_) (fun _ => ?_) <;> first | (exfalso; omega) | (conv => whnf))
    | (refine brB (fun _ => ?_) (fun _ => ?_) <;> conv => whnf)
    | ((first | refine CallG.e hP ?_ | refine CallD.e hP ?_ | refine CallQ.e hP ?_); conv => whnf))
  all_goals
    refine RetG.drop rfl rfl rfl ⟨rfl, ?_, rfl⟩
    split <;> first | rfl | (exfalso; omega)

end Ink.D

namespace Ink.D
open Go Go.Proofs
set_option maxRecDepth 100000
variable {E : Env} (hE : E.P = Tryz.prog)

include hE
end Ink.D

namespace Ink.D
open Go Go.Proofs
set_option maxRecDepth 100000
variable {E : Env} (hE : E.P = Tryz.prog)

include hE
end Ink.D

namespace Ink.D
open Go Go.Proofs
set_option maxRecDepth 100000
variable {E : Env} (hE : E.P = Tryz.prog)

include hE
end Ink.D
