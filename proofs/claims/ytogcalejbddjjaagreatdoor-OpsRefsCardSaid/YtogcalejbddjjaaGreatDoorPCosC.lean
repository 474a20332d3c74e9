import Derived.Test.YtogcalejbddjjaaGreatDoorPCosB
import Derived.KernelRfl
set_option linter.all false
namespace Ink.D
open Go Go.Proofs
set_option maxRecDepth 100000
set_option linter.unusedSimpArgs false
set_option linter.unusedVariables false

variable {s R : List UInt8} {p : Nat}

end Ink.D

namespace Ink.D
open Go Go.Proofs
set_option maxRecDepth 100000
set_option linter.unusedSimpArgs false
set_option linter.unusedVariables false

section
variable (f : Tok → Int → PR) (s : List UInt8) (p : Int) (n : Nat)

end

section
variable {s R : List UInt8} {p : Nat}

end
end Ink.D

namespace Ink.D
open Go Go.Proofs
set_option maxRecDepth 100000
set_option linter.unusedSimpArgs false
set_option linter.unusedVariables false
variable {s : List UInt8}

end Ink.D

namespace Ink.D
open Go Go.Proofs
set_option maxRecDepth 100000
set_option linter.unusedSimpArgs false
set_option linter.unusedVariables false
variable {E : Env} (hE : E.P = Tryz.prog)

theorem and_low2 (n : Int) (m : Nat) (hm : m < 4611686018427387904) : 0 ≤ bits .and .i64 n m ∧ bits .and .i64 n m ≤ m := by
  have h1 : ((BitVec.ofInt 64 n) &&& (BitVec.ofInt 64 (m : Int))).toNat ≤ m := by
    rw [BitVec.toNat_and]
    refine Nat.le_trans Nat.and_le_right ?_
    simp [BitVec.toNat_ofInt]; omega
  have e : bits .and .i64 n m = IntKind.wrap .i64 (((BitVec.ofInt 64 n) &&& (BitVec.ofInt 64 (m : Int))).toNat : Int) := rfl
  rw [e]
  generalize ((BitVec.ofInt 64 n) &&& (BitVec.ofInt 64 (m : Int))).toNat = z at *
  have : IntKind.wrap .i64 (z : Int) = z := wrap_i64 ⟨by omega, by omega⟩
  rw [this]; omega

include hE
end Ink.D
