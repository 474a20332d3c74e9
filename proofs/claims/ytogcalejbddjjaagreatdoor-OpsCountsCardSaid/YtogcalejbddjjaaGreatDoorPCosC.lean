import Derived.Test.YtogcalejbddjjaaGreatDoorPCosB
import Derived.KernelRfl
set_option linter.all false
namespace Ink.D
open Go Go.Proofs
set_option maxRecDepth 100000
set_option linter.unusedSimpArgs false
set_option linter.unusedVariables false

theorem nextL_at {s : List UInt8} {p : Nat} {R : List UInt8} (h : s.drop p = R) (hp : p ≤ s.length) : nextL s p = if skip R false = R.length then (⟨0, 0, [], false, p + skip R false, p + skip R false⟩, 0) else
    if (tokL (R.drop (skip R false)) (p + skip R false)).2 = 0 then tokL (R.drop (skip R false)) (p + skip R false) else (.zero, (tokL (R.drop (skip R false)) (p + skip R false)).2) := by
  have hl : s.length = p + R.length := by rw [← h, List.length_drop]; omega
  unfold nextL
  rw [if_neg (by omega)]
  have e : spaceL s ((p : Int).toNat) = p + skip R false := by rw [Int.toNat_natCast]; unfold spaceL; rw [h]
  dsimp only
  rw [e, ← List.drop_drop, h]
  by_cases hs : skip R false = R.length
  · rw [if_pos (by omega), if_pos hs]
  · rw [if_neg (by omega), if_neg hs]

theorem drop_le {s R : List UInt8} {p : Nat} (h : s.drop p = R) (hR : R ≠ []) : p ≤ s.length := by
  rcases Nat.lt_or_ge s.length p with h1 | h1
  · rw [List.drop_eq_nil_of_le (by omega)] at h; exact absurd h.symm hR
  · exact h1

theorem drop_more {s A B : List UInt8} {p : Nat} (h : s.drop p = A ++ B) : s.drop (p + A.length) = B := by
  rw [← List.drop_drop, h, List.drop_left]

variable {s R : List UInt8} {p : Nat}

theorem nx_end (h : s.drop p = []) (hp : p ≤ s.length) : nextL s p = (⟨0, 0, [], false, p, p⟩, 0) := by
  rw [nextL_at h hp]; rfl
theorem nx_space (h : s.drop p = 32 :: R) : nextL s p = nextL s ((p + 1 : Nat) : Int) := by
  have h2 : s.drop (p + 1) = R := drop_more (A := [32]) h
  have hp := drop_le h (by simp)
  have hl : s.length = p + (R.length + 1) := by
    have := congrArg List.length h
    simp at this; omega
  rw [nextL_at h hp, nextL_at h2 (by omega)]
  have e : skip (32 :: R) false = 1 + skip R false := rfl
  rw [e]
  have e2 : (32 :: R).drop (1 + skip R false) = R.drop (skip R false) := by rw [Nat.add_comm, List.drop_succ_cons]
  rw [e2, ← Nat.add_assoc]
  by_cases hs : skip R false = R.length
  · rw [if_pos (by simp; omega), if_pos hs]
  · rw [if_neg (by simp; omega), if_neg hs]
end Ink.D

namespace Ink.D
open Go Go.Proofs
set_option maxRecDepth 100000
set_option linter.unusedSimpArgs false
set_option linter.unusedVariables false

section
variable (f : Tok → Int → PR) (s : List UInt8) (p : Int) (n : Nat)

end

section
variable {s R : List UInt8} {p : Nat}

end
end Ink.D

namespace Ink.D
open Go Go.Proofs
set_option maxRecDepth 100000
set_option linter.unusedSimpArgs false
set_option linter.unusedVariables false
variable {s : List UInt8}

end Ink.D

namespace Ink.D
open Go Go.Proofs
set_option maxRecDepth 100000
set_option linter.unusedSimpArgs false
set_option linter.unusedVariables false
variable {E : Env} (hE : E.P = Tryz.prog)

theorem and_low2 (n : Int) (m : Nat) (hm : m < 4611686018427387904) : 0 ≤ bits .and .i64 n m ∧ bits .and .i64 n m ≤ m := by
  have h1 : ((BitVec.ofInt 64 n) &&& (BitVec.ofInt 64 (m : Int))).toNat ≤ m := by
    rw [BitVec.toNat_and]
    refine Nat.le_trans Nat.and_le_right ?_
    simp [BitVec.toNat_ofInt]; omega
  have e : bits .and .i64 n m = IntKind.wrap .i64 (((BitVec.ofInt 64 n) &&& (BitVec.ofInt 64 (m : Int))).toNat : Int) := rfl
  rw [e]
  generalize ((BitVec.ofInt 64 n) &&& (BitVec.ofInt 64 (m : Int))).toNat = z at *
  have : IntKind.wrap .i64 (z : Int) = z := wrap_i64 ⟨by omega, by omega⟩
  rw [this]; omega

include hE
end Ink.D
