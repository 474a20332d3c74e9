import Derived.Test.YtogcalejbddjjaaGreatDoorTyB1
set_option linter.all false
namespace Ink.D
open Go Go.Proofs
set_option maxRecDepth 100000

/-! what is written is read as it was -/
theorem andNot1 {n : Int} (hn : inI64 n) (h : bits .andNot .i64 n 1 = 0) : n = 0 ∨ n = 1 := by
  unfold bits at h
  unfold inI64 at hn
  have hb : BitVec.ofInt 64 n &&& ~~~(BitVec.ofInt 64 1) = 0#64 := by
    have h : IntKind.wrap .i64 ((BitVec.ofInt 64 n &&& ~~~(BitVec.ofInt 64 1)).toNat : Int) = 0 := h
    generalize BitVec.ofInt 64 n &&& ~~~(BitVec.ofInt 64 1) = v at h
    have hv := v.isLt
    refine BitVec.eq_of_toNat_eq ?_
    unfold IntKind.wrap at h
    simp only [show IntKind.i64.bits = 64 from rfl] at h
    have e : ((v.toNat : Nat) : Int) % 2 ^ 64 = v.toNat := by omega
    rw [e] at h
    show v.toNat = 0
    split at h <;> omega
  have hs : (BitVec.ofInt 64 n) >>> 1 = 0#64 := by
    have e : (BitVec.ofInt 64 n) >>> 1 = (BitVec.ofInt 64 n &&& ~~~(BitVec.ofInt 64 1)) >>> 1 := by
      refine BitVec.eq_of_getLsbD_eq fun i hi => ?_
      rw [BitVec.getLsbD_ushiftRight, BitVec.getLsbD_ushiftRight, BitVec.getLsbD_and, BitVec.getLsbD_not]
      have : (BitVec.ofInt 64 1).getLsbD (1 + i) = false := by
        rw [show BitVec.ofInt 64 1 = 1#64 from rfl, BitVec.getLsbD_one]
        simp
      rw [this]
      by_cases h : 1 + i < 64
      · simp [h]
      · rw [BitVec.getLsbD_of_ge _ _ (by omega)]; simp
    rw [e, hb]; rfl
  have ht := congrArg BitVec.toNat hs
  rw [BitVec.toNat_ushiftRight, BitVec.toNat_ofInt, Nat.shiftRight_eq_div_pow] at ht
  simp at ht
  omega

section
variable {s R : List UInt8} {p : Nat}

end

end Ink.D
