import Derived.Test.YtogcalejbddjjaaGreatDoorPLexB
set_option linter.all false
namespace Ink.D
open Go Go.Proofs
set_option maxRecDepth 100000
variable {E : Env} (hE : E.P = Tryz.prog)

include hE
end Ink.D

namespace Ink.D
open Go Go.Proofs
set_option maxRecDepth 100000

/-! there and back: texts -/
end Ink.D

namespace Ink.D
open Go Go.Proofs
set_option maxRecDepth 100000
variable {E : Env} (hE : E.P = Tryz.prog)

theorem quo16 (c : UInt8) : IntKind.wrap .u8 ((c.toNat : Int).tdiv 16) = ((c >>> 4).toNat : Int) ∧ IntKind.wrap .u8 (((c >>> 4).toNat : Int) + 1) = ((c >>> 4).toNat : Int) + 1 ∧ (c >>> 4).toNat < 16 := by
  revert c
  refine u8all ?_
  decide +kernel
theorem rem16 (c : UInt8) : (c.toNat : Int).tmod 16 = ((c &&& 15).toNat : Int) ∧ IntKind.wrap .u8 (((c &&& 15).toNat : Int) + 1) = ((c &&& 15).toNat : Int) + 1 ∧ (c &&& 15).toNat < 16 := by
  revert c
  refine u8all ?_
  decide +kernel
theorem slice1 (l : List UInt8) (n : Nat) (h : n < l.length) : (l.drop ((n : Nat) : Int).toNat).take ((((n : Nat) : Int) + 1).toNat - ((n : Nat) : Int).toNat) = [l.getD n 0] := by
  have e1 : ((n : Nat) : Int).toNat = n := Int.toNat_natCast n
  have e2 : (((n : Nat) : Int) + 1).toNat = n + 1 := by omega
  have e3 : n + 1 - n = 1 := by omega
  rw [e1, e2, e3, List.drop_eq_getElem_cons h, List.take_succ_cons, List.take_zero]
  simp [h]

include hE
end Ink.D
