import Derived.Test.YtogcalejbddjjaaGreatDoorPCosC
set_option linter.all false
namespace Ink.D
open Go Go.Proofs
set_option maxRecDepth 100000

/-! operators: what ops.Parse tells, in plain Lean -/
variable {s R : List UInt8} {p : Nat}
end Ink.D
