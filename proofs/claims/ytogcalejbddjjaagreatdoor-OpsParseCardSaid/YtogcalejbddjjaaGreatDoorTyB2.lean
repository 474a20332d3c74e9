import Derived.Test.YtogcalejbddjjaaGreatDoorTyB1
set_option linter.all false
namespace Ink.D
open Go Go.Proofs
set_option maxRecDepth 100000

/-! what is written is read as it was -/
section
variable {s R : List UInt8} {p : Nat}

end

end Ink.D
