import Derived.Test.YtogcalejbddjjaaGreatDoorTyQ1
import Derived.Test.YtogcalejbddjjaaGreatDoorTyB2
import Derived.Test.YtogcalejbddjjaaGreatDoorPCosI
set_option linter.all false
namespace Ink.D
open Go Go.Proofs
set_option maxRecDepth 100000

/-! operators that are written are read -/
section
variable {s R : List UInt8} {p : Nat}

end

end Ink.D
