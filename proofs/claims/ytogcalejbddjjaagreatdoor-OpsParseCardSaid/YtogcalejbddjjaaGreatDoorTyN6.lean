import Derived.Test.YtogcalejbddjjaaGreatDoorTyN5
import Derived.Test.YtogcalejbddjjaaGreatDoorPCosC
set_option linter.all false
namespace Ink.D
open Go Go.Proofs
set_option maxRecDepth 100000
variable {E : Env} (hE : E.P = Tryz.prog)

/-! so many operands -/
include hE
end Ink.D
