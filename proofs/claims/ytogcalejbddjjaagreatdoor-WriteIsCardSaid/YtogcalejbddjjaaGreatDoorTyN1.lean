import Derived.Test.YtogcalejbddjjaaGreatDoorTyO1
import Derived.Test.YtogcalejbddjjaaGreatDoorPCosB
set_option linter.all false
namespace Ink.D
open Go Go.Proofs
set_option maxRecDepth 100000
variable {E : Env} (hE : E.P = Tryz.prog)

/-! operators: ops.Parse -/
include hE
end Ink.D
