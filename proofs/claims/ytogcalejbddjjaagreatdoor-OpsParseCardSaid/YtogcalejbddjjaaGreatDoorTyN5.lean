import Derived.Test.YtogcalejbddjjaaGreatDoorTyN4
import Derived.Test.YtogcalejbddjjaaGreatDoorPWrB
set_option linter.all false
namespace Ink.D
open Go Go.Proofs
set_option maxRecDepth 100000
variable {E : Env} (hE : E.P = Tryz.prog)

/-! law 11: the document's example; so many operands; references -/
include hE
end Ink.D
