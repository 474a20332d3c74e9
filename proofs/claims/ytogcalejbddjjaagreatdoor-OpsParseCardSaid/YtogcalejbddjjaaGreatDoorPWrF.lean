import Derived.Test.YtogcalejbddjjaaGreatDoorPWrE
import Derived.Test.YtogcalejbddjjaaGreatDoorPWrB
import Derived.Test.YtogcalejbddjjaaGreatDoorPLexA
set_option linter.all false
namespace Ink.D
open Go Go.Proofs
set_option maxRecDepth 100000
variable {E : Env} (hE : E.P = Tryz.prog)

include hE
end Ink.D
