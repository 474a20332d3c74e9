import Derived.Test.YtogcalejbddjjaaGreatDoorPWrE
import Derived.Test.YtogcalejbddjjaaGreatDoorPCosC
import Derived.Test.YtogcalejbddjjaaGreatDoorPLexC
set_option linter.all false
namespace Ink.D
open Go Go.Proofs
set_option maxRecDepth 100000

/-! a number that is written is read -/
end Ink.D
