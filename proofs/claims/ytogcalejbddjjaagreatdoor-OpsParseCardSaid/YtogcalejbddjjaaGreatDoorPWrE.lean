import Derived.Test.YtogcalejbddjjaaGreatDoorPCosB
import Derived.Test.YtogcalejbddjjaaGreatDoorPLexA
import Derived.Test.YtogcalejbddjjaaGreatDoorPWrA
import Derived.Test.YtogcalejbddjjaaGreatDoorPWrB
import Derived.Test.YtogcalejbddjjaaGreatDoorPCosE
import Derived.Lib.ItoaLen
set_option linter.all false
namespace Ink.D
open Go Go.Proofs
set_option maxRecDepth 100000
variable {E : Env} (hE : E.P = Tryz.prog)

include hE
end Ink.D

namespace Ink.D
open Go Go.Proofs
set_option maxRecDepth 100000
variable {E : Env} (hE : E.P = Tryz.prog)

include hE
end Ink.D

namespace Ink.D
open Go Go.Proofs
set_option maxRecDepth 100000
variable {E : Env} (hE : E.P = Tryz.prog)

include hE
end Ink.D

namespace Ink.D
open Go Go.Proofs
set_option maxRecDepth 100000
variable {E : Env} (hE : E.P = Tryz.prog)

include hE
end Ink.D

namespace Ink.D
open Go Go.Proofs
set_option maxRecDepth 100000

end Ink.D

namespace Ink.D
open Go Go.Proofs
set_option maxRecDepth 100000

end Ink.D
