import Derived.Test.YtogcalejbddjjaaGreatDoorPObj
import Derived.Test.YtogcalejbddjjaaGreatDoorInkC
import Derived.Test.YtogcalejbddjjaaGreatDoorPCosB
import Derived.Test.YtogcalejbddjjaaGreatDoorPLexA
set_option linter.all false
namespace Ink.D
open Go Go.Proofs Go.ChangeShapes Go.WideShapes Go.ChangeAt Go.RowKit
set_option maxRecDepth 100000

section
variable {H : Type} {enc : TypeId × Value → H} {P : Program} {W : World} {sp : Nat → Bool}

instance : Inhabited Ob := ⟨.mk 0 0 0 [] [] []⟩

variable {tI tF tS tL tD tO tE : TypeId}

end
end Ink.D

namespace Ink.D
open Go Go.Proofs
set_option maxRecDepth 100000
variable {E : Env} (hE : E.P = Tryz.prog)

include hE
end Ink.D
