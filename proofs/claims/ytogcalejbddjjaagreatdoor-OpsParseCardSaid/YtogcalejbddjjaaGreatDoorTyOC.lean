import Derived.Test.YtogcalejbddjjaaGreatDoorPCosE
import Derived.Test.YtogcalejbddjjaaGreatDoorTyN1
set_option linter.all false
namespace Ink.D
open Go Go.Proofs Go.ChangeShapes Go.WideShapes Go.ChangeAt Go.RowKit
set_option maxRecDepth 100000

/-! operators handed in -/
section
variable {H : Type} {enc : TypeId × Value → H} {P : Program} {W : World} {sp : Nat → Bool}
variable {tI tF tS tL tD tO tE tQ tP : TypeId}

instance : Inhabited OpL := ⟨([], [])⟩

end
end Ink.D
