import Derived.Test.YtogcalejbddjjaaGreatDoorPCosB
import Derived.KernelRfl
set_option linter.all false
namespace Ink.D
open Go Go.Proofs
set_option maxRecDepth 100000

variable {s R : List UInt8} {p : Nat}

end Ink.D

namespace Ink.D
open Go Go.Proofs
set_option maxRecDepth 100000

section
variable (f : Tok → Int → PR) (s : List UInt8) (p : Int) (n : Nat)

end

section
variable {s R : List UInt8} {p : Nat}

end
end Ink.D
