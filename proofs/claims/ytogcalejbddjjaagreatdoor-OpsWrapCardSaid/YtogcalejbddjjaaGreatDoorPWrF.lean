import Derived.Test.YtogcalejbddjjaaGreatDoorPWrE
import Derived.Test.YtogcalejbddjjaaGreatDoorPWrB
import Derived.Test.YtogcalejbddjjaaGreatDoorPLexA
set_option linter.all false
namespace Ink.D
open Go Go.Proofs
set_option maxRecDepth 100000
variable {E : Env} (hE : E.P = Tryz.prog)

def resT (o : Ob) : List UInt8 := if errF o = 0 then txt o else []
theorem objAVF_eq (o : Ob) : objAVF o = .tup [.str (resT o), .int .i64 (errF o)] := by
  unfold objAVF resT
  by_cases h : errF o = 0
  · rw [if_pos h, if_pos h, h]
  · rw [if_neg h, if_neg h]

include hE
end Ink.D
