import Derived.Test.YtogcalejbddjjaaGreatDoorTyN1
import Derived.Test.YtogcalejbddjjaaGreatDoorPWrF
set_option linter.all false
namespace Ink.D
open Go Go.Proofs
set_option maxRecDepth 100000
variable {E : Env} (hE : E.P = Tryz.prog)

/-! operators: ops.Write -/
include hE
theorem objectR (hT : TabE E) (o : Ob) (hc : countO o < big) (hok : errF o = 0 → okW o = true ∧ (txt o).length < 1000000000) : PCalls E 19 [.agg (obC o)] (· = .tup [.str (resT o), .int .i64 (errF o)]) := by
  have := objectF hE hT o hc hok
  rwa [objAVF_eq] at this

end Ink.D
