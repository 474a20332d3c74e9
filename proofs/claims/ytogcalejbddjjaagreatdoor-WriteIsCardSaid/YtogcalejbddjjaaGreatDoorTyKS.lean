import Derived.Test.YtogcalejbddjjaaGreatDoorCards
import Derived.Test.YtogcalejbddjjaaGreatDoorTie
import Derived.ProofKit
import Derived.OpenShut
import Derived.LaidMore
import Derived.Lay
import Derived.SevenTiedAt
import Derived.Stop.Joined
set_option linter.all false
namespace Go.Proofs.YtogcalejbddjjaaGreatDoor
open Go.ChangeShapes Go.WideShapes Go.ChangeAt Go.RowKit Go.ChangeMaps
set_option maxRecDepth 100000
theorem ks_laid : laidOutB Tryz.prog = true := by kernel_rfl
theorem ks_maps : mapsRowed Tryz.prog = true := by kernel_rfl
theorem ks_stops : Tryz.prog.stopsHeard = true := by kernel_rfl
theorem ks_enter : Tryz.prog.mayEnter = true := by kernel_rfl
theorem ks_plain : (Rows.opsCountsRow.plainKeys == Tryz.prog.plainKeys) = true := by kernel_rfl
theorem ks_lifted : (Rows.opsCountsRow.lifted == Tryz.prog.liftsFinal) = true := by kernel_rfl
theorem ks_make : (Tryz.prog.make == some Rows.opsCountsRow.make) = true := by kernel_rfl
theorem ks_looks : false = Tryz.prog.looks [] := by kernel_rfl
end Go.Proofs.YtogcalejbddjjaaGreatDoor
