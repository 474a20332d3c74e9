/-
  DERIVED. GIVEN WITH THE SEED: THE CARDS: each row of YtipdgghfkdlfmaaGreatDoorRows.lean that lists a variable, with what it lists TIED to the program's text (the seventh form; the later family's looks); each row that meets fmt, with fmt's text TOLD by the authors' own Lean function (tested against real Go, not proved from fmt's source: count such statements apart). THE CARD IS WHAT COUNTS. Prove the row's statement (the work); the ties are given (YtipdgghfkdlfmaaGreatDoorTie.lean); close each card by the builder's one call (the guide's Derived/Test/ToyasCard.lean, 'card_holds'). Laid BY PROGRAM, IN A SANDBOX (cutbox-door.mjs). By AI agents, Wed Nov 11 2026. No macro, syntax, notation, axiom, sorry.
-/
import Derived.Test.YtipdgghfkdlfmaaGreatDoorRows
import GoSem.ClaimSeven
namespace Go.Proofs.YtipdgghfkdlfmaaGreatDoor
namespace Rows

/-- THE TIED CARD OF 'inkstandlaw04.CosSets'. -/
def cosSetsCard : Claim7 := { stood := { row := cosSetsRow, standIns := [], harness := (true, "f2a2dcfab70975112707e47e3015dab2d8614ac46b2f902abc7b447cba3c7b85"), looks := false }, kinds := [], alts := [], laidByText := true, laidKinds := [.data, .pinned], laidTests := true, laidLooks := .later }
def CosSetsCardSaid : Prop := Claim7.holds Tryz.pinned (.plain (OpenSpec.ofChange cosSetsSpec)) cosSetsCard

/-- THE TIED CARD OF 'inkstandlaw04.CosSame'. -/
def cosSameCard : Claim7 := { stood := { row := cosSameRow, standIns := [], harness := (true, "f2a2dcfab70975112707e47e3015dab2d8614ac46b2f902abc7b447cba3c7b85"), looks := false }, kinds := [], alts := [], laidByText := true, laidKinds := [.data, .pinned], laidTests := true, laidLooks := .later }
def CosSameCardSaid : Prop := Claim7.holds Tryz.pinned (.plain (OpenSpec.ofChange cosSameSpec)) cosSameCard

/-- THE TIED CARD OF 'inkstandlaw05.WriteIs'. -/
def writeIsCard : Claim7 := { stood := { row := writeIsRow, standIns := [], harness := (true, "f2a2dcfab70975112707e47e3015dab2d8614ac46b2f902abc7b447cba3c7b85"), looks := false }, kinds := [], alts := [], laidByText := true, laidKinds := [.data, .data, .data, .data, .pinned], laidTests := true, laidLooks := .later }
def WriteIsCardSaid : Prop := Claim7.holds Tryz.pinned (.plain (OpenSpec.ofChange writeIsSpec)) writeIsCard

/-- THE SECOND FORM's CARD OF 'inkstandlaw04.CosSets'. -/
def cosSetsUptoCard : Claim7 := { stood := { row := cosSetsUptoRow, standIns := [], harness := (true, "f2a2dcfab70975112707e47e3015dab2d8614ac46b2f902abc7b447cba3c7b85"), looks := false }, kinds := [], alts := [], laidByText := true, laidKinds := [.data, .pinned], laidTests := true, laidLooks := .later }
def CosSetsUptoCardSaid : Prop := Claim7.holds Tryz.pinned (.plain (OpenSpec.upto cosSetsSpec)) cosSetsUptoCard

/-- THE SECOND FORM's CARD OF 'inkstandlaw04.CosSame'. -/
def cosSameUptoCard : Claim7 := { stood := { row := cosSameUptoRow, standIns := [], harness := (true, "f2a2dcfab70975112707e47e3015dab2d8614ac46b2f902abc7b447cba3c7b85"), looks := false }, kinds := [], alts := [], laidByText := true, laidKinds := [.data, .pinned], laidTests := true, laidLooks := .later }
def CosSameUptoCardSaid : Prop := Claim7.holds Tryz.pinned (.plain (OpenSpec.upto cosSameSpec)) cosSameUptoCard

/-- THE SECOND FORM's CARD OF 'inkstandlaw05.WriteIs'. -/
def writeIsUptoCard : Claim7 := { stood := { row := writeIsUptoRow, standIns := [], harness := (true, "f2a2dcfab70975112707e47e3015dab2d8614ac46b2f902abc7b447cba3c7b85"), looks := false }, kinds := [], alts := [], laidByText := true, laidKinds := [.data, .data, .data, .data, .pinned], laidTests := true, laidLooks := .later }
def WriteIsUptoCardSaid : Prop := Claim7.holds Tryz.pinned (.plain (OpenSpec.upto writeIsSpec)) writeIsUptoCard
end Rows
end Go.Proofs.YtipdgghfkdlfmaaGreatDoor
