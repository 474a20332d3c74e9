/-
  DERIVED. GIVEN WITH THE SEED: THE CARDS: each row of YtipdgghfkdlfmaaDoorRows.lean that lists a variable, with what it lists TIED to the program's text (the seventh form; the later family's looks); each row that meets fmt, with fmt's text TOLD by the authors' own Lean function (tested against real Go, not proved from fmt's source: count such statements apart). THE CARD IS WHAT COUNTS. Prove the row's statement (the work); the ties are given (YtipdgghfkdlfmaaDoorTie.lean); close each card by the builder's one call (the guide's Derived/Test/ToyasCard.lean, 'card_holds'). Laid BY PROGRAM, IN A SANDBOX (cutbox-door.mjs). By AI agents, Wed Nov 11 2026. No macro, syntax, notation, axiom, sorry.
-/
import Derived.Test.YtipdgghfkdlfmaaDoorRows
import GoSem.ClaimSeven
namespace Go.Proofs.YtipdgghfkdlfmaaDoor
namespace Rows

/-- THE TIED CARD OF 'inkstandlaw03.LexReads'. -/
def lexReadsCard : Claim7 := { stood := { row := lexReadsRow, standIns := [], harness := (true, "6f2d13550ee31bf04b2a69c2872f23488c6af5de7be3ac3ef3e501a2550756c9"), looks := false }, kinds := [], alts := [], laidByText := true, laidKinds := [.data, .pinned], laidTests := true, laidLooks := .later }
def LexReadsCardSaid : Prop := Claim7.holds Tryd.pinned (.plain (OpenSpec.ofChange lexReadsSpec)) lexReadsCard

/-- THE TIED CARD OF 'inkstandlaw03.LexWrites'. -/
def lexWritesCard : Claim7 := { stood := { row := lexWritesRow, standIns := [], harness := (true, "6f2d13550ee31bf04b2a69c2872f23488c6af5de7be3ac3ef3e501a2550756c9"), looks := false }, kinds := [], alts := [], laidByText := true, laidKinds := [.data, .pinned], laidTests := true, laidLooks := .later }
def LexWritesCardSaid : Prop := Claim7.holds Tryd.pinned (.plain (OpenSpec.ofChange lexWritesSpec)) lexWritesCard

/-- THE TIED CARD OF 'inkstandlaw03.LexBack'. -/
def lexBackCard : Claim7 := { stood := { row := lexBackRow, standIns := [], harness := (true, "6f2d13550ee31bf04b2a69c2872f23488c6af5de7be3ac3ef3e501a2550756c9"), looks := false }, kinds := [], alts := [], laidByText := true, laidKinds := [.data, .pinned], laidTests := true, laidLooks := .later }
def LexBackCardSaid : Prop := Claim7.holds Tryd.pinned (.plain (OpenSpec.ofChange lexBackSpec)) lexBackCard

/-- THE TIED CARD OF 'inkstandlaw03.LexSpaces'. -/
def lexSpacesCard : Claim7 := { stood := { row := lexSpacesRow, standIns := [], harness := (true, "6f2d13550ee31bf04b2a69c2872f23488c6af5de7be3ac3ef3e501a2550756c9"), looks := false }, kinds := [], alts := [], laidByText := true, laidKinds := [.data, .pinned], laidTests := true, laidLooks := .later }
def LexSpacesCardSaid : Prop := Claim7.holds Tryd.pinned (.plain (OpenSpec.ofChange lexSpacesSpec)) lexSpacesCard

/-- THE TIED CARD OF 'inkstandlaw03.LexEnds'. -/
def lexEndsCard : Claim7 := { stood := { row := lexEndsRow, standIns := [], harness := (true, "6f2d13550ee31bf04b2a69c2872f23488c6af5de7be3ac3ef3e501a2550756c9"), looks := false }, kinds := [], alts := [], laidByText := true, laidKinds := [.data, .pinned], laidTests := true, laidLooks := .later }
def LexEndsCardSaid : Prop := Claim7.holds Tryd.pinned (.plain (OpenSpec.ofChange lexEndsSpec)) lexEndsCard

/-- THE TIED CARD OF 'inkstandlaw03.LexHex'. -/
def lexHexCard : Claim7 := { stood := { row := lexHexRow, standIns := [], harness := (true, "6f2d13550ee31bf04b2a69c2872f23488c6af5de7be3ac3ef3e501a2550756c9"), looks := false }, kinds := [], alts := [], laidByText := true, laidKinds := [.data, .pinned], laidTests := true, laidLooks := .later }
def LexHexCardSaid : Prop := Claim7.holds Tryd.pinned (.plain (OpenSpec.ofChange lexHexSpec)) lexHexCard

/-- THE TIED CARD OF 'inkstandlaw03.LexPairs'. -/
def lexPairsCard : Claim7 := { stood := { row := lexPairsRow, standIns := [], harness := (true, "6f2d13550ee31bf04b2a69c2872f23488c6af5de7be3ac3ef3e501a2550756c9"), looks := false }, kinds := [], alts := [], laidByText := true, laidKinds := [.data, .pinned], laidTests := true, laidLooks := .later }
def LexPairsCardSaid : Prop := Claim7.holds Tryd.pinned (.plain (OpenSpec.ofChange lexPairsSpec)) lexPairsCard

/-- THE TIED CARD OF 'inkstandlaw04.CosDeep'. -/
def cosDeepCard : Claim7 := { stood := { row := cosDeepRow, standIns := [], harness := (true, "6f2d13550ee31bf04b2a69c2872f23488c6af5de7be3ac3ef3e501a2550756c9"), looks := false }, kinds := [], alts := [], laidByText := true, laidKinds := [.data, .pinned], laidTests := true, laidLooks := .later }
def CosDeepCardSaid : Prop := Claim7.holds Tryd.pinned (.plain (OpenSpec.ofChange cosDeepSpec)) cosDeepCard

/-- THE TIED CARD OF 'inkstandlaw04.CosCounts'. -/
def cosCountsCard : Claim7 := { stood := { row := cosCountsRow, standIns := [], harness := (true, "6f2d13550ee31bf04b2a69c2872f23488c6af5de7be3ac3ef3e501a2550756c9"), looks := false }, kinds := [], alts := [], laidByText := true, laidKinds := [.data, .pinned], laidTests := true, laidLooks := .later }
def CosCountsCardSaid : Prop := Claim7.holds Tryd.pinned (.plain (OpenSpec.ofChange cosCountsSpec)) cosCountsCard

/-- THE TIED CARD OF 'inkstandlaw05.WriteParts'. -/
def writePartsCard : Claim7 := { stood := { row := writePartsRow, standIns := [], harness := (true, "6f2d13550ee31bf04b2a69c2872f23488c6af5de7be3ac3ef3e501a2550756c9"), looks := false }, kinds := [], alts := [], laidByText := true, laidKinds := [.data, .data, .data, .data, .pinned], laidTests := true, laidLooks := .later }
def WritePartsCardSaid : Prop := Claim7.holds Tryd.pinned (.plain (OpenSpec.ofChange writePartsSpec)) writePartsCard

/-- THE TIED CARD OF 'inkstandlaw05.WriteTexts'. -/
def writeTextsCard : Claim7 := { stood := { row := writeTextsRow, standIns := [], harness := (true, "6f2d13550ee31bf04b2a69c2872f23488c6af5de7be3ac3ef3e501a2550756c9"), looks := false }, kinds := [], alts := [], laidByText := true, laidKinds := [.data, .data, .data, .data, .pinned], laidTests := true, laidLooks := .later }
def WriteTextsCardSaid : Prop := Claim7.holds Tryd.pinned (.plain (OpenSpec.ofChange writeTextsSpec)) writeTextsCard

/-- THE TIED CARD OF 'inkstandlaw05.WriteLimits'. -/
def writeLimitsCard : Claim7 := { stood := { row := writeLimitsRow, standIns := [], harness := (true, "6f2d13550ee31bf04b2a69c2872f23488c6af5de7be3ac3ef3e501a2550756c9"), looks := false }, kinds := [], alts := [], laidByText := true, laidKinds := [.data, .data, .data, .data, .pinned], laidTests := true, laidLooks := .later }
def WriteLimitsCardSaid : Prop := Claim7.holds Tryd.pinned (.plain (OpenSpec.ofChange writeLimitsSpec)) writeLimitsCard

/-- THE SECOND FORM's CARD OF 'inkstandlaw03.LexReads'. -/
def lexReadsUptoCard : Claim7 := { stood := { row := lexReadsUptoRow, standIns := [], harness := (true, "6f2d13550ee31bf04b2a69c2872f23488c6af5de7be3ac3ef3e501a2550756c9"), looks := false }, kinds := [], alts := [], laidByText := true, laidKinds := [.data, .pinned], laidTests := true, laidLooks := .later }
def LexReadsUptoCardSaid : Prop := Claim7.holds Tryd.pinned (.plain (OpenSpec.upto lexReadsSpec)) lexReadsUptoCard

/-- THE SECOND FORM's CARD OF 'inkstandlaw03.LexWrites'. -/
def lexWritesUptoCard : Claim7 := { stood := { row := lexWritesUptoRow, standIns := [], harness := (true, "6f2d13550ee31bf04b2a69c2872f23488c6af5de7be3ac3ef3e501a2550756c9"), looks := false }, kinds := [], alts := [], laidByText := true, laidKinds := [.data, .pinned], laidTests := true, laidLooks := .later }
def LexWritesUptoCardSaid : Prop := Claim7.holds Tryd.pinned (.plain (OpenSpec.upto lexWritesSpec)) lexWritesUptoCard

/-- THE SECOND FORM's CARD OF 'inkstandlaw03.LexBack'. -/
def lexBackUptoCard : Claim7 := { stood := { row := lexBackUptoRow, standIns := [], harness := (true, "6f2d13550ee31bf04b2a69c2872f23488c6af5de7be3ac3ef3e501a2550756c9"), looks := false }, kinds := [], alts := [], laidByText := true, laidKinds := [.data, .pinned], laidTests := true, laidLooks := .later }
def LexBackUptoCardSaid : Prop := Claim7.holds Tryd.pinned (.plain (OpenSpec.upto lexBackSpec)) lexBackUptoCard

/-- THE SECOND FORM's CARD OF 'inkstandlaw03.LexSpaces'. -/
def lexSpacesUptoCard : Claim7 := { stood := { row := lexSpacesUptoRow, standIns := [], harness := (true, "6f2d13550ee31bf04b2a69c2872f23488c6af5de7be3ac3ef3e501a2550756c9"), looks := false }, kinds := [], alts := [], laidByText := true, laidKinds := [.data, .pinned], laidTests := true, laidLooks := .later }
def LexSpacesUptoCardSaid : Prop := Claim7.holds Tryd.pinned (.plain (OpenSpec.upto lexSpacesSpec)) lexSpacesUptoCard

/-- THE SECOND FORM's CARD OF 'inkstandlaw03.LexEnds'. -/
def lexEndsUptoCard : Claim7 := { stood := { row := lexEndsUptoRow, standIns := [], harness := (true, "6f2d13550ee31bf04b2a69c2872f23488c6af5de7be3ac3ef3e501a2550756c9"), looks := false }, kinds := [], alts := [], laidByText := true, laidKinds := [.data, .pinned], laidTests := true, laidLooks := .later }
def LexEndsUptoCardSaid : Prop := Claim7.holds Tryd.pinned (.plain (OpenSpec.upto lexEndsSpec)) lexEndsUptoCard

/-- THE SECOND FORM's CARD OF 'inkstandlaw03.LexHex'. -/
def lexHexUptoCard : Claim7 := { stood := { row := lexHexUptoRow, standIns := [], harness := (true, "6f2d13550ee31bf04b2a69c2872f23488c6af5de7be3ac3ef3e501a2550756c9"), looks := false }, kinds := [], alts := [], laidByText := true, laidKinds := [.data, .pinned], laidTests := true, laidLooks := .later }
def LexHexUptoCardSaid : Prop := Claim7.holds Tryd.pinned (.plain (OpenSpec.upto lexHexSpec)) lexHexUptoCard

/-- THE SECOND FORM's CARD OF 'inkstandlaw03.LexPairs'. -/
def lexPairsUptoCard : Claim7 := { stood := { row := lexPairsUptoRow, standIns := [], harness := (true, "6f2d13550ee31bf04b2a69c2872f23488c6af5de7be3ac3ef3e501a2550756c9"), looks := false }, kinds := [], alts := [], laidByText := true, laidKinds := [.data, .pinned], laidTests := true, laidLooks := .later }
def LexPairsUptoCardSaid : Prop := Claim7.holds Tryd.pinned (.plain (OpenSpec.upto lexPairsSpec)) lexPairsUptoCard

/-- THE SECOND FORM's CARD OF 'inkstandlaw04.CosDeep'. -/
def cosDeepUptoCard : Claim7 := { stood := { row := cosDeepUptoRow, standIns := [], harness := (true, "6f2d13550ee31bf04b2a69c2872f23488c6af5de7be3ac3ef3e501a2550756c9"), looks := false }, kinds := [], alts := [], laidByText := true, laidKinds := [.data, .pinned], laidTests := true, laidLooks := .later }
def CosDeepUptoCardSaid : Prop := Claim7.holds Tryd.pinned (.plain (OpenSpec.upto cosDeepSpec)) cosDeepUptoCard

/-- THE SECOND FORM's CARD OF 'inkstandlaw04.CosCounts'. -/
def cosCountsUptoCard : Claim7 := { stood := { row := cosCountsUptoRow, standIns := [], harness := (true, "6f2d13550ee31bf04b2a69c2872f23488c6af5de7be3ac3ef3e501a2550756c9"), looks := false }, kinds := [], alts := [], laidByText := true, laidKinds := [.data, .pinned], laidTests := true, laidLooks := .later }
def CosCountsUptoCardSaid : Prop := Claim7.holds Tryd.pinned (.plain (OpenSpec.upto cosCountsSpec)) cosCountsUptoCard

/-- THE SECOND FORM's CARD OF 'inkstandlaw05.WriteParts'. -/
def writePartsUptoCard : Claim7 := { stood := { row := writePartsUptoRow, standIns := [], harness := (true, "6f2d13550ee31bf04b2a69c2872f23488c6af5de7be3ac3ef3e501a2550756c9"), looks := false }, kinds := [], alts := [], laidByText := true, laidKinds := [.data, .data, .data, .data, .pinned], laidTests := true, laidLooks := .later }
def WritePartsUptoCardSaid : Prop := Claim7.holds Tryd.pinned (.plain (OpenSpec.upto writePartsSpec)) writePartsUptoCard

/-- THE SECOND FORM's CARD OF 'inkstandlaw05.WriteTexts'. -/
def writeTextsUptoCard : Claim7 := { stood := { row := writeTextsUptoRow, standIns := [], harness := (true, "6f2d13550ee31bf04b2a69c2872f23488c6af5de7be3ac3ef3e501a2550756c9"), looks := false }, kinds := [], alts := [], laidByText := true, laidKinds := [.data, .data, .data, .data, .pinned], laidTests := true, laidLooks := .later }
def WriteTextsUptoCardSaid : Prop := Claim7.holds Tryd.pinned (.plain (OpenSpec.upto writeTextsSpec)) writeTextsUptoCard

/-- THE SECOND FORM's CARD OF 'inkstandlaw05.WriteLimits'. -/
def writeLimitsUptoCard : Claim7 := { stood := { row := writeLimitsUptoRow, standIns := [], harness := (true, "6f2d13550ee31bf04b2a69c2872f23488c6af5de7be3ac3ef3e501a2550756c9"), looks := false }, kinds := [], alts := [], laidByText := true, laidKinds := [.data, .data, .data, .data, .pinned], laidTests := true, laidLooks := .later }
def WriteLimitsUptoCardSaid : Prop := Claim7.holds Tryd.pinned (.plain (OpenSpec.upto writeLimitsSpec)) writeLimitsUptoCard
end Rows
end Go.Proofs.YtipdgghfkdlfmaaDoor
