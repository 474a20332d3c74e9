/-
  DERIVED. GIVEN WITH THE SEED: THE CARDS: each row of YtogcalejbddjjaaGreatDoorRows.lean that lists a variable, with what it lists TIED to the program's text (the seventh form; the later family's looks); each row that meets fmt, with fmt's text TOLD by the authors' own Lean function (tested against real Go, not proved from fmt's source: count such statements apart). THE CARD IS WHAT COUNTS. Prove the row's statement (the work); the ties are given (YtogcalejbddjjaaGreatDoorTie.lean); close each card by the builder's one call (the guide's Derived/Test/ToyasCard.lean, 'card_holds'). Laid BY PROGRAM, IN A SANDBOX (cutbox-door.mjs). By AI agents, Wed Nov 11 2026. No macro, syntax, notation, axiom, sorry.
-/
import Derived.Test.YtogcalejbddjjaaGreatDoorRows
import GoSem.ClaimSeven
namespace Go.Proofs.YtogcalejbddjjaaGreatDoor
namespace Rows

/-- THE TIED CARD OF 'inkstandlaw05.WriteIs'. -/
def writeIsCard : Claim7 := { stood := { row := writeIsRow, standIns := [], harness := (true, "aa89307528a9204206e70fa593bb6c1b2bf09b1b481cff1224b29e87ede64e90"), looks := false }, kinds := [], alts := [], laidByText := true, laidKinds := [.data, .data, .data, .data, .pinned], laidTests := true, laidLooks := .later }
def WriteIsCardSaid : Prop := Claim7.holds Tryz.pinned (.plain (OpenSpec.ofChange writeIsSpec)) writeIsCard

/-- THE TIED CARD OF 'inkstandlaw05.WriteBack'. -/
def writeBackCard : Claim7 := { stood := { row := writeBackRow, standIns := [], harness := (true, "aa89307528a9204206e70fa593bb6c1b2bf09b1b481cff1224b29e87ede64e90"), looks := false }, kinds := [], alts := [], laidByText := true, laidKinds := [.data, .data, .data, .data, .pinned], laidTests := true, laidLooks := .later }
def WriteBackCardSaid : Prop := Claim7.holds Tryz.pinned (.plain (OpenSpec.ofChange writeBackSpec)) writeBackCard

/-- THE TIED CARD OF 'inkstandlaw17.AppearFrames'. -/
def appearFramesCard : Claim7 := { stood := { row := appearFramesRow, standIns := [], harness := (true, "aa89307528a9204206e70fa593bb6c1b2bf09b1b481cff1224b29e87ede64e90"), looks := false }, kinds := [], alts := [], laidByText := true, laidKinds := [.data, .pinned], laidTests := true, laidLooks := .later }
def AppearFramesCardSaid : Prop := Claim7.holds Tryz.pinned (.plain (OpenSpec.ofChange appearFramesSpec)) appearFramesCard

/-- THE TIED CARD OF 'inkstandlaw17.AppearStyled'. -/
def appearStyledCard : Claim7 := { stood := { row := appearStyledRow, standIns := [], harness := (true, "aa89307528a9204206e70fa593bb6c1b2bf09b1b481cff1224b29e87ede64e90"), looks := false }, kinds := [], alts := [], laidByText := true, laidKinds := [.data, .data, .data, .data, .pinned], laidTests := true, laidLooks := .later }
def AppearStyledCardSaid : Prop := Claim7.holds Tryz.pinned (.plain (OpenSpec.ofChange appearStyledSpec)) appearStyledCard

/-- THE TIED CARD OF 'inkstandlaw08.XrefWrites'. -/
def xrefWritesCard : Claim7 := { stood := { row := xrefWritesRow, standIns := [], harness := (true, "aa89307528a9204206e70fa593bb6c1b2bf09b1b481cff1224b29e87ede64e90"), looks := false }, kinds := [], alts := [], laidByText := true, laidKinds := [.data, .data, .data, .data, .pinned], laidTests := true, laidLooks := .later }
def XrefWritesCardSaid : Prop := Claim7.holds Tryz.pinned (.plain (OpenSpec.ofChange xrefWritesSpec)) xrefWritesCard

/-- THE TIED CARD OF 'inkstandlaw08.XrefMerges'. -/
def xrefMergesCard : Claim7 := { stood := { row := xrefMergesRow, standIns := [], harness := (true, "aa89307528a9204206e70fa593bb6c1b2bf09b1b481cff1224b29e87ede64e90"), looks := false }, kinds := [], alts := [], laidByText := true, laidKinds := [.data, .data, .data, .data, .pinned], laidTests := true, laidLooks := .later }
def XrefMergesCardSaid : Prop := Claim7.holds Tryz.pinned (.plain (OpenSpec.ofChange xrefMergesSpec)) xrefMergesCard

/-- THE TIED CARD OF 'inkstandlaw08.XrefStarts'. -/
def xrefStartsCard : Claim7 := { stood := { row := xrefStartsRow, standIns := [], harness := (true, "aa89307528a9204206e70fa593bb6c1b2bf09b1b481cff1224b29e87ede64e90"), looks := false }, kinds := [], alts := [], laidByText := true, laidKinds := [.data, .data, .data, .data, .pinned], laidTests := true, laidLooks := .later }
def XrefStartsCardSaid : Prop := Claim7.holds Tryz.pinned (.plain (OpenSpec.ofChange xrefStartsSpec)) xrefStartsCard

/-- THE TIED CARD OF 'inkstandlaw08.XrefNone'. -/
def xrefNoneCard : Claim7 := { stood := { row := xrefNoneRow, standIns := [], harness := (true, "aa89307528a9204206e70fa593bb6c1b2bf09b1b481cff1224b29e87ede64e90"), looks := false }, kinds := [], alts := [], laidByText := true, laidKinds := [.data, .data, .data, .data, .pinned], laidTests := true, laidLooks := .later }
def XrefNoneCardSaid : Prop := Claim7.holds Tryz.pinned (.plain (OpenSpec.ofChange xrefNoneSpec)) xrefNoneCard

/-- THE TIED CARD OF 'inkstandlaw08.XrefBack'. -/
def xrefBackCard : Claim7 := { stood := { row := xrefBackRow, standIns := [], harness := (true, "aa89307528a9204206e70fa593bb6c1b2bf09b1b481cff1224b29e87ede64e90"), looks := false }, kinds := [], alts := [], laidByText := true, laidKinds := [.data, .data, .data, .data, .pinned], laidTests := true, laidLooks := .later }
def XrefBackCardSaid : Prop := Claim7.holds Tryz.pinned (.plain (OpenSpec.ofChange xrefBackSpec)) xrefBackCard

/-- THE TIED CARD OF 'inkstandlaw11.OpsRefs'. -/
def opsRefsCard : Claim7 := { stood := { row := opsRefsRow, standIns := [], harness := (true, "aa89307528a9204206e70fa593bb6c1b2bf09b1b481cff1224b29e87ede64e90"), looks := false }, kinds := [], alts := [], laidByText := true, laidKinds := [.data, .data, .data, .data, .pinned], laidTests := true, laidLooks := .later }
def OpsRefsCardSaid : Prop := Claim7.holds Tryz.pinned (.plain (OpenSpec.ofChange opsRefsSpec)) opsRefsCard

/-- THE TIED CARD OF 'inkstandlaw11.OpsCounts'. -/
def opsCountsCard : Claim7 := { stood := { row := opsCountsRow, standIns := [], harness := (true, "aa89307528a9204206e70fa593bb6c1b2bf09b1b481cff1224b29e87ede64e90"), looks := false }, kinds := [], alts := [], laidByText := true, laidKinds := [.data, .data, .data, .data, .pinned], laidTests := true, laidLooks := .later }
def OpsCountsCardSaid : Prop := Claim7.holds Tryz.pinned (.plain (OpenSpec.ofChange opsCountsSpec)) opsCountsCard

/-- THE TIED CARD OF 'inkstandlaw11.OpsParse'. -/
def opsParseCard : Claim7 := { stood := { row := opsParseRow, standIns := [], harness := (true, "aa89307528a9204206e70fa593bb6c1b2bf09b1b481cff1224b29e87ede64e90"), looks := false }, kinds := [], alts := [], laidByText := true, laidKinds := [.data, .data, .data, .data, .pinned], laidTests := true, laidLooks := .later }
def OpsParseCardSaid : Prop := Claim7.holds Tryz.pinned (.plain (OpenSpec.ofChange opsParseSpec)) opsParseCard

/-- THE TIED CARD OF 'inkstandlaw11.OpsBack'. -/
def opsBackCard : Claim7 := { stood := { row := opsBackRow, standIns := [], harness := (true, "aa89307528a9204206e70fa593bb6c1b2bf09b1b481cff1224b29e87ede64e90"), looks := false }, kinds := [], alts := [], laidByText := true, laidKinds := [.data, .data, .data, .data, .pinned], laidTests := true, laidLooks := .later }
def OpsBackCardSaid : Prop := Claim7.holds Tryz.pinned (.plain (OpenSpec.ofChange opsBackSpec)) opsBackCard

/-- THE TIED CARD OF 'inkstandlaw11.OpsWrap'. -/
def opsWrapCard : Claim7 := { stood := { row := opsWrapRow, standIns := [], harness := (true, "aa89307528a9204206e70fa593bb6c1b2bf09b1b481cff1224b29e87ede64e90"), looks := false }, kinds := [], alts := [], laidByText := true, laidKinds := [.data, .data, .data, .data, .pinned], laidTests := true, laidLooks := .later }
def OpsWrapCardSaid : Prop := Claim7.holds Tryz.pinned (.plain (OpenSpec.ofChange opsWrapSpec)) opsWrapCard

/-- THE SECOND FORM's CARD OF 'inkstandlaw05.WriteIs'. -/
def writeIsUptoCard : Claim7 := { stood := { row := writeIsUptoRow, standIns := [], harness := (true, "aa89307528a9204206e70fa593bb6c1b2bf09b1b481cff1224b29e87ede64e90"), looks := false }, kinds := [], alts := [], laidByText := true, laidKinds := [.data, .data, .data, .data, .pinned], laidTests := true, laidLooks := .later }
def WriteIsUptoCardSaid : Prop := Claim7.holds Tryz.pinned (.plain (OpenSpec.upto writeIsSpec)) writeIsUptoCard

/-- THE SECOND FORM's CARD OF 'inkstandlaw05.WriteBack'. -/
def writeBackUptoCard : Claim7 := { stood := { row := writeBackUptoRow, standIns := [], harness := (true, "aa89307528a9204206e70fa593bb6c1b2bf09b1b481cff1224b29e87ede64e90"), looks := false }, kinds := [], alts := [], laidByText := true, laidKinds := [.data, .data, .data, .data, .pinned], laidTests := true, laidLooks := .later }
def WriteBackUptoCardSaid : Prop := Claim7.holds Tryz.pinned (.plain (OpenSpec.upto writeBackSpec)) writeBackUptoCard

/-- THE SECOND FORM's CARD OF 'inkstandlaw17.AppearFrames'. -/
def appearFramesUptoCard : Claim7 := { stood := { row := appearFramesUptoRow, standIns := [], harness := (true, "aa89307528a9204206e70fa593bb6c1b2bf09b1b481cff1224b29e87ede64e90"), looks := false }, kinds := [], alts := [], laidByText := true, laidKinds := [.data, .pinned], laidTests := true, laidLooks := .later }
def AppearFramesUptoCardSaid : Prop := Claim7.holds Tryz.pinned (.plain (OpenSpec.upto appearFramesSpec)) appearFramesUptoCard

/-- THE SECOND FORM's CARD OF 'inkstandlaw17.AppearStyled'. -/
def appearStyledUptoCard : Claim7 := { stood := { row := appearStyledUptoRow, standIns := [], harness := (true, "aa89307528a9204206e70fa593bb6c1b2bf09b1b481cff1224b29e87ede64e90"), looks := false }, kinds := [], alts := [], laidByText := true, laidKinds := [.data, .data, .data, .data, .pinned], laidTests := true, laidLooks := .later }
def AppearStyledUptoCardSaid : Prop := Claim7.holds Tryz.pinned (.plain (OpenSpec.upto appearStyledSpec)) appearStyledUptoCard

/-- THE SECOND FORM's CARD OF 'inkstandlaw08.XrefWrites'. -/
def xrefWritesUptoCard : Claim7 := { stood := { row := xrefWritesUptoRow, standIns := [], harness := (true, "aa89307528a9204206e70fa593bb6c1b2bf09b1b481cff1224b29e87ede64e90"), looks := false }, kinds := [], alts := [], laidByText := true, laidKinds := [.data, .data, .data, .data, .pinned], laidTests := true, laidLooks := .later }
def XrefWritesUptoCardSaid : Prop := Claim7.holds Tryz.pinned (.plain (OpenSpec.upto xrefWritesSpec)) xrefWritesUptoCard

/-- THE SECOND FORM's CARD OF 'inkstandlaw08.XrefMerges'. -/
def xrefMergesUptoCard : Claim7 := { stood := { row := xrefMergesUptoRow, standIns := [], harness := (true, "aa89307528a9204206e70fa593bb6c1b2bf09b1b481cff1224b29e87ede64e90"), looks := false }, kinds := [], alts := [], laidByText := true, laidKinds := [.data, .data, .data, .data, .pinned], laidTests := true, laidLooks := .later }
def XrefMergesUptoCardSaid : Prop := Claim7.holds Tryz.pinned (.plain (OpenSpec.upto xrefMergesSpec)) xrefMergesUptoCard

/-- THE SECOND FORM's CARD OF 'inkstandlaw08.XrefStarts'. -/
def xrefStartsUptoCard : Claim7 := { stood := { row := xrefStartsUptoRow, standIns := [], harness := (true, "aa89307528a9204206e70fa593bb6c1b2bf09b1b481cff1224b29e87ede64e90"), looks := false }, kinds := [], alts := [], laidByText := true, laidKinds := [.data, .data, .data, .data, .pinned], laidTests := true, laidLooks := .later }
def XrefStartsUptoCardSaid : Prop := Claim7.holds Tryz.pinned (.plain (OpenSpec.upto xrefStartsSpec)) xrefStartsUptoCard

/-- THE SECOND FORM's CARD OF 'inkstandlaw08.XrefNone'. -/
def xrefNoneUptoCard : Claim7 := { stood := { row := xrefNoneUptoRow, standIns := [], harness := (true, "aa89307528a9204206e70fa593bb6c1b2bf09b1b481cff1224b29e87ede64e90"), looks := false }, kinds := [], alts := [], laidByText := true, laidKinds := [.data, .data, .data, .data, .pinned], laidTests := true, laidLooks := .later }
def XrefNoneUptoCardSaid : Prop := Claim7.holds Tryz.pinned (.plain (OpenSpec.upto xrefNoneSpec)) xrefNoneUptoCard

/-- THE SECOND FORM's CARD OF 'inkstandlaw08.XrefBack'. -/
def xrefBackUptoCard : Claim7 := { stood := { row := xrefBackUptoRow, standIns := [], harness := (true, "aa89307528a9204206e70fa593bb6c1b2bf09b1b481cff1224b29e87ede64e90"), looks := false }, kinds := [], alts := [], laidByText := true, laidKinds := [.data, .data, .data, .data, .pinned], laidTests := true, laidLooks := .later }
def XrefBackUptoCardSaid : Prop := Claim7.holds Tryz.pinned (.plain (OpenSpec.upto xrefBackSpec)) xrefBackUptoCard

/-- THE SECOND FORM's CARD OF 'inkstandlaw11.OpsRefs'. -/
def opsRefsUptoCard : Claim7 := { stood := { row := opsRefsUptoRow, standIns := [], harness := (true, "aa89307528a9204206e70fa593bb6c1b2bf09b1b481cff1224b29e87ede64e90"), looks := false }, kinds := [], alts := [], laidByText := true, laidKinds := [.data, .data, .data, .data, .pinned], laidTests := true, laidLooks := .later }
def OpsRefsUptoCardSaid : Prop := Claim7.holds Tryz.pinned (.plain (OpenSpec.upto opsRefsSpec)) opsRefsUptoCard

/-- THE SECOND FORM's CARD OF 'inkstandlaw11.OpsCounts'. -/
def opsCountsUptoCard : Claim7 := { stood := { row := opsCountsUptoRow, standIns := [], harness := (true, "aa89307528a9204206e70fa593bb6c1b2bf09b1b481cff1224b29e87ede64e90"), looks := false }, kinds := [], alts := [], laidByText := true, laidKinds := [.data, .data, .data, .data, .pinned], laidTests := true, laidLooks := .later }
def OpsCountsUptoCardSaid : Prop := Claim7.holds Tryz.pinned (.plain (OpenSpec.upto opsCountsSpec)) opsCountsUptoCard

/-- THE SECOND FORM's CARD OF 'inkstandlaw11.OpsParse'. -/
def opsParseUptoCard : Claim7 := { stood := { row := opsParseUptoRow, standIns := [], harness := (true, "aa89307528a9204206e70fa593bb6c1b2bf09b1b481cff1224b29e87ede64e90"), looks := false }, kinds := [], alts := [], laidByText := true, laidKinds := [.data, .data, .data, .data, .pinned], laidTests := true, laidLooks := .later }
def OpsParseUptoCardSaid : Prop := Claim7.holds Tryz.pinned (.plain (OpenSpec.upto opsParseSpec)) opsParseUptoCard

/-- THE SECOND FORM's CARD OF 'inkstandlaw11.OpsBack'. -/
def opsBackUptoCard : Claim7 := { stood := { row := opsBackUptoRow, standIns := [], harness := (true, "aa89307528a9204206e70fa593bb6c1b2bf09b1b481cff1224b29e87ede64e90"), looks := false }, kinds := [], alts := [], laidByText := true, laidKinds := [.data, .data, .data, .data, .pinned], laidTests := true, laidLooks := .later }
def OpsBackUptoCardSaid : Prop := Claim7.holds Tryz.pinned (.plain (OpenSpec.upto opsBackSpec)) opsBackUptoCard

/-- THE SECOND FORM's CARD OF 'inkstandlaw11.OpsWrap'. -/
def opsWrapUptoCard : Claim7 := { stood := { row := opsWrapUptoRow, standIns := [], harness := (true, "aa89307528a9204206e70fa593bb6c1b2bf09b1b481cff1224b29e87ede64e90"), looks := false }, kinds := [], alts := [], laidByText := true, laidKinds := [.data, .data, .data, .data, .pinned], laidTests := true, laidLooks := .later }
def OpsWrapUptoCardSaid : Prop := Claim7.holds Tryz.pinned (.plain (OpenSpec.upto opsWrapSpec)) opsWrapUptoCard
end Rows
end Go.Proofs.YtogcalejbddjjaaGreatDoor
