/-
  DERIVED. GIVEN WITH THE SEED: THE CARDS: each row of YtdokpmfejibdlaaGreatDoorRows.lean that lists a variable, with what it lists TIED to the program's text (the seventh form; the later family's looks); each row that meets fmt, with fmt's text TOLD by the authors' own Lean function (tested against real Go, not proved from fmt's source: count such statements apart). THE CARD IS WHAT COUNTS. Prove the row's statement (the work); the ties are given (YtdokpmfejibdlaaGreatDoorTie.lean); close each card by the builder's one call (the guide's Derived/Test/ToyasCard.lean, 'card_holds'). Laid BY PROGRAM, IN A SANDBOX (cutbox-door.mjs). By AI agents, Wed Nov 11 2026. No macro, syntax, notation, axiom, sorry.
-/
import Derived.Test.YtdokpmfejibdlaaGreatDoorRows
import GoSem.ClaimSeven
namespace Go.Proofs.YtdokpmfejibdlaaGreatDoor
namespace Rows

/-- THE TIED CARD OF 'coinagelaw54.ReportMatchesReference'. -/
def reportMatchesReferenceCard : Claim7 := { stood := { row := reportMatchesReferenceRow, standIns := [], harness := (true, "910eb97b7606024f9a3cf5a755aa3181f73b143e43e25ca7bc2fcc065ba97143"), looks := true }, kinds := [], alts := [], laidByText := true, laidKinds := [.data, .data, .data], laidTests := true, laidLooks := .later }
def ReportMatchesReferenceCardSaid : Prop := Claim7.holds Tryz.pinned (.plain (OpenSpec.ofChange reportMatchesReferenceSpec)) reportMatchesReferenceCard

/-- THE TIED CARD OF 'coinagelaw54.ReportDies'. -/
def reportDiesCard : Claim7 := { stood := { row := reportDiesRow, standIns := [], harness := (true, "910eb97b7606024f9a3cf5a755aa3181f73b143e43e25ca7bc2fcc065ba97143"), looks := true }, kinds := [], alts := [], laidByText := true, laidKinds := [.data, .data, .data], laidTests := true, laidLooks := .later }
def ReportDiesCardSaid : Prop := Claim7.holds Tryz.pinned (.plain (OpenSpec.ofChange reportDiesSpec)) reportDiesCard

/-- THE TIED CARD OF 'coinagelaw54.ReportTables'. -/
def reportTablesCard : Claim7 := { stood := { row := reportTablesRow, standIns := [], harness := (true, "910eb97b7606024f9a3cf5a755aa3181f73b143e43e25ca7bc2fcc065ba97143"), looks := true }, kinds := [], alts := [], laidByText := true, laidKinds := [.data, .data, .data], laidTests := true, laidLooks := .later }
def ReportTablesCardSaid : Prop := Claim7.holds Tryz.pinned (.plain (OpenSpec.ofChange reportTablesSpec)) reportTablesCard

/-- THE TIED CARD OF 'coinagelaw54.ReportOrders'. -/
def reportOrdersCard : Claim7 := { stood := { row := reportOrdersRow, standIns := [], harness := (true, "910eb97b7606024f9a3cf5a755aa3181f73b143e43e25ca7bc2fcc065ba97143"), looks := true }, kinds := [], alts := [], laidByText := true, laidKinds := [.data, .data, .data], laidTests := true, laidLooks := .later }
def ReportOrdersCardSaid : Prop := Claim7.holds Tryz.pinned (.plain (OpenSpec.ofChange reportOrdersSpec)) reportOrdersCard

/-- THE TIED CARD OF 'coinagelaw54.ReportLines'. -/
def reportLinesCard : Claim7 := { stood := { row := reportLinesRow, standIns := [], harness := (true, "910eb97b7606024f9a3cf5a755aa3181f73b143e43e25ca7bc2fcc065ba97143"), looks := true }, kinds := [], alts := [], laidByText := true, laidKinds := [.data, .data, .data], laidTests := true, laidLooks := .later }
def ReportLinesCardSaid : Prop := Claim7.holds Tryz.pinned (.plain (OpenSpec.ofChange reportLinesSpec)) reportLinesCard

/-- THE TIED CARD OF 'coinagelaw54.ReportCounts'. -/
def reportCountsCard : Claim7 := { stood := { row := reportCountsRow, standIns := [], harness := (true, "910eb97b7606024f9a3cf5a755aa3181f73b143e43e25ca7bc2fcc065ba97143"), looks := true }, kinds := [], alts := [], laidByText := true, laidKinds := [.data, .data, .data, .data, .sentinel, .sentinel, .pinned], laidTests := true, laidLooks := .later }
def ReportCountsCardSaid : Prop := Claim7.holds Tryz.pinned (.plain (OpenSpec.ofChange reportCountsSpec)) reportCountsCard

/-- THE TIED CARD OF 'coinagelaw54.ReportSums'. -/
def reportSumsCard : Claim7 := { stood := { row := reportSumsRow, standIns := [], harness := (true, "910eb97b7606024f9a3cf5a755aa3181f73b143e43e25ca7bc2fcc065ba97143"), looks := true }, kinds := [], alts := [], laidByText := true, laidKinds := [.data, .data, .data, .data, .sentinel, .sentinel, .pinned], laidTests := true, laidLooks := .later }
def ReportSumsCardSaid : Prop := Claim7.holds Tryz.pinned (.plain (OpenSpec.ofChange reportSumsSpec)) reportSumsCard

/-- THE SECOND FORM's CARD OF 'coinagelaw54.ReportMatchesReference'. -/
def reportMatchesReferenceUptoCard : Claim7 := { stood := { row := reportMatchesReferenceUptoRow, standIns := [], harness := (true, "910eb97b7606024f9a3cf5a755aa3181f73b143e43e25ca7bc2fcc065ba97143"), looks := true }, kinds := [], alts := [], laidByText := true, laidKinds := [.data, .data, .data], laidTests := true, laidLooks := .later }
def ReportMatchesReferenceUptoCardSaid : Prop := Claim7.holds Tryz.pinned (.plain (OpenSpec.upto reportMatchesReferenceSpec)) reportMatchesReferenceUptoCard

/-- THE SECOND FORM's CARD OF 'coinagelaw54.ReportDies'. -/
def reportDiesUptoCard : Claim7 := { stood := { row := reportDiesUptoRow, standIns := [], harness := (true, "910eb97b7606024f9a3cf5a755aa3181f73b143e43e25ca7bc2fcc065ba97143"), looks := true }, kinds := [], alts := [], laidByText := true, laidKinds := [.data, .data, .data], laidTests := true, laidLooks := .later }
def ReportDiesUptoCardSaid : Prop := Claim7.holds Tryz.pinned (.plain (OpenSpec.upto reportDiesSpec)) reportDiesUptoCard

/-- THE SECOND FORM's CARD OF 'coinagelaw54.ReportTables'. -/
def reportTablesUptoCard : Claim7 := { stood := { row := reportTablesUptoRow, standIns := [], harness := (true, "910eb97b7606024f9a3cf5a755aa3181f73b143e43e25ca7bc2fcc065ba97143"), looks := true }, kinds := [], alts := [], laidByText := true, laidKinds := [.data, .data, .data], laidTests := true, laidLooks := .later }
def ReportTablesUptoCardSaid : Prop := Claim7.holds Tryz.pinned (.plain (OpenSpec.upto reportTablesSpec)) reportTablesUptoCard

/-- THE SECOND FORM's CARD OF 'coinagelaw54.ReportOrders'. -/
def reportOrdersUptoCard : Claim7 := { stood := { row := reportOrdersUptoRow, standIns := [], harness := (true, "910eb97b7606024f9a3cf5a755aa3181f73b143e43e25ca7bc2fcc065ba97143"), looks := true }, kinds := [], alts := [], laidByText := true, laidKinds := [.data, .data, .data], laidTests := true, laidLooks := .later }
def ReportOrdersUptoCardSaid : Prop := Claim7.holds Tryz.pinned (.plain (OpenSpec.upto reportOrdersSpec)) reportOrdersUptoCard

/-- THE SECOND FORM's CARD OF 'coinagelaw54.ReportLines'. -/
def reportLinesUptoCard : Claim7 := { stood := { row := reportLinesUptoRow, standIns := [], harness := (true, "910eb97b7606024f9a3cf5a755aa3181f73b143e43e25ca7bc2fcc065ba97143"), looks := true }, kinds := [], alts := [], laidByText := true, laidKinds := [.data, .data, .data], laidTests := true, laidLooks := .later }
def ReportLinesUptoCardSaid : Prop := Claim7.holds Tryz.pinned (.plain (OpenSpec.upto reportLinesSpec)) reportLinesUptoCard

/-- THE SECOND FORM's CARD OF 'coinagelaw54.ReportCounts'. -/
def reportCountsUptoCard : Claim7 := { stood := { row := reportCountsUptoRow, standIns := [], harness := (true, "910eb97b7606024f9a3cf5a755aa3181f73b143e43e25ca7bc2fcc065ba97143"), looks := true }, kinds := [], alts := [], laidByText := true, laidKinds := [.data, .data, .data, .data, .sentinel, .sentinel, .pinned], laidTests := true, laidLooks := .later }
def ReportCountsUptoCardSaid : Prop := Claim7.holds Tryz.pinned (.plain (OpenSpec.upto reportCountsSpec)) reportCountsUptoCard

/-- THE SECOND FORM's CARD OF 'coinagelaw54.ReportSums'. -/
def reportSumsUptoCard : Claim7 := { stood := { row := reportSumsUptoRow, standIns := [], harness := (true, "910eb97b7606024f9a3cf5a755aa3181f73b143e43e25ca7bc2fcc065ba97143"), looks := true }, kinds := [], alts := [], laidByText := true, laidKinds := [.data, .data, .data, .data, .sentinel, .sentinel, .pinned], laidTests := true, laidLooks := .later }
def ReportSumsUptoCardSaid : Prop := Claim7.holds Tryz.pinned (.plain (OpenSpec.upto reportSumsSpec)) reportSumsUptoCard
end Rows
end Go.Proofs.YtdokpmfejibdlaaGreatDoor
