/-
  DERIVED. GIVEN WITH THE SEED: THE CARDS: each row of YthbckkjihijekaaDoorRows.lean that lists a variable, with what it lists TIED to the program's text (the seventh form; the later family's looks); each row that meets fmt, with fmt's text TOLD by the authors' own Lean function (tested against real Go, not proved from fmt's source: count such statements apart). THE CARD IS WHAT COUNTS. Prove the row's statement (the work); the ties are given (YthbckkjihijekaaDoorTie.lean); close each card by the builder's one call (the guide's Derived/Test/ToyasCard.lean, 'card_holds'). Laid BY PROGRAM, IN A SANDBOX (cutbox-door.mjs). By AI agents, Wed Nov 11 2026. No macro, syntax, notation, axiom, sorry.
-/
import Derived.Test.YthbckkjihijekaaDoorRows
import GoSem.ClaimSeven
namespace Go.Proofs.YthbckkjihijekaaDoor
namespace Rows

/-- THE TIED CARD OF 'coinagelaw04.YearsMatchReference'. -/
def yearsMatchReferenceCard : Claim7 := { stood := { row := yearsMatchReferenceRow, standIns := [], harness := (true, "8b27bc9f5f0c07b333f56a17cb721f00cf335e837ba540a74b4860e91508236f"), looks := true }, kinds := [], alts := [], laidByText := true, laidKinds := [.data, .data, .data, .sentinel, .sentinel], laidTests := true, laidLooks := .later }
def YearsMatchReferenceCardSaid : Prop := Claim7.holds Tryd.pinned (.plain (OpenSpec.ofChange yearsMatchReferenceSpec)) yearsMatchReferenceCard

/-- THE TIED CARD OF 'coinagelaw04.YearsTexts'. -/
def yearsTextsCard : Claim7 := { stood := { row := yearsTextsRow, standIns := [], harness := (true, "8b27bc9f5f0c07b333f56a17cb721f00cf335e837ba540a74b4860e91508236f"), looks := true }, kinds := [], alts := [], laidByText := true, laidKinds := [.data, .data, .data, .sentinel, .sentinel], laidTests := true, laidLooks := .later }
def YearsTextsCardSaid : Prop := Claim7.holds Tryd.pinned (.plain (OpenSpec.ofChange yearsTextsSpec)) yearsTextsCard

/-- THE TIED CARD OF 'coinagelaw04.YearsParses'. -/
def yearsParsesCard : Claim7 := { stood := { row := yearsParsesRow, standIns := [], harness := (true, "8b27bc9f5f0c07b333f56a17cb721f00cf335e837ba540a74b4860e91508236f"), looks := true }, kinds := [], alts := [], laidByText := true, laidKinds := [.data, .data, .data, .sentinel, .sentinel], laidTests := true, laidLooks := .later }
def YearsParsesCardSaid : Prop := Claim7.holds Tryd.pinned (.plain (OpenSpec.ofChange yearsParsesSpec)) yearsParsesCard

/-- THE TIED CARD OF 'coinagelaw04.YearsRelates'. -/
def yearsRelatesCard : Claim7 := { stood := { row := yearsRelatesRow, standIns := [], harness := (true, "8b27bc9f5f0c07b333f56a17cb721f00cf335e837ba540a74b4860e91508236f"), looks := true }, kinds := [], alts := [], laidByText := true, laidKinds := [.data, .data, .data, .sentinel, .sentinel], laidTests := true, laidLooks := .later }
def YearsRelatesCardSaid : Prop := Claim7.holds Tryd.pinned (.plain (OpenSpec.ofChange yearsRelatesSpec)) yearsRelatesCard

/-- THE TIED CARD OF 'coinagelaw04.YearsOrders'. -/
def yearsOrdersCard : Claim7 := { stood := { row := yearsOrdersRow, standIns := [], harness := (true, "8b27bc9f5f0c07b333f56a17cb721f00cf335e837ba540a74b4860e91508236f"), looks := true }, kinds := [], alts := [], laidByText := true, laidKinds := [.data, .data, .data, .sentinel, .sentinel], laidTests := true, laidLooks := .later }
def YearsOrdersCardSaid : Prop := Claim7.holds Tryd.pinned (.plain (OpenSpec.ofChange yearsOrdersSpec)) yearsOrdersCard

/-- THE TIED CARD OF 'coinagelaw04.YearsMeets'. -/
def yearsMeetsCard : Claim7 := { stood := { row := yearsMeetsRow, standIns := [], harness := (true, "8b27bc9f5f0c07b333f56a17cb721f00cf335e837ba540a74b4860e91508236f"), looks := true }, kinds := [], alts := [], laidByText := true, laidKinds := [.data, .data, .data, .sentinel, .sentinel], laidTests := true, laidLooks := .later }
def YearsMeetsCardSaid : Prop := Claim7.holds Tryd.pinned (.plain (OpenSpec.ofChange yearsMeetsSpec)) yearsMeetsCard

/-- THE TIED CARD OF 'coinagelaw04.YearsGrows'. -/
def yearsGrowsCard : Claim7 := { stood := { row := yearsGrowsRow, standIns := [], harness := (true, "8b27bc9f5f0c07b333f56a17cb721f00cf335e837ba540a74b4860e91508236f"), looks := true }, kinds := [], alts := [], laidByText := true, laidKinds := [.data, .data, .data, .sentinel, .sentinel], laidTests := true, laidLooks := .later }
def YearsGrowsCardSaid : Prop := Claim7.holds Tryd.pinned (.plain (OpenSpec.ofChange yearsGrowsSpec)) yearsGrowsCard

/-- THE TIED CARD OF 'coinagelaw04.YearsCovers'. -/
def yearsCoversCard : Claim7 := { stood := { row := yearsCoversRow, standIns := [], harness := (true, "8b27bc9f5f0c07b333f56a17cb721f00cf335e837ba540a74b4860e91508236f"), looks := true }, kinds := [], alts := [], laidByText := true, laidKinds := [.data, .data, .data, .sentinel, .sentinel], laidTests := true, laidLooks := .later }
def YearsCoversCardSaid : Prop := Claim7.holds Tryd.pinned (.plain (OpenSpec.ofChange yearsCoversSpec)) yearsCoversCard

/-- THE TIED CARD OF 'coinagelaw04.YearsSeparate'. -/
def yearsSeparateCard : Claim7 := { stood := { row := yearsSeparateRow, standIns := [], harness := (true, "8b27bc9f5f0c07b333f56a17cb721f00cf335e837ba540a74b4860e91508236f"), looks := true }, kinds := [], alts := [], laidByText := true, laidKinds := [.data, .data, .data, .sentinel, .sentinel], laidTests := true, laidLooks := .later }
def YearsSeparateCardSaid : Prop := Claim7.holds Tryd.pinned (.plain (OpenSpec.ofChange yearsSeparateSpec)) yearsSeparateCard

/-- THE SECOND FORM's CARD OF 'coinagelaw04.YearsMatchReference'. -/
def yearsMatchReferenceUptoCard : Claim7 := { stood := { row := yearsMatchReferenceUptoRow, standIns := [], harness := (true, "8b27bc9f5f0c07b333f56a17cb721f00cf335e837ba540a74b4860e91508236f"), looks := true }, kinds := [], alts := [], laidByText := true, laidKinds := [.data, .data, .data, .sentinel, .sentinel], laidTests := true, laidLooks := .later }
def YearsMatchReferenceUptoCardSaid : Prop := Claim7.holds Tryd.pinned (.plain (OpenSpec.upto yearsMatchReferenceSpec)) yearsMatchReferenceUptoCard

/-- THE SECOND FORM's CARD OF 'coinagelaw04.YearsTexts'. -/
def yearsTextsUptoCard : Claim7 := { stood := { row := yearsTextsUptoRow, standIns := [], harness := (true, "8b27bc9f5f0c07b333f56a17cb721f00cf335e837ba540a74b4860e91508236f"), looks := true }, kinds := [], alts := [], laidByText := true, laidKinds := [.data, .data, .data, .sentinel, .sentinel], laidTests := true, laidLooks := .later }
def YearsTextsUptoCardSaid : Prop := Claim7.holds Tryd.pinned (.plain (OpenSpec.upto yearsTextsSpec)) yearsTextsUptoCard

/-- THE SECOND FORM's CARD OF 'coinagelaw04.YearsParses'. -/
def yearsParsesUptoCard : Claim7 := { stood := { row := yearsParsesUptoRow, standIns := [], harness := (true, "8b27bc9f5f0c07b333f56a17cb721f00cf335e837ba540a74b4860e91508236f"), looks := true }, kinds := [], alts := [], laidByText := true, laidKinds := [.data, .data, .data, .sentinel, .sentinel], laidTests := true, laidLooks := .later }
def YearsParsesUptoCardSaid : Prop := Claim7.holds Tryd.pinned (.plain (OpenSpec.upto yearsParsesSpec)) yearsParsesUptoCard

/-- THE SECOND FORM's CARD OF 'coinagelaw04.YearsRelates'. -/
def yearsRelatesUptoCard : Claim7 := { stood := { row := yearsRelatesUptoRow, standIns := [], harness := (true, "8b27bc9f5f0c07b333f56a17cb721f00cf335e837ba540a74b4860e91508236f"), looks := true }, kinds := [], alts := [], laidByText := true, laidKinds := [.data, .data, .data, .sentinel, .sentinel], laidTests := true, laidLooks := .later }
def YearsRelatesUptoCardSaid : Prop := Claim7.holds Tryd.pinned (.plain (OpenSpec.upto yearsRelatesSpec)) yearsRelatesUptoCard

/-- THE SECOND FORM's CARD OF 'coinagelaw04.YearsOrders'. -/
def yearsOrdersUptoCard : Claim7 := { stood := { row := yearsOrdersUptoRow, standIns := [], harness := (true, "8b27bc9f5f0c07b333f56a17cb721f00cf335e837ba540a74b4860e91508236f"), looks := true }, kinds := [], alts := [], laidByText := true, laidKinds := [.data, .data, .data, .sentinel, .sentinel], laidTests := true, laidLooks := .later }
def YearsOrdersUptoCardSaid : Prop := Claim7.holds Tryd.pinned (.plain (OpenSpec.upto yearsOrdersSpec)) yearsOrdersUptoCard

/-- THE SECOND FORM's CARD OF 'coinagelaw04.YearsMeets'. -/
def yearsMeetsUptoCard : Claim7 := { stood := { row := yearsMeetsUptoRow, standIns := [], harness := (true, "8b27bc9f5f0c07b333f56a17cb721f00cf335e837ba540a74b4860e91508236f"), looks := true }, kinds := [], alts := [], laidByText := true, laidKinds := [.data, .data, .data, .sentinel, .sentinel], laidTests := true, laidLooks := .later }
def YearsMeetsUptoCardSaid : Prop := Claim7.holds Tryd.pinned (.plain (OpenSpec.upto yearsMeetsSpec)) yearsMeetsUptoCard

/-- THE SECOND FORM's CARD OF 'coinagelaw04.YearsGrows'. -/
def yearsGrowsUptoCard : Claim7 := { stood := { row := yearsGrowsUptoRow, standIns := [], harness := (true, "8b27bc9f5f0c07b333f56a17cb721f00cf335e837ba540a74b4860e91508236f"), looks := true }, kinds := [], alts := [], laidByText := true, laidKinds := [.data, .data, .data, .sentinel, .sentinel], laidTests := true, laidLooks := .later }
def YearsGrowsUptoCardSaid : Prop := Claim7.holds Tryd.pinned (.plain (OpenSpec.upto yearsGrowsSpec)) yearsGrowsUptoCard

/-- THE SECOND FORM's CARD OF 'coinagelaw04.YearsCovers'. -/
def yearsCoversUptoCard : Claim7 := { stood := { row := yearsCoversUptoRow, standIns := [], harness := (true, "8b27bc9f5f0c07b333f56a17cb721f00cf335e837ba540a74b4860e91508236f"), looks := true }, kinds := [], alts := [], laidByText := true, laidKinds := [.data, .data, .data, .sentinel, .sentinel], laidTests := true, laidLooks := .later }
def YearsCoversUptoCardSaid : Prop := Claim7.holds Tryd.pinned (.plain (OpenSpec.upto yearsCoversSpec)) yearsCoversUptoCard

/-- THE SECOND FORM's CARD OF 'coinagelaw04.YearsSeparate'. -/
def yearsSeparateUptoCard : Claim7 := { stood := { row := yearsSeparateUptoRow, standIns := [], harness := (true, "8b27bc9f5f0c07b333f56a17cb721f00cf335e837ba540a74b4860e91508236f"), looks := true }, kinds := [], alts := [], laidByText := true, laidKinds := [.data, .data, .data, .sentinel, .sentinel], laidTests := true, laidLooks := .later }
def YearsSeparateUptoCardSaid : Prop := Claim7.holds Tryd.pinned (.plain (OpenSpec.upto yearsSeparateSpec)) yearsSeparateUptoCard
end Rows
end Go.Proofs.YthbckkjihijekaaDoor
