/-
  DERIVED. GIVEN WITH THE SEED: THE CARDS: each row of YtfanjghfilkhmaaGreatDoorRows.lean that lists a variable, with what it lists TIED to the program's text (the seventh form; the later family's looks); each row that meets fmt, with fmt's text TOLD by the authors' own Lean function (tested against real Go, not proved from fmt's source: count such statements apart). THE CARD IS WHAT COUNTS. Prove the row's statement (the work); the ties are given (YtfanjghfilkhmaaGreatDoorTie.lean); close each card by the builder's one call (the guide's Derived/Test/ToyasCard.lean, 'card_holds'). Laid BY PROGRAM, IN A SANDBOX (cutbox-door.mjs). By AI agents, Wed Nov 11 2026. No macro, syntax, notation, axiom, sorry.
-/
import Derived.Test.YtfanjghfilkhmaaGreatDoorRows
import GoSem.ClaimSeven
namespace Go.Proofs.YtfanjghfilkhmaaGreatDoor
namespace Rows

/-- THE TIED CARD OF 'coinagelaw47.CatalogNexts'. -/
def catalogNextsCard : Claim7 := { stood := { row := catalogNextsRow, standIns := [], harness := (true, "86775c630378ef951f94aed01eb3624e066ab5e65be8c3fc9e15f9edae5efdc5"), looks := true }, kinds := [], alts := [], laidByText := true, laidKinds := [.data, .data, .data, .data, .sentinel, .sentinel, .pinned], laidTests := true, laidLooks := .later }
def CatalogNextsCardSaid : Prop := Claim7.holds Tryz.pinned (.plain (OpenSpec.ofChange catalogNextsSpec)) catalogNextsCard

/-- THE TIED CARD OF 'coinagelaw47.CatalogFollows'. -/
def catalogFollowsCard : Claim7 := { stood := { row := catalogFollowsRow, standIns := [], harness := (true, "86775c630378ef951f94aed01eb3624e066ab5e65be8c3fc9e15f9edae5efdc5"), looks := true }, kinds := [], alts := [], laidByText := true, laidKinds := [.data, .data, .data, .data, .sentinel, .sentinel, .pinned], laidTests := true, laidLooks := .later }
def CatalogFollowsCardSaid : Prop := Claim7.holds Tryz.pinned (.plain (OpenSpec.ofChange catalogFollowsSpec)) catalogFollowsCard

/-- THE TIED CARD OF 'coinagelaw47.CatalogKeeps'. -/
def catalogKeepsCard : Claim7 := { stood := { row := catalogKeepsRow, standIns := [], harness := (true, "86775c630378ef951f94aed01eb3624e066ab5e65be8c3fc9e15f9edae5efdc5"), looks := true }, kinds := [], alts := [], laidByText := true, laidKinds := [.data, .data, .data, .data, .sentinel, .sentinel, .pinned], laidTests := true, laidLooks := .later }
def CatalogKeepsCardSaid : Prop := Claim7.holds Tryz.pinned (.plain (OpenSpec.ofChange catalogKeepsSpec)) catalogKeepsCard

/-- THE TIED CARD OF 'coinagelaw47.CatalogSame'. -/
def catalogSameCard : Claim7 := { stood := { row := catalogSameRow, standIns := [], harness := (true, "86775c630378ef951f94aed01eb3624e066ab5e65be8c3fc9e15f9edae5efdc5"), looks := true }, kinds := [], alts := [], laidByText := true, laidKinds := [.data, .data, .data, .data, .sentinel, .sentinel, .pinned], laidTests := true, laidLooks := .later }
def CatalogSameCardSaid : Prop := Claim7.holds Tryz.pinned (.plain (OpenSpec.ofChange catalogSameSpec)) catalogSameCard

/-- THE TIED CARD OF 'coinagelaw47.CatalogLooks'. -/
def catalogLooksCard : Claim7 := { stood := { row := catalogLooksRow, standIns := [], harness := (true, "86775c630378ef951f94aed01eb3624e066ab5e65be8c3fc9e15f9edae5efdc5"), looks := true }, kinds := [], alts := [], laidByText := true, laidKinds := [.data, .data, .data, .data, .sentinel, .sentinel, .pinned], laidTests := true, laidLooks := .later }
def CatalogLooksCardSaid : Prop := Claim7.holds Tryz.pinned (.plain (OpenSpec.ofChange catalogLooksSpec)) catalogLooksCard

/-- THE TIED CARD OF 'coinagelaw47.CatalogRelates'. -/
def catalogRelatesCard : Claim7 := { stood := { row := catalogRelatesRow, standIns := [], harness := (true, "86775c630378ef951f94aed01eb3624e066ab5e65be8c3fc9e15f9edae5efdc5"), looks := true }, kinds := [], alts := [], laidByText := true, laidKinds := [.data, .data, .data, .data, .sentinel, .sentinel, .pinned], laidTests := true, laidLooks := .later }
def CatalogRelatesCardSaid : Prop := Claim7.holds Tryz.pinned (.plain (OpenSpec.ofChange catalogRelatesSpec)) catalogRelatesCard

/-- THE TIED CARD OF 'coinagelaw47.CatalogTexts'. -/
def catalogTextsCard : Claim7 := { stood := { row := catalogTextsRow, standIns := [], harness := (true, "86775c630378ef951f94aed01eb3624e066ab5e65be8c3fc9e15f9edae5efdc5"), looks := true }, kinds := [], alts := [], laidByText := true, laidKinds := [.data, .data, .data, .data, .sentinel, .sentinel, .pinned], laidTests := true, laidLooks := .later }
def CatalogTextsCardSaid : Prop := Claim7.holds Tryz.pinned (.plain (OpenSpec.ofChange catalogTextsSpec)) catalogTextsCard

/-- THE TIED CARD OF 'coinagelaw47.CatalogParses'. -/
def catalogParsesCard : Claim7 := { stood := { row := catalogParsesRow, standIns := [], harness := (true, "86775c630378ef951f94aed01eb3624e066ab5e65be8c3fc9e15f9edae5efdc5"), looks := true }, kinds := [], alts := [], laidByText := true, laidKinds := [.data, .data, .data, .data, .sentinel, .sentinel, .pinned], laidTests := true, laidLooks := .later }
def CatalogParsesCardSaid : Prop := Claim7.holds Tryz.pinned (.plain (OpenSpec.ofChange catalogParsesSpec)) catalogParsesCard

/-- THE SECOND FORM's CARD OF 'coinagelaw47.CatalogNexts'. -/
def catalogNextsUptoCard : Claim7 := { stood := { row := catalogNextsUptoRow, standIns := [], harness := (true, "86775c630378ef951f94aed01eb3624e066ab5e65be8c3fc9e15f9edae5efdc5"), looks := true }, kinds := [], alts := [], laidByText := true, laidKinds := [.data, .data, .data, .data, .sentinel, .sentinel, .pinned], laidTests := true, laidLooks := .later }
def CatalogNextsUptoCardSaid : Prop := Claim7.holds Tryz.pinned (.plain (OpenSpec.upto catalogNextsSpec)) catalogNextsUptoCard

/-- THE SECOND FORM's CARD OF 'coinagelaw47.CatalogFollows'. -/
def catalogFollowsUptoCard : Claim7 := { stood := { row := catalogFollowsUptoRow, standIns := [], harness := (true, "86775c630378ef951f94aed01eb3624e066ab5e65be8c3fc9e15f9edae5efdc5"), looks := true }, kinds := [], alts := [], laidByText := true, laidKinds := [.data, .data, .data, .data, .sentinel, .sentinel, .pinned], laidTests := true, laidLooks := .later }
def CatalogFollowsUptoCardSaid : Prop := Claim7.holds Tryz.pinned (.plain (OpenSpec.upto catalogFollowsSpec)) catalogFollowsUptoCard

/-- THE SECOND FORM's CARD OF 'coinagelaw47.CatalogKeeps'. -/
def catalogKeepsUptoCard : Claim7 := { stood := { row := catalogKeepsUptoRow, standIns := [], harness := (true, "86775c630378ef951f94aed01eb3624e066ab5e65be8c3fc9e15f9edae5efdc5"), looks := true }, kinds := [], alts := [], laidByText := true, laidKinds := [.data, .data, .data, .data, .sentinel, .sentinel, .pinned], laidTests := true, laidLooks := .later }
def CatalogKeepsUptoCardSaid : Prop := Claim7.holds Tryz.pinned (.plain (OpenSpec.upto catalogKeepsSpec)) catalogKeepsUptoCard

/-- THE SECOND FORM's CARD OF 'coinagelaw47.CatalogSame'. -/
def catalogSameUptoCard : Claim7 := { stood := { row := catalogSameUptoRow, standIns := [], harness := (true, "86775c630378ef951f94aed01eb3624e066ab5e65be8c3fc9e15f9edae5efdc5"), looks := true }, kinds := [], alts := [], laidByText := true, laidKinds := [.data, .data, .data, .data, .sentinel, .sentinel, .pinned], laidTests := true, laidLooks := .later }
def CatalogSameUptoCardSaid : Prop := Claim7.holds Tryz.pinned (.plain (OpenSpec.upto catalogSameSpec)) catalogSameUptoCard

/-- THE SECOND FORM's CARD OF 'coinagelaw47.CatalogLooks'. -/
def catalogLooksUptoCard : Claim7 := { stood := { row := catalogLooksUptoRow, standIns := [], harness := (true, "86775c630378ef951f94aed01eb3624e066ab5e65be8c3fc9e15f9edae5efdc5"), looks := true }, kinds := [], alts := [], laidByText := true, laidKinds := [.data, .data, .data, .data, .sentinel, .sentinel, .pinned], laidTests := true, laidLooks := .later }
def CatalogLooksUptoCardSaid : Prop := Claim7.holds Tryz.pinned (.plain (OpenSpec.upto catalogLooksSpec)) catalogLooksUptoCard

/-- THE SECOND FORM's CARD OF 'coinagelaw47.CatalogRelates'. -/
def catalogRelatesUptoCard : Claim7 := { stood := { row := catalogRelatesUptoRow, standIns := [], harness := (true, "86775c630378ef951f94aed01eb3624e066ab5e65be8c3fc9e15f9edae5efdc5"), looks := true }, kinds := [], alts := [], laidByText := true, laidKinds := [.data, .data, .data, .data, .sentinel, .sentinel, .pinned], laidTests := true, laidLooks := .later }
def CatalogRelatesUptoCardSaid : Prop := Claim7.holds Tryz.pinned (.plain (OpenSpec.upto catalogRelatesSpec)) catalogRelatesUptoCard

/-- THE SECOND FORM's CARD OF 'coinagelaw47.CatalogTexts'. -/
def catalogTextsUptoCard : Claim7 := { stood := { row := catalogTextsUptoRow, standIns := [], harness := (true, "86775c630378ef951f94aed01eb3624e066ab5e65be8c3fc9e15f9edae5efdc5"), looks := true }, kinds := [], alts := [], laidByText := true, laidKinds := [.data, .data, .data, .data, .sentinel, .sentinel, .pinned], laidTests := true, laidLooks := .later }
def CatalogTextsUptoCardSaid : Prop := Claim7.holds Tryz.pinned (.plain (OpenSpec.upto catalogTextsSpec)) catalogTextsUptoCard

/-- THE SECOND FORM's CARD OF 'coinagelaw47.CatalogParses'. -/
def catalogParsesUptoCard : Claim7 := { stood := { row := catalogParsesUptoRow, standIns := [], harness := (true, "86775c630378ef951f94aed01eb3624e066ab5e65be8c3fc9e15f9edae5efdc5"), looks := true }, kinds := [], alts := [], laidByText := true, laidKinds := [.data, .data, .data, .data, .sentinel, .sentinel, .pinned], laidTests := true, laidLooks := .later }
def CatalogParsesUptoCardSaid : Prop := Claim7.holds Tryz.pinned (.plain (OpenSpec.upto catalogParsesSpec)) catalogParsesUptoCard
end Rows
end Go.Proofs.YtfanjghfilkhmaaGreatDoor
