/-
  DERIVED. GIVEN WITH THE SEED: THE CARDS: each row of YtnaoagkelbjflaaGreatDoorRows.lean that lists a variable, with what it lists TIED to the program's text (the seventh form; the later family's looks); each row that meets fmt, with fmt's text TOLD by the authors' own Lean function (tested against real Go, not proved from fmt's source: count such statements apart). THE CARD IS WHAT COUNTS. Prove the row's statement (the work); the ties are given (YtnaoagkelbjflaaGreatDoorTie.lean); close each card by the builder's one call (the guide's Derived/Test/ToyasCard.lean, 'card_holds'). Laid BY PROGRAM, IN A SANDBOX (cutbox-door.mjs). By AI agents, Wed Nov 11 2026. No macro, syntax, notation, axiom, sorry.
-/
import Derived.Test.YtnaoagkelbjflaaGreatDoorRows
import GoSem.ClaimSeven
namespace Go.Proofs.YtnaoagkelbjflaaGreatDoor
namespace Rows

/-- THE TIED CARD OF 'coinagelaw09.SpecimenTexts'. -/
def specimenTextsCard : Claim7 := { stood := { row := specimenTextsRow, standIns := [], harness := (true, "5d0fe4e48786bfca39bf250c28855c9e0514771a5204d722c85f932b606a16b4"), looks := true }, kinds := [], alts := [], laidByText := true, laidKinds := [.data, .data, .data, .data, .sentinel, .sentinel, .pinned], laidTests := true, laidLooks := .later }
def SpecimenTextsCardSaid : Prop := Claim7.holds Tryz.pinned (.plain (OpenSpec.ofChange specimenTextsSpec)) specimenTextsCard

/-- THE TIED CARD OF 'coinagelaw09.SpecimenParses'. -/
def specimenParsesCard : Claim7 := { stood := { row := specimenParsesRow, standIns := [], harness := (true, "5d0fe4e48786bfca39bf250c28855c9e0514771a5204d722c85f932b606a16b4"), looks := true }, kinds := [], alts := [], laidByText := true, laidKinds := [.data, .data, .data, .data, .sentinel, .sentinel, .pinned], laidTests := true, laidLooks := .later }
def SpecimenParsesCardSaid : Prop := Claim7.holds Tryz.pinned (.plain (OpenSpec.ofChange specimenParsesSpec)) specimenParsesCard

/-- THE TIED CARD OF 'coinagelaw09.SpecimenFinds'. -/
def specimenFindsCard : Claim7 := { stood := { row := specimenFindsRow, standIns := [], harness := (true, "5d0fe4e48786bfca39bf250c28855c9e0514771a5204d722c85f932b606a16b4"), looks := true }, kinds := [], alts := [], laidByText := true, laidKinds := [.data, .data, .data, .data, .sentinel, .sentinel, .pinned], laidTests := true, laidLooks := .later }
def SpecimenFindsCardSaid : Prop := Claim7.holds Tryz.pinned (.plain (OpenSpec.ofChange specimenFindsSpec)) specimenFindsCard

/-- THE TIED CARD OF 'coinagelaw09.SpecimenDies'. -/
def specimenDiesCard : Claim7 := { stood := { row := specimenDiesRow, standIns := [], harness := (true, "5d0fe4e48786bfca39bf250c28855c9e0514771a5204d722c85f932b606a16b4"), looks := true }, kinds := [], alts := [], laidByText := true, laidKinds := [.data, .data, .data, .data, .sentinel, .sentinel, .pinned], laidTests := true, laidLooks := .later }
def SpecimenDiesCardSaid : Prop := Claim7.holds Tryz.pinned (.plain (OpenSpec.ofChange specimenDiesSpec)) specimenDiesCard

/-- THE TIED CARD OF 'coinagelaw09.SpecimenUnions'. -/
def specimenUnionsCard : Claim7 := { stood := { row := specimenUnionsRow, standIns := [], harness := (true, "5d0fe4e48786bfca39bf250c28855c9e0514771a5204d722c85f932b606a16b4"), looks := true }, kinds := [], alts := [], laidByText := true, laidKinds := [.data, .data, .data, .data, .sentinel, .sentinel, .pinned], laidTests := true, laidLooks := .later }
def SpecimenUnionsCardSaid : Prop := Claim7.holds Tryz.pinned (.plain (OpenSpec.ofChange specimenUnionsSpec)) specimenUnionsCard

/-- THE TIED CARD OF 'coinagelaw09.SpecimenGroups'. -/
def specimenGroupsCard : Claim7 := { stood := { row := specimenGroupsRow, standIns := [], harness := (true, "5d0fe4e48786bfca39bf250c28855c9e0514771a5204d722c85f932b606a16b4"), looks := true }, kinds := [], alts := [], laidByText := true, laidKinds := [.data, .data, .data, .data, .sentinel, .sentinel, .pinned], laidTests := true, laidLooks := .later }
def SpecimenGroupsCardSaid : Prop := Claim7.holds Tryz.pinned (.plain (OpenSpec.ofChange specimenGroupsSpec)) specimenGroupsCard

/-- THE TIED CARD OF 'coinagelaw09.SpecimenExports'. -/
def specimenExportsCard : Claim7 := { stood := { row := specimenExportsRow, standIns := [], harness := (true, "5d0fe4e48786bfca39bf250c28855c9e0514771a5204d722c85f932b606a16b4"), looks := true }, kinds := [], alts := [], laidByText := true, laidKinds := [.data, .data, .data, .data, .sentinel, .sentinel, .pinned], laidTests := true, laidLooks := .later }
def SpecimenExportsCardSaid : Prop := Claim7.holds Tryz.pinned (.plain (OpenSpec.ofChange specimenExportsSpec)) specimenExportsCard

/-- THE TIED CARD OF 'coinagelaw09.SpecimenImports'. -/
def specimenImportsCard : Claim7 := { stood := { row := specimenImportsRow, standIns := [], harness := (true, "5d0fe4e48786bfca39bf250c28855c9e0514771a5204d722c85f932b606a16b4"), looks := true }, kinds := [], alts := [], laidByText := true, laidKinds := [.data, .data, .data, .data, .sentinel, .sentinel, .pinned], laidTests := true, laidLooks := .later }
def SpecimenImportsCardSaid : Prop := Claim7.holds Tryz.pinned (.plain (OpenSpec.ofChange specimenImportsSpec)) specimenImportsCard

/-- THE TIED CARD OF 'coinagelaw09.SpecimenSorts'. -/
def specimenSortsCard : Claim7 := { stood := { row := specimenSortsRow, standIns := [], harness := (true, "5d0fe4e48786bfca39bf250c28855c9e0514771a5204d722c85f932b606a16b4"), looks := true }, kinds := [], alts := [], laidByText := true, laidKinds := [.data, .data, .data, .data, .sentinel, .sentinel, .pinned], laidTests := true, laidLooks := .later }
def SpecimenSortsCardSaid : Prop := Claim7.holds Tryz.pinned (.plain (OpenSpec.ofChange specimenSortsSpec)) specimenSortsCard

/-- THE SECOND FORM's CARD OF 'coinagelaw09.SpecimenTexts'. -/
def specimenTextsUptoCard : Claim7 := { stood := { row := specimenTextsUptoRow, standIns := [], harness := (true, "5d0fe4e48786bfca39bf250c28855c9e0514771a5204d722c85f932b606a16b4"), looks := true }, kinds := [], alts := [], laidByText := true, laidKinds := [.data, .data, .data, .data, .sentinel, .sentinel, .pinned], laidTests := true, laidLooks := .later }
def SpecimenTextsUptoCardSaid : Prop := Claim7.holds Tryz.pinned (.plain (OpenSpec.upto specimenTextsSpec)) specimenTextsUptoCard

/-- THE SECOND FORM's CARD OF 'coinagelaw09.SpecimenParses'. -/
def specimenParsesUptoCard : Claim7 := { stood := { row := specimenParsesUptoRow, standIns := [], harness := (true, "5d0fe4e48786bfca39bf250c28855c9e0514771a5204d722c85f932b606a16b4"), looks := true }, kinds := [], alts := [], laidByText := true, laidKinds := [.data, .data, .data, .data, .sentinel, .sentinel, .pinned], laidTests := true, laidLooks := .later }
def SpecimenParsesUptoCardSaid : Prop := Claim7.holds Tryz.pinned (.plain (OpenSpec.upto specimenParsesSpec)) specimenParsesUptoCard

/-- THE SECOND FORM's CARD OF 'coinagelaw09.SpecimenFinds'. -/
def specimenFindsUptoCard : Claim7 := { stood := { row := specimenFindsUptoRow, standIns := [], harness := (true, "5d0fe4e48786bfca39bf250c28855c9e0514771a5204d722c85f932b606a16b4"), looks := true }, kinds := [], alts := [], laidByText := true, laidKinds := [.data, .data, .data, .data, .sentinel, .sentinel, .pinned], laidTests := true, laidLooks := .later }
def SpecimenFindsUptoCardSaid : Prop := Claim7.holds Tryz.pinned (.plain (OpenSpec.upto specimenFindsSpec)) specimenFindsUptoCard

/-- THE SECOND FORM's CARD OF 'coinagelaw09.SpecimenDies'. -/
def specimenDiesUptoCard : Claim7 := { stood := { row := specimenDiesUptoRow, standIns := [], harness := (true, "5d0fe4e48786bfca39bf250c28855c9e0514771a5204d722c85f932b606a16b4"), looks := true }, kinds := [], alts := [], laidByText := true, laidKinds := [.data, .data, .data, .data, .sentinel, .sentinel, .pinned], laidTests := true, laidLooks := .later }
def SpecimenDiesUptoCardSaid : Prop := Claim7.holds Tryz.pinned (.plain (OpenSpec.upto specimenDiesSpec)) specimenDiesUptoCard

/-- THE SECOND FORM's CARD OF 'coinagelaw09.SpecimenUnions'. -/
def specimenUnionsUptoCard : Claim7 := { stood := { row := specimenUnionsUptoRow, standIns := [], harness := (true, "5d0fe4e48786bfca39bf250c28855c9e0514771a5204d722c85f932b606a16b4"), looks := true }, kinds := [], alts := [], laidByText := true, laidKinds := [.data, .data, .data, .data, .sentinel, .sentinel, .pinned], laidTests := true, laidLooks := .later }
def SpecimenUnionsUptoCardSaid : Prop := Claim7.holds Tryz.pinned (.plain (OpenSpec.upto specimenUnionsSpec)) specimenUnionsUptoCard

/-- THE SECOND FORM's CARD OF 'coinagelaw09.SpecimenGroups'. -/
def specimenGroupsUptoCard : Claim7 := { stood := { row := specimenGroupsUptoRow, standIns := [], harness := (true, "5d0fe4e48786bfca39bf250c28855c9e0514771a5204d722c85f932b606a16b4"), looks := true }, kinds := [], alts := [], laidByText := true, laidKinds := [.data, .data, .data, .data, .sentinel, .sentinel, .pinned], laidTests := true, laidLooks := .later }
def SpecimenGroupsUptoCardSaid : Prop := Claim7.holds Tryz.pinned (.plain (OpenSpec.upto specimenGroupsSpec)) specimenGroupsUptoCard

/-- THE SECOND FORM's CARD OF 'coinagelaw09.SpecimenExports'. -/
def specimenExportsUptoCard : Claim7 := { stood := { row := specimenExportsUptoRow, standIns := [], harness := (true, "5d0fe4e48786bfca39bf250c28855c9e0514771a5204d722c85f932b606a16b4"), looks := true }, kinds := [], alts := [], laidByText := true, laidKinds := [.data, .data, .data, .data, .sentinel, .sentinel, .pinned], laidTests := true, laidLooks := .later }
def SpecimenExportsUptoCardSaid : Prop := Claim7.holds Tryz.pinned (.plain (OpenSpec.upto specimenExportsSpec)) specimenExportsUptoCard

/-- THE SECOND FORM's CARD OF 'coinagelaw09.SpecimenImports'. -/
def specimenImportsUptoCard : Claim7 := { stood := { row := specimenImportsUptoRow, standIns := [], harness := (true, "5d0fe4e48786bfca39bf250c28855c9e0514771a5204d722c85f932b606a16b4"), looks := true }, kinds := [], alts := [], laidByText := true, laidKinds := [.data, .data, .data, .data, .sentinel, .sentinel, .pinned], laidTests := true, laidLooks := .later }
def SpecimenImportsUptoCardSaid : Prop := Claim7.holds Tryz.pinned (.plain (OpenSpec.upto specimenImportsSpec)) specimenImportsUptoCard

/-- THE SECOND FORM's CARD OF 'coinagelaw09.SpecimenSorts'. -/
def specimenSortsUptoCard : Claim7 := { stood := { row := specimenSortsUptoRow, standIns := [], harness := (true, "5d0fe4e48786bfca39bf250c28855c9e0514771a5204d722c85f932b606a16b4"), looks := true }, kinds := [], alts := [], laidByText := true, laidKinds := [.data, .data, .data, .data, .sentinel, .sentinel, .pinned], laidTests := true, laidLooks := .later }
def SpecimenSortsUptoCardSaid : Prop := Claim7.holds Tryz.pinned (.plain (OpenSpec.upto specimenSortsSpec)) specimenSortsUptoCard
end Rows
end Go.Proofs.YtnaoagkelbjflaaGreatDoor
