/-
  DERIVED. GIVEN WITH THE SEED: THE CARDS: each row of YtccmchmemafjdaaGreatDoorRows.lean that lists a variable, with what it lists TIED to the program's text (the seventh form; the later family's looks); each row that meets fmt, with fmt's text TOLD by the authors' own Lean function (tested against real Go, not proved from fmt's source: count such statements apart). THE CARD IS WHAT COUNTS. Prove the row's statement (the work); the ties are given (YtccmchmemafjdaaGreatDoorTie.lean); close each card by the builder's one call (the guide's Derived/Test/ToyasCard.lean, 'card_holds'). Laid BY PROGRAM, IN A SANDBOX (cutbox-door.mjs). By AI agents, Wed Nov 11 2026. No macro, syntax, notation, axiom, sorry.
-/
import Derived.Test.YtccmchmemafjdaaGreatDoorRows
import GoSem.ClaimSeven
namespace Go.Proofs.YtccmchmemafjdaaGreatDoor
namespace Rows

/-- THE TIED CARD OF 'coinagelaw46.ProvenanceTexts'. -/
def provenanceTextsCard : Claim7 := { stood := { row := provenanceTextsRow, standIns := [], harness := (true, "54262bc077e4b5970eba8350a92931c1fb8e1feabe98b16471617016aa4ee2db"), looks := true }, kinds := [], alts := [], laidByText := true, laidKinds := [.data, .data, .data, .data, .sentinel, .sentinel, .pinned], laidTests := true, laidLooks := .later }
def ProvenanceTextsCardSaid : Prop := Claim7.holds Tryz.pinned (.plain (OpenSpec.ofChange provenanceTextsSpec)) provenanceTextsCard

/-- THE TIED CARD OF 'coinagelaw46.ProvenanceGroups'. -/
def provenanceGroupsCard : Claim7 := { stood := { row := provenanceGroupsRow, standIns := [], harness := (true, "54262bc077e4b5970eba8350a92931c1fb8e1feabe98b16471617016aa4ee2db"), looks := true }, kinds := [], alts := [], laidByText := true, laidKinds := [.data, .data, .data, .data, .sentinel, .sentinel, .pinned], laidTests := true, laidLooks := .later }
def ProvenanceGroupsCardSaid : Prop := Claim7.holds Tryz.pinned (.plain (OpenSpec.ofChange provenanceGroupsSpec)) provenanceGroupsCard

/-- THE TIED CARD OF 'coinagelaw46.ProvenanceChains'. -/
def provenanceChainsCard : Claim7 := { stood := { row := provenanceChainsRow, standIns := [], harness := (true, "54262bc077e4b5970eba8350a92931c1fb8e1feabe98b16471617016aa4ee2db"), looks := true }, kinds := [], alts := [], laidByText := true, laidKinds := [.data, .data, .data, .data, .sentinel, .sentinel, .pinned], laidTests := true, laidLooks := .later }
def ProvenanceChainsCardSaid : Prop := Claim7.holds Tryz.pinned (.plain (OpenSpec.ofChange provenanceChainsSpec)) provenanceChainsCard

/-- THE TIED CARD OF 'coinagelaw46.ProvenanceJoins'. -/
def provenanceJoinsCard : Claim7 := { stood := { row := provenanceJoinsRow, standIns := [], harness := (true, "54262bc077e4b5970eba8350a92931c1fb8e1feabe98b16471617016aa4ee2db"), looks := true }, kinds := [], alts := [], laidByText := true, laidKinds := [.data, .data, .data, .data, .sentinel, .sentinel, .pinned], laidTests := true, laidLooks := .later }
def ProvenanceJoinsCardSaid : Prop := Claim7.holds Tryz.pinned (.plain (OpenSpec.ofChange provenanceJoinsSpec)) provenanceJoinsCard

/-- THE TIED CARD OF 'coinagelaw46.ProvenancePedigrees'. -/
def provenancePedigreesCard : Claim7 := { stood := { row := provenancePedigreesRow, standIns := [], harness := (true, "54262bc077e4b5970eba8350a92931c1fb8e1feabe98b16471617016aa4ee2db"), looks := true }, kinds := [], alts := [], laidByText := true, laidKinds := [.data, .data, .data, .data, .sentinel, .sentinel, .pinned], laidTests := true, laidLooks := .later }
def ProvenancePedigreesCardSaid : Prop := Claim7.holds Tryz.pinned (.plain (OpenSpec.ofChange provenancePedigreesSpec)) provenancePedigreesCard

/-- THE TIED CARD OF 'coinagelaw46.ProvenanceSuspects'. -/
def provenanceSuspectsCard : Claim7 := { stood := { row := provenanceSuspectsRow, standIns := [], harness := (true, "54262bc077e4b5970eba8350a92931c1fb8e1feabe98b16471617016aa4ee2db"), looks := true }, kinds := [], alts := [], laidByText := true, laidKinds := [.data, .data, .data, .data, .sentinel, .sentinel, .pinned], laidTests := true, laidLooks := .later }
def ProvenanceSuspectsCardSaid : Prop := Claim7.holds Tryz.pinned (.plain (OpenSpec.ofChange provenanceSuspectsSpec)) provenanceSuspectsCard

/-- THE TIED CARD OF 'coinagelaw46.ProvenanceReduces'. -/
def provenanceReducesCard : Claim7 := { stood := { row := provenanceReducesRow, standIns := [], harness := (true, "54262bc077e4b5970eba8350a92931c1fb8e1feabe98b16471617016aa4ee2db"), looks := true }, kinds := [], alts := [], laidByText := true, laidKinds := [.data, .data, .data, .data, .sentinel, .sentinel, .pinned], laidTests := true, laidLooks := .later }
def ProvenanceReducesCardSaid : Prop := Claim7.holds Tryz.pinned (.plain (OpenSpec.ofChange provenanceReducesSpec)) provenanceReducesCard

/-- THE SECOND FORM's CARD OF 'coinagelaw46.ProvenanceTexts'. -/
def provenanceTextsUptoCard : Claim7 := { stood := { row := provenanceTextsUptoRow, standIns := [], harness := (true, "54262bc077e4b5970eba8350a92931c1fb8e1feabe98b16471617016aa4ee2db"), looks := true }, kinds := [], alts := [], laidByText := true, laidKinds := [.data, .data, .data, .data, .sentinel, .sentinel, .pinned], laidTests := true, laidLooks := .later }
def ProvenanceTextsUptoCardSaid : Prop := Claim7.holds Tryz.pinned (.plain (OpenSpec.upto provenanceTextsSpec)) provenanceTextsUptoCard

/-- THE SECOND FORM's CARD OF 'coinagelaw46.ProvenanceGroups'. -/
def provenanceGroupsUptoCard : Claim7 := { stood := { row := provenanceGroupsUptoRow, standIns := [], harness := (true, "54262bc077e4b5970eba8350a92931c1fb8e1feabe98b16471617016aa4ee2db"), looks := true }, kinds := [], alts := [], laidByText := true, laidKinds := [.data, .data, .data, .data, .sentinel, .sentinel, .pinned], laidTests := true, laidLooks := .later }
def ProvenanceGroupsUptoCardSaid : Prop := Claim7.holds Tryz.pinned (.plain (OpenSpec.upto provenanceGroupsSpec)) provenanceGroupsUptoCard

/-- THE SECOND FORM's CARD OF 'coinagelaw46.ProvenanceChains'. -/
def provenanceChainsUptoCard : Claim7 := { stood := { row := provenanceChainsUptoRow, standIns := [], harness := (true, "54262bc077e4b5970eba8350a92931c1fb8e1feabe98b16471617016aa4ee2db"), looks := true }, kinds := [], alts := [], laidByText := true, laidKinds := [.data, .data, .data, .data, .sentinel, .sentinel, .pinned], laidTests := true, laidLooks := .later }
def ProvenanceChainsUptoCardSaid : Prop := Claim7.holds Tryz.pinned (.plain (OpenSpec.upto provenanceChainsSpec)) provenanceChainsUptoCard

/-- THE SECOND FORM's CARD OF 'coinagelaw46.ProvenanceJoins'. -/
def provenanceJoinsUptoCard : Claim7 := { stood := { row := provenanceJoinsUptoRow, standIns := [], harness := (true, "54262bc077e4b5970eba8350a92931c1fb8e1feabe98b16471617016aa4ee2db"), looks := true }, kinds := [], alts := [], laidByText := true, laidKinds := [.data, .data, .data, .data, .sentinel, .sentinel, .pinned], laidTests := true, laidLooks := .later }
def ProvenanceJoinsUptoCardSaid : Prop := Claim7.holds Tryz.pinned (.plain (OpenSpec.upto provenanceJoinsSpec)) provenanceJoinsUptoCard

/-- THE SECOND FORM's CARD OF 'coinagelaw46.ProvenancePedigrees'. -/
def provenancePedigreesUptoCard : Claim7 := { stood := { row := provenancePedigreesUptoRow, standIns := [], harness := (true, "54262bc077e4b5970eba8350a92931c1fb8e1feabe98b16471617016aa4ee2db"), looks := true }, kinds := [], alts := [], laidByText := true, laidKinds := [.data, .data, .data, .data, .sentinel, .sentinel, .pinned], laidTests := true, laidLooks := .later }
def ProvenancePedigreesUptoCardSaid : Prop := Claim7.holds Tryz.pinned (.plain (OpenSpec.upto provenancePedigreesSpec)) provenancePedigreesUptoCard

/-- THE SECOND FORM's CARD OF 'coinagelaw46.ProvenanceSuspects'. -/
def provenanceSuspectsUptoCard : Claim7 := { stood := { row := provenanceSuspectsUptoRow, standIns := [], harness := (true, "54262bc077e4b5970eba8350a92931c1fb8e1feabe98b16471617016aa4ee2db"), looks := true }, kinds := [], alts := [], laidByText := true, laidKinds := [.data, .data, .data, .data, .sentinel, .sentinel, .pinned], laidTests := true, laidLooks := .later }
def ProvenanceSuspectsUptoCardSaid : Prop := Claim7.holds Tryz.pinned (.plain (OpenSpec.upto provenanceSuspectsSpec)) provenanceSuspectsUptoCard

/-- THE SECOND FORM's CARD OF 'coinagelaw46.ProvenanceReduces'. -/
def provenanceReducesUptoCard : Claim7 := { stood := { row := provenanceReducesUptoRow, standIns := [], harness := (true, "54262bc077e4b5970eba8350a92931c1fb8e1feabe98b16471617016aa4ee2db"), looks := true }, kinds := [], alts := [], laidByText := true, laidKinds := [.data, .data, .data, .data, .sentinel, .sentinel, .pinned], laidTests := true, laidLooks := .later }
def ProvenanceReducesUptoCardSaid : Prop := Claim7.holds Tryz.pinned (.plain (OpenSpec.upto provenanceReducesSpec)) provenanceReducesUptoCard
end Rows
end Go.Proofs.YtccmchmemafjdaaGreatDoor
