/-
  DERIVED. GIVEN WITH THE SEED: THE CARDS: each row of YthbodpjkckminaaGreatDoorRows.lean that lists a variable, with what it lists TIED to the program's text (the seventh form; the later family's looks); each row that meets fmt, with fmt's text TOLD by the authors' own Lean function (tested against real Go, not proved from fmt's source: count such statements apart). THE CARD IS WHAT COUNTS. Prove the row's statement (the work); the ties are given (YthbodpjkckminaaGreatDoorTie.lean); close each card by the builder's one call (the guide's Derived/Test/ToyasCard.lean, 'card_holds'). Laid BY PROGRAM, IN A SANDBOX (cutbox-door.mjs). By AI agents, Wed Nov 11 2026. No macro, syntax, notation, axiom, sorry.
-/
import Derived.Test.YthbodpjkckminaaGreatDoorRows
import GoSem.ClaimSeven
namespace Go.Proofs.YthbodpjkckminaaGreatDoor
namespace Rows

/-- THE TIED CARD OF 'obeluslaw36.NumberingSteps'. -/
def numberingStepsCard : Claim7 := { stood := { row := numberingStepsRow, standIns := [], harness := (true, "025dc4f841b8eb06e79601940bc12cb46c18f646f701f8b491cc8894fea64fec"), looks := false }, kinds := [], alts := [], laidByText := true, laidKinds := [.data, .data, .data, .data, .data, .pinned, .pinned], laidTests := true, laidLooks := .later }
def NumberingStepsCardSaid : Prop := Claim7.holds Tryz.pinned (.plain (OpenSpec.ofChange numberingStepsSpec)) numberingStepsCard

/-- THE TIED CARD OF 'obeluslaw36.NumberingOf'. -/
def numberingOfCard : Claim7 := { stood := { row := numberingOfRow, standIns := [], harness := (true, "025dc4f841b8eb06e79601940bc12cb46c18f646f701f8b491cc8894fea64fec"), looks := false }, kinds := [], alts := [], laidByText := true, laidKinds := [.data, .data, .data, .data, .data, .pinned, .pinned], laidTests := true, laidLooks := .later }
def NumberingOfCardSaid : Prop := Claim7.holds Tryz.pinned (.plain (OpenSpec.ofChange numberingOfSpec)) numberingOfCard

/-- THE TIED CARD OF 'obeluslaw36.NumberingSeparate'. -/
def numberingSeparateCard : Claim7 := { stood := { row := numberingSeparateRow, standIns := [], harness := (true, "025dc4f841b8eb06e79601940bc12cb46c18f646f701f8b491cc8894fea64fec"), looks := false }, kinds := [], alts := [], laidByText := true, laidKinds := [.data, .data, .data, .data, .data, .pinned, .pinned], laidTests := true, laidLooks := .later }
def NumberingSeparateCardSaid : Prop := Claim7.holds Tryz.pinned (.plain (OpenSpec.ofChange numberingSeparateSpec)) numberingSeparateCard

/-- THE TIED CARD OF 'obeluslaw36.NumberingIncreases'. -/
def numberingIncreasesCard : Claim7 := { stood := { row := numberingIncreasesRow, standIns := [], harness := (true, "025dc4f841b8eb06e79601940bc12cb46c18f646f701f8b491cc8894fea64fec"), looks := false }, kinds := [], alts := [], laidByText := true, laidKinds := [.data, .data, .data, .data, .data, .pinned, .pinned], laidTests := true, laidLooks := .later }
def NumberingIncreasesCardSaid : Prop := Claim7.holds Tryz.pinned (.plain (OpenSpec.ofChange numberingIncreasesSpec)) numberingIncreasesCard

/-- THE TIED CARD OF 'obeluslaw36.NumberingLists'. -/
def numberingListsCard : Claim7 := { stood := { row := numberingListsRow, standIns := [], harness := (true, "025dc4f841b8eb06e79601940bc12cb46c18f646f701f8b491cc8894fea64fec"), looks := false }, kinds := [], alts := [], laidByText := true, laidKinds := [.data, .data, .data, .data, .data, .pinned, .pinned], laidTests := true, laidLooks := .later }
def NumberingListsCardSaid : Prop := Claim7.holds Tryz.pinned (.plain (OpenSpec.ofChange numberingListsSpec)) numberingListsCard

/-- THE SECOND FORM's CARD OF 'obeluslaw36.NumberingSteps'. -/
def numberingStepsUptoCard : Claim7 := { stood := { row := numberingStepsUptoRow, standIns := [], harness := (true, "025dc4f841b8eb06e79601940bc12cb46c18f646f701f8b491cc8894fea64fec"), looks := false }, kinds := [], alts := [], laidByText := true, laidKinds := [.data, .data, .data, .data, .data, .pinned, .pinned], laidTests := true, laidLooks := .later }
def NumberingStepsUptoCardSaid : Prop := Claim7.holds Tryz.pinned (.plain (OpenSpec.upto numberingStepsSpec)) numberingStepsUptoCard

/-- THE SECOND FORM's CARD OF 'obeluslaw36.NumberingOf'. -/
def numberingOfUptoCard : Claim7 := { stood := { row := numberingOfUptoRow, standIns := [], harness := (true, "025dc4f841b8eb06e79601940bc12cb46c18f646f701f8b491cc8894fea64fec"), looks := false }, kinds := [], alts := [], laidByText := true, laidKinds := [.data, .data, .data, .data, .data, .pinned, .pinned], laidTests := true, laidLooks := .later }
def NumberingOfUptoCardSaid : Prop := Claim7.holds Tryz.pinned (.plain (OpenSpec.upto numberingOfSpec)) numberingOfUptoCard

/-- THE SECOND FORM's CARD OF 'obeluslaw36.NumberingSeparate'. -/
def numberingSeparateUptoCard : Claim7 := { stood := { row := numberingSeparateUptoRow, standIns := [], harness := (true, "025dc4f841b8eb06e79601940bc12cb46c18f646f701f8b491cc8894fea64fec"), looks := false }, kinds := [], alts := [], laidByText := true, laidKinds := [.data, .data, .data, .data, .data, .pinned, .pinned], laidTests := true, laidLooks := .later }
def NumberingSeparateUptoCardSaid : Prop := Claim7.holds Tryz.pinned (.plain (OpenSpec.upto numberingSeparateSpec)) numberingSeparateUptoCard

/-- THE SECOND FORM's CARD OF 'obeluslaw36.NumberingIncreases'. -/
def numberingIncreasesUptoCard : Claim7 := { stood := { row := numberingIncreasesUptoRow, standIns := [], harness := (true, "025dc4f841b8eb06e79601940bc12cb46c18f646f701f8b491cc8894fea64fec"), looks := false }, kinds := [], alts := [], laidByText := true, laidKinds := [.data, .data, .data, .data, .data, .pinned, .pinned], laidTests := true, laidLooks := .later }
def NumberingIncreasesUptoCardSaid : Prop := Claim7.holds Tryz.pinned (.plain (OpenSpec.upto numberingIncreasesSpec)) numberingIncreasesUptoCard

/-- THE SECOND FORM's CARD OF 'obeluslaw36.NumberingLists'. -/
def numberingListsUptoCard : Claim7 := { stood := { row := numberingListsUptoRow, standIns := [], harness := (true, "025dc4f841b8eb06e79601940bc12cb46c18f646f701f8b491cc8894fea64fec"), looks := false }, kinds := [], alts := [], laidByText := true, laidKinds := [.data, .data, .data, .data, .data, .pinned, .pinned], laidTests := true, laidLooks := .later }
def NumberingListsUptoCardSaid : Prop := Claim7.holds Tryz.pinned (.plain (OpenSpec.upto numberingListsSpec)) numberingListsUptoCard
end Rows
end Go.Proofs.YthbodpjkckminaaGreatDoor
