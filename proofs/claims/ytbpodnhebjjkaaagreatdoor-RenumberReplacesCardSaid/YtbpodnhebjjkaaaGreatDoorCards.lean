/-
  DERIVED. GIVEN WITH THE SEED: THE CARDS: each row of YtbpodnhebjjkaaaGreatDoorRows.lean that lists a variable, with what it lists TIED to the program's text (the seventh form; the later family's looks); each row that meets fmt, with fmt's text TOLD by the authors' own Lean function (tested against real Go, not proved from fmt's source: count such statements apart). THE CARD IS WHAT COUNTS. Prove the row's statement (the work); the ties are given (YtbpodnhebjjkaaaGreatDoorTie.lean); close each card by the builder's one call (the guide's Derived/Test/ToyasCard.lean, 'card_holds'). Laid BY PROGRAM, IN A SANDBOX (cutbox-door.mjs). By AI agents, Wed Nov 11 2026. No macro, syntax, notation, axiom, sorry.
-/
import Derived.Test.YtbpodnhebjjkaaaGreatDoorRows
import GoSem.ClaimSeven
namespace Go.Proofs.YtbpodnhebjjkaaaGreatDoor
namespace Rows

/-- THE TIED CARD OF 'obeluslaw37.RenumberNew'. -/
def renumberNewCard : Claim7 := { stood := { row := renumberNewRow, standIns := [], harness := (true, "4381a6fdb7d793356bfc49302d1176530c686ef3cc0c996f509e9151f25d8abb"), looks := false }, kinds := [], alts := [], laidByText := true, laidKinds := [.data, .data, .data, .data, .data, .pinned, .pinned], laidTests := true, laidLooks := .later }
def RenumberNewCardSaid : Prop := Claim7.holds Tryz.pinned (.plain (OpenSpec.ofChange renumberNewSpec)) renumberNewCard

/-- THE TIED CARD OF 'obeluslaw37.RenumberReplaces'. -/
def renumberReplacesCard : Claim7 := { stood := { row := renumberReplacesRow, standIns := [], harness := (true, "4381a6fdb7d793356bfc49302d1176530c686ef3cc0c996f509e9151f25d8abb"), looks := false }, kinds := [], alts := [], laidByText := true, laidKinds := [.data, .data, .data, .data, .data, .pinned, .pinned], laidTests := true, laidLooks := .later }
def RenumberReplacesCardSaid : Prop := Claim7.holds Tryz.pinned (.plain (OpenSpec.ofChange renumberReplacesSpec)) renumberReplacesCard

/-- THE SECOND FORM's CARD OF 'obeluslaw37.RenumberNew'. -/
def renumberNewUptoCard : Claim7 := { stood := { row := renumberNewUptoRow, standIns := [], harness := (true, "4381a6fdb7d793356bfc49302d1176530c686ef3cc0c996f509e9151f25d8abb"), looks := false }, kinds := [], alts := [], laidByText := true, laidKinds := [.data, .data, .data, .data, .data, .pinned, .pinned], laidTests := true, laidLooks := .later }
def RenumberNewUptoCardSaid : Prop := Claim7.holds Tryz.pinned (.plain (OpenSpec.upto renumberNewSpec)) renumberNewUptoCard

/-- THE SECOND FORM's CARD OF 'obeluslaw37.RenumberReplaces'. -/
def renumberReplacesUptoCard : Claim7 := { stood := { row := renumberReplacesUptoRow, standIns := [], harness := (true, "4381a6fdb7d793356bfc49302d1176530c686ef3cc0c996f509e9151f25d8abb"), looks := false }, kinds := [], alts := [], laidByText := true, laidKinds := [.data, .data, .data, .data, .data, .pinned, .pinned], laidTests := true, laidLooks := .later }
def RenumberReplacesUptoCardSaid : Prop := Claim7.holds Tryz.pinned (.plain (OpenSpec.upto renumberReplacesSpec)) renumberReplacesUptoCard
end Rows
end Go.Proofs.YtbpodnhebjjkaaaGreatDoor
