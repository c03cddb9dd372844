/-
  DERIVED. GIVEN WITH THE SEED: THE CARDS: each row of YtjegncmkebbdfaaGreatDoorRows.lean that lists a variable, with what it lists TIED to the program's text (the seventh form; the later family's looks); each row that meets fmt, with fmt's text TOLD by the authors' own Lean function (tested against real Go, not proved from fmt's source: count such statements apart). THE CARD IS WHAT COUNTS. Prove the row's statement (the work); the ties are given (YtjegncmkebbdfaaGreatDoorTie.lean); close each card by the builder's one call (the guide's Derived/Test/ToyasCard.lean, 'card_holds'). Laid BY PROGRAM, IN A SANDBOX (cutbox-door.mjs). By AI agents, Wed Nov 11 2026. No macro, syntax, notation, axiom, sorry.
-/
import Derived.Test.YtjegncmkebbdfaaGreatDoorRows
import GoSem.ClaimSeven
namespace Go.Proofs.YtjegncmkebbdfaaGreatDoor
namespace Rows

/-- THE TIED CARD OF 'refmeshlaw16.ShapeUnites'. -/
def shapeUnitesCard : Claim7 := { stood := { row := shapeUnitesRow, standIns := [], harness := (true, "a66b19c0566e8e036539f5a970da3c7630847a18b5f84df57f05542e1f8481c2"), looks := false }, kinds := [], alts := [], laidByText := true, laidKinds := [.data, .data, .data], laidTests := true, laidLooks := .later }
def ShapeUnitesCardSaid : Prop := Claim7.holds Tryz.pinned (.plain (OpenSpec.ofChange shapeUnitesSpec)) shapeUnitesCard

/-- THE TIED CARD OF 'refmeshlaw16.ShapeValues'. -/
def shapeValuesCard : Claim7 := { stood := { row := shapeValuesRow, standIns := [], harness := (true, "a66b19c0566e8e036539f5a970da3c7630847a18b5f84df57f05542e1f8481c2"), looks := false }, kinds := [], alts := [], laidByText := true, laidKinds := [.data, .data, .data], laidTests := true, laidLooks := .later }
def ShapeValuesCardSaid : Prop := Claim7.holds Tryz.pinned (.plain (OpenSpec.ofChange shapeValuesSpec)) shapeValuesCard

/-- THE TIED CARD OF 'refmeshlaw16.ShapeHeaps'. -/
def shapeHeapsCard : Claim7 := { stood := { row := shapeHeapsRow, standIns := [], harness := (true, "a66b19c0566e8e036539f5a970da3c7630847a18b5f84df57f05542e1f8481c2"), looks := false }, kinds := [], alts := [], laidByText := true, laidKinds := [.data, .data, .data], laidTests := true, laidLooks := .later }
def ShapeHeapsCardSaid : Prop := Claim7.holds Tryz.pinned (.plain (OpenSpec.ofChange shapeHeapsSpec)) shapeHeapsCard

/-- THE SECOND FORM's CARD OF 'refmeshlaw16.ShapeUnites'. -/
def shapeUnitesUptoCard : Claim7 := { stood := { row := shapeUnitesUptoRow, standIns := [], harness := (true, "a66b19c0566e8e036539f5a970da3c7630847a18b5f84df57f05542e1f8481c2"), looks := false }, kinds := [], alts := [], laidByText := true, laidKinds := [.data, .data, .data], laidTests := true, laidLooks := .later }
def ShapeUnitesUptoCardSaid : Prop := Claim7.holds Tryz.pinned (.plain (OpenSpec.upto shapeUnitesSpec)) shapeUnitesUptoCard

/-- THE SECOND FORM's CARD OF 'refmeshlaw16.ShapeValues'. -/
def shapeValuesUptoCard : Claim7 := { stood := { row := shapeValuesUptoRow, standIns := [], harness := (true, "a66b19c0566e8e036539f5a970da3c7630847a18b5f84df57f05542e1f8481c2"), looks := false }, kinds := [], alts := [], laidByText := true, laidKinds := [.data, .data, .data], laidTests := true, laidLooks := .later }
def ShapeValuesUptoCardSaid : Prop := Claim7.holds Tryz.pinned (.plain (OpenSpec.upto shapeValuesSpec)) shapeValuesUptoCard

/-- THE SECOND FORM's CARD OF 'refmeshlaw16.ShapeHeaps'. -/
def shapeHeapsUptoCard : Claim7 := { stood := { row := shapeHeapsUptoRow, standIns := [], harness := (true, "a66b19c0566e8e036539f5a970da3c7630847a18b5f84df57f05542e1f8481c2"), looks := false }, kinds := [], alts := [], laidByText := true, laidKinds := [.data, .data, .data], laidTests := true, laidLooks := .later }
def ShapeHeapsUptoCardSaid : Prop := Claim7.holds Tryz.pinned (.plain (OpenSpec.upto shapeHeapsSpec)) shapeHeapsUptoCard
end Rows
end Go.Proofs.YtjegncmkebbdfaaGreatDoor
