/-
  DERIVED. GIVEN WITH THE SEED: THE CARDS: each row of YtjegncmkebbdfaaDoorRows.lean that lists a variable, with what it lists TIED to the program's text (the seventh form; the later family's looks); each row that meets fmt, with fmt's text TOLD by the authors' own Lean function (tested against real Go, not proved from fmt's source: count such statements apart). THE CARD IS WHAT COUNTS. Prove the row's statement (the work); the ties are given (YtjegncmkebbdfaaDoorTie.lean); close each card by the builder's one call (the guide's Derived/Test/ToyasCard.lean, 'card_holds'). Laid BY PROGRAM, IN A SANDBOX (cutbox-door.mjs). By AI agents, Wed Nov 11 2026. No macro, syntax, notation, axiom, sorry.
-/
import Derived.Test.YtjegncmkebbdfaaDoorRows
import GoSem.ClaimSeven
namespace Go.Proofs.YtjegncmkebbdfaaDoor
namespace Rows

/-- THE TIED CARD OF 'refmeshlaw16.ShapeClosed'. -/
def shapeClosedCard : Claim7 := { stood := { row := shapeClosedRow, standIns := [], harness := (true, "9c75d3d4a6d55a48c741b6458ca22b5a595c0015b1d5200dce0d249bccffa325"), looks := false }, kinds := [], alts := [], laidByText := true, laidKinds := [.data, .data, .data], laidTests := true, laidLooks := .later }
def ShapeClosedCardSaid : Prop := Claim7.holds Tryd.pinned (.plain (OpenSpec.ofChange shapeClosedSpec)) shapeClosedCard

/-- THE TIED CARD OF 'refmeshlaw16.ShapeLines'. -/
def shapeLinesCard : Claim7 := { stood := { row := shapeLinesRow, standIns := [], harness := (true, "9c75d3d4a6d55a48c741b6458ca22b5a595c0015b1d5200dce0d249bccffa325"), looks := false }, kinds := [], alts := [], laidByText := true, laidKinds := [.data, .data, .data], laidTests := true, laidLooks := .later }
def ShapeLinesCardSaid : Prop := Claim7.holds Tryd.pinned (.plain (OpenSpec.ofChange shapeLinesSpec)) shapeLinesCard

/-- THE TIED CARD OF 'refmeshlaw16.ShapeMonotone'. -/
def shapeMonotoneCard : Claim7 := { stood := { row := shapeMonotoneRow, standIns := [], harness := (true, "9c75d3d4a6d55a48c741b6458ca22b5a595c0015b1d5200dce0d249bccffa325"), looks := false }, kinds := [], alts := [], laidByText := true, laidKinds := [.data, .data, .data], laidTests := true, laidLooks := .later }
def ShapeMonotoneCardSaid : Prop := Claim7.holds Tryd.pinned (.plain (OpenSpec.ofChange shapeMonotoneSpec)) shapeMonotoneCard

/-- THE TIED CARD OF 'refmeshlaw16.ShapeValid'. -/
def shapeValidCard : Claim7 := { stood := { row := shapeValidRow, standIns := [], harness := (true, "9c75d3d4a6d55a48c741b6458ca22b5a595c0015b1d5200dce0d249bccffa325"), looks := false }, kinds := [], alts := [], laidByText := true, laidKinds := [.data, .data, .data], laidTests := true, laidLooks := .later }
def ShapeValidCardSaid : Prop := Claim7.holds Tryd.pinned (.plain (OpenSpec.ofChange shapeValidSpec)) shapeValidCard

/-- THE TIED CARD OF 'refmeshlaw16.ShapeUnion'. -/
def shapeUnionCard : Claim7 := { stood := { row := shapeUnionRow, standIns := [], harness := (true, "9c75d3d4a6d55a48c741b6458ca22b5a595c0015b1d5200dce0d249bccffa325"), looks := false }, kinds := [], alts := [], laidByText := true, laidKinds := [.data, .data, .data], laidTests := true, laidLooks := .later }
def ShapeUnionCardSaid : Prop := Claim7.holds Tryd.pinned (.plain (OpenSpec.ofChange shapeUnionSpec)) shapeUnionCard

/-- THE SECOND FORM's CARD OF 'refmeshlaw16.ShapeClosed'. -/
def shapeClosedUptoCard : Claim7 := { stood := { row := shapeClosedUptoRow, standIns := [], harness := (true, "9c75d3d4a6d55a48c741b6458ca22b5a595c0015b1d5200dce0d249bccffa325"), looks := false }, kinds := [], alts := [], laidByText := true, laidKinds := [.data, .data, .data], laidTests := true, laidLooks := .later }
def ShapeClosedUptoCardSaid : Prop := Claim7.holds Tryd.pinned (.plain (OpenSpec.upto shapeClosedSpec)) shapeClosedUptoCard

/-- THE SECOND FORM's CARD OF 'refmeshlaw16.ShapeLines'. -/
def shapeLinesUptoCard : Claim7 := { stood := { row := shapeLinesUptoRow, standIns := [], harness := (true, "9c75d3d4a6d55a48c741b6458ca22b5a595c0015b1d5200dce0d249bccffa325"), looks := false }, kinds := [], alts := [], laidByText := true, laidKinds := [.data, .data, .data], laidTests := true, laidLooks := .later }
def ShapeLinesUptoCardSaid : Prop := Claim7.holds Tryd.pinned (.plain (OpenSpec.upto shapeLinesSpec)) shapeLinesUptoCard

/-- THE SECOND FORM's CARD OF 'refmeshlaw16.ShapeMonotone'. -/
def shapeMonotoneUptoCard : Claim7 := { stood := { row := shapeMonotoneUptoRow, standIns := [], harness := (true, "9c75d3d4a6d55a48c741b6458ca22b5a595c0015b1d5200dce0d249bccffa325"), looks := false }, kinds := [], alts := [], laidByText := true, laidKinds := [.data, .data, .data], laidTests := true, laidLooks := .later }
def ShapeMonotoneUptoCardSaid : Prop := Claim7.holds Tryd.pinned (.plain (OpenSpec.upto shapeMonotoneSpec)) shapeMonotoneUptoCard

/-- THE SECOND FORM's CARD OF 'refmeshlaw16.ShapeValid'. -/
def shapeValidUptoCard : Claim7 := { stood := { row := shapeValidUptoRow, standIns := [], harness := (true, "9c75d3d4a6d55a48c741b6458ca22b5a595c0015b1d5200dce0d249bccffa325"), looks := false }, kinds := [], alts := [], laidByText := true, laidKinds := [.data, .data, .data], laidTests := true, laidLooks := .later }
def ShapeValidUptoCardSaid : Prop := Claim7.holds Tryd.pinned (.plain (OpenSpec.upto shapeValidSpec)) shapeValidUptoCard

/-- THE SECOND FORM's CARD OF 'refmeshlaw16.ShapeUnion'. -/
def shapeUnionUptoCard : Claim7 := { stood := { row := shapeUnionUptoRow, standIns := [], harness := (true, "9c75d3d4a6d55a48c741b6458ca22b5a595c0015b1d5200dce0d249bccffa325"), looks := false }, kinds := [], alts := [], laidByText := true, laidKinds := [.data, .data, .data], laidTests := true, laidLooks := .later }
def ShapeUnionUptoCardSaid : Prop := Claim7.holds Tryd.pinned (.plain (OpenSpec.upto shapeUnionSpec)) shapeUnionUptoCard
end Rows
end Go.Proofs.YtjegncmkebbdfaaDoor
