/-
  DERIVED. GIVEN WITH THE SEED: THE CARDS: each row of YtpkfenlfgdbkcaaGreatDoorRows.lean that lists a variable, with what it lists TIED to the program's text (the seventh form; the later family's looks); each row that meets fmt, with fmt's text TOLD by the authors' own Lean function (tested against real Go, not proved from fmt's source: count such statements apart). THE CARD IS WHAT COUNTS. Prove the row's statement (the work); the ties are given (YtpkfenlfgdbkcaaGreatDoorTie.lean); close each card by the builder's one call (the guide's Derived/Test/ToyasCard.lean, 'card_holds'). Laid BY PROGRAM, IN A SANDBOX (cutbox-door.mjs). By AI agents, Wed Nov 11 2026. No macro, syntax, notation, axiom, sorry.
-/
import Derived.Test.YtpkfenlfgdbkcaaGreatDoorRows
import GoSem.ClaimSeven
namespace Go.Proofs.YtpkfenlfgdbkcaaGreatDoor
namespace Rows

/-- THE TIED CARD OF 'refmeshlaw59.PathsShortest'. -/
def pathsShortestCard : Claim7 := { stood := { row := pathsShortestRow, standIns := [], harness := (true, "7793199a8b31b10e0c766a24915d0e865edcc739c4ff1e1db3180adda310ec55"), looks := false }, kinds := [], alts := [], laidByText := true, laidKinds := [.data, .data, .data], laidTests := true, laidLooks := .later }
def PathsShortestCardSaid : Prop := Claim7.holds Tryz.pinned (.plain (OpenSpec.ofChange pathsShortestSpec)) pathsShortestCard

/-- THE TIED CARD OF 'refmeshlaw59.PathsHolders'. -/
def pathsHoldersCard : Claim7 := { stood := { row := pathsHoldersRow, standIns := [], harness := (true, "7793199a8b31b10e0c766a24915d0e865edcc739c4ff1e1db3180adda310ec55"), looks := false }, kinds := [], alts := [], laidByText := true, laidKinds := [.data, .data, .data], laidTests := true, laidLooks := .later }
def PathsHoldersCardSaid : Prop := Claim7.holds Tryz.pinned (.plain (OpenSpec.ofChange pathsHoldersSpec)) pathsHoldersCard

/-- THE TIED CARD OF 'refmeshlaw59.PathsBegin'. -/
def pathsBeginCard : Claim7 := { stood := { row := pathsBeginRow, standIns := [], harness := (true, "7793199a8b31b10e0c766a24915d0e865edcc739c4ff1e1db3180adda310ec55"), looks := false }, kinds := [], alts := [], laidByText := true, laidKinds := [.data, .data, .data], laidTests := true, laidLooks := .later }
def PathsBeginCardSaid : Prop := Claim7.holds Tryz.pinned (.plain (OpenSpec.ofChange pathsBeginSpec)) pathsBeginCard

/-- THE TIED CARD OF 'refmeshlaw59.PathsNear'. -/
def pathsNearCard : Claim7 := { stood := { row := pathsNearRow, standIns := [], harness := (true, "7793199a8b31b10e0c766a24915d0e865edcc739c4ff1e1db3180adda310ec55"), looks := false }, kinds := [], alts := [], laidByText := true, laidKinds := [.data, .data, .data], laidTests := true, laidLooks := .later }
def PathsNearCardSaid : Prop := Claim7.holds Tryz.pinned (.plain (OpenSpec.ofChange pathsNearSpec)) pathsNearCard

/-- THE TIED CARD OF 'refmeshlaw59.PathsSpoilt'. -/
def pathsSpoiltCard : Claim7 := { stood := { row := pathsSpoiltRow, standIns := [], harness := (true, "7793199a8b31b10e0c766a24915d0e865edcc739c4ff1e1db3180adda310ec55"), looks := false }, kinds := [], alts := [], laidByText := true, laidKinds := [.data, .data, .data], laidTests := true, laidLooks := .later }
def PathsSpoiltCardSaid : Prop := Claim7.holds Tryz.pinned (.plain (OpenSpec.ofChange pathsSpoiltSpec)) pathsSpoiltCard

/-- THE TIED CARD OF 'refmeshlaw59.PathsReach'. -/
def pathsReachCard : Claim7 := { stood := { row := pathsReachRow, standIns := [], harness := (true, "7793199a8b31b10e0c766a24915d0e865edcc739c4ff1e1db3180adda310ec55"), looks := false }, kinds := [], alts := [], laidByText := true, laidKinds := [.data, .data, .data], laidTests := true, laidLooks := .later }
def PathsReachCardSaid : Prop := Claim7.holds Tryz.pinned (.plain (OpenSpec.ofChange pathsReachSpec)) pathsReachCard

/-- THE SECOND FORM's CARD OF 'refmeshlaw59.PathsShortest'. -/
def pathsShortestUptoCard : Claim7 := { stood := { row := pathsShortestUptoRow, standIns := [], harness := (true, "7793199a8b31b10e0c766a24915d0e865edcc739c4ff1e1db3180adda310ec55"), looks := false }, kinds := [], alts := [], laidByText := true, laidKinds := [.data, .data, .data], laidTests := true, laidLooks := .later }
def PathsShortestUptoCardSaid : Prop := Claim7.holds Tryz.pinned (.plain (OpenSpec.upto pathsShortestSpec)) pathsShortestUptoCard

/-- THE SECOND FORM's CARD OF 'refmeshlaw59.PathsHolders'. -/
def pathsHoldersUptoCard : Claim7 := { stood := { row := pathsHoldersUptoRow, standIns := [], harness := (true, "7793199a8b31b10e0c766a24915d0e865edcc739c4ff1e1db3180adda310ec55"), looks := false }, kinds := [], alts := [], laidByText := true, laidKinds := [.data, .data, .data], laidTests := true, laidLooks := .later }
def PathsHoldersUptoCardSaid : Prop := Claim7.holds Tryz.pinned (.plain (OpenSpec.upto pathsHoldersSpec)) pathsHoldersUptoCard

/-- THE SECOND FORM's CARD OF 'refmeshlaw59.PathsBegin'. -/
def pathsBeginUptoCard : Claim7 := { stood := { row := pathsBeginUptoRow, standIns := [], harness := (true, "7793199a8b31b10e0c766a24915d0e865edcc739c4ff1e1db3180adda310ec55"), looks := false }, kinds := [], alts := [], laidByText := true, laidKinds := [.data, .data, .data], laidTests := true, laidLooks := .later }
def PathsBeginUptoCardSaid : Prop := Claim7.holds Tryz.pinned (.plain (OpenSpec.upto pathsBeginSpec)) pathsBeginUptoCard

/-- THE SECOND FORM's CARD OF 'refmeshlaw59.PathsNear'. -/
def pathsNearUptoCard : Claim7 := { stood := { row := pathsNearUptoRow, standIns := [], harness := (true, "7793199a8b31b10e0c766a24915d0e865edcc739c4ff1e1db3180adda310ec55"), looks := false }, kinds := [], alts := [], laidByText := true, laidKinds := [.data, .data, .data], laidTests := true, laidLooks := .later }
def PathsNearUptoCardSaid : Prop := Claim7.holds Tryz.pinned (.plain (OpenSpec.upto pathsNearSpec)) pathsNearUptoCard

/-- THE SECOND FORM's CARD OF 'refmeshlaw59.PathsSpoilt'. -/
def pathsSpoiltUptoCard : Claim7 := { stood := { row := pathsSpoiltUptoRow, standIns := [], harness := (true, "7793199a8b31b10e0c766a24915d0e865edcc739c4ff1e1db3180adda310ec55"), looks := false }, kinds := [], alts := [], laidByText := true, laidKinds := [.data, .data, .data], laidTests := true, laidLooks := .later }
def PathsSpoiltUptoCardSaid : Prop := Claim7.holds Tryz.pinned (.plain (OpenSpec.upto pathsSpoiltSpec)) pathsSpoiltUptoCard

/-- THE SECOND FORM's CARD OF 'refmeshlaw59.PathsReach'. -/
def pathsReachUptoCard : Claim7 := { stood := { row := pathsReachUptoRow, standIns := [], harness := (true, "7793199a8b31b10e0c766a24915d0e865edcc739c4ff1e1db3180adda310ec55"), looks := false }, kinds := [], alts := [], laidByText := true, laidKinds := [.data, .data, .data], laidTests := true, laidLooks := .later }
def PathsReachUptoCardSaid : Prop := Claim7.holds Tryz.pinned (.plain (OpenSpec.upto pathsReachSpec)) pathsReachUptoCard
end Rows
end Go.Proofs.YtpkfenlfgdbkcaaGreatDoor
