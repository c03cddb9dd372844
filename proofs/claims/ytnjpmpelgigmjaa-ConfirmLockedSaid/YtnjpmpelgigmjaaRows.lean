/-
  No cell of these rows narrows 'for every input' (looked for: loops, veiled, ifaces, maps, wideKeys, modest, calm, conditions, laid).
  DERIVED. THE GIVEN ROWS OF THIS SEAT. 7 by the template 'for every input the law returns true; each argument reads behind the call as it read before'; 0 by the template 'total and deterministic' (their statements: YtnjpmpelgigmjaaTotals.lean).
  GIVEN WITH THE SEED: the statements are not yours to turn. If you find one false, say at which input.
  Laid BY PROGRAM, IN A SANDBOX (cutbox-rows.mjs): the forced cells as the released guide's own fill.sh prints them over the translation 2c214cae4d382981… (all of the seat's roots in one cut). By AI agents, Wed Nov 11 2026. No macro, syntax, notation, axiom, sorry.
-/
import Derived.Test.YtnjpmpelgigmjaaChecked
import GoSem.Claim
import GoSem.ClaimJoined
import GoSem.ClaimMapViews
import Derived.JoinedTies
import Derived.KernelRfl
namespace Go.Proofs.Ytnjpmpelgigmjaa
/- THE CELL 'sum', in the pinned program and in every row, IS THE sha256 OF THE DUMP (.gsa) THAT YtnjpmpelgigmjaaProg.lean LOADS. Nothing in Lean hashes anything: it is a label: what it is worth is what the hold of that sum in a sandbox is worth. -/
noncomputable def Try.pinned : Pinned := { name := "ytnjpmpelgigmjaa", sum := "2c214cae4d3829811c1d211745d46332ce1c8c8b875b3c23703f8731c3be5b5f", checked := Try.checked }
namespace Rows
def none {H : Type} : Left H := { results := [], args := [] }

/-- 'refmeshlaw34.ConfirmChecks': WHATEVER THE INPUT: true; the input reads as it did. -/
def confirmChecksSpec : ChangeSpec := { name := "confirmChecks", fn := fun _ => fun
  | [d1, d2, d3] => { results := [.lit (.bool true)], args := [d1, d2, d3] }
  | _ => none }
def confirmChecksRow : OpenClaim := { program := "ytnjpmpelgigmjaa", sum := "2c214cae4d3829811c1d211745d46332ce1c8c8b875b3c23703f8731c3be5b5f", func := "refmesh/refmeshlaw34.ConfirmChecks", spec := "confirmChecks", unfollowed := true, recurses := true, apart := false }
def ConfirmChecksSaid : Prop := confirmChecksRow.holds Try.pinned (OpenSpec.ofChange confirmChecksSpec)

/-- ITS FALSE NEIGHBOUR: 'it returns false'. Refute it at one input. -/
def confirmChecksWrong : ChangeSpec := { name := "confirmChecks", fn := fun _ => fun
  | [d1, d2, d3] => { results := [.lit (.bool false)], args := [d1, d2, d3] }
  | _ => none }
def ConfirmChecksWrongFalsely : Prop := confirmChecksRow.holds Try.pinned (OpenSpec.ofChange confirmChecksWrong)

/-- 'refmeshlaw34.ConfirmRefuses': WHATEVER THE INPUT: true; the input reads as it did. -/
def confirmRefusesSpec : ChangeSpec := { name := "confirmRefuses", fn := fun _ => fun
  | [d1, d2, d3, d4, d5] => { results := [.lit (.bool true)], args := [d1, d2, d3, d4, d5] }
  | _ => none }
def confirmRefusesRow : OpenClaim := { program := "ytnjpmpelgigmjaa", sum := "2c214cae4d3829811c1d211745d46332ce1c8c8b875b3c23703f8731c3be5b5f", func := "refmesh/refmeshlaw34.ConfirmRefuses", spec := "confirmRefuses", unfollowed := true, recurses := true, apart := false }
def ConfirmRefusesSaid : Prop := confirmRefusesRow.holds Try.pinned (OpenSpec.ofChange confirmRefusesSpec)

/-- ITS FALSE NEIGHBOUR: 'it returns false'. Refute it at one input. -/
def confirmRefusesWrong : ChangeSpec := { name := "confirmRefuses", fn := fun _ => fun
  | [d1, d2, d3, d4, d5] => { results := [.lit (.bool false)], args := [d1, d2, d3, d4, d5] }
  | _ => none }
def ConfirmRefusesWrongFalsely : Prop := confirmRefusesRow.holds Try.pinned (OpenSpec.ofChange confirmRefusesWrong)

/-- 'refmeshlaw34.ConfirmCondemns': WHATEVER THE INPUT: true; the input reads as it did. -/
def confirmCondemnsSpec : ChangeSpec := { name := "confirmCondemns", fn := fun _ => fun
  | [d1, d2, d3] => { results := [.lit (.bool true)], args := [d1, d2, d3] }
  | _ => none }
def confirmCondemnsRow : OpenClaim := { program := "ytnjpmpelgigmjaa", sum := "2c214cae4d3829811c1d211745d46332ce1c8c8b875b3c23703f8731c3be5b5f", func := "refmesh/refmeshlaw34.ConfirmCondemns", spec := "confirmCondemns", unfollowed := true, recurses := true, apart := false }
def ConfirmCondemnsSaid : Prop := confirmCondemnsRow.holds Try.pinned (OpenSpec.ofChange confirmCondemnsSpec)

/-- ITS FALSE NEIGHBOUR: 'it returns false'. Refute it at one input. -/
def confirmCondemnsWrong : ChangeSpec := { name := "confirmCondemns", fn := fun _ => fun
  | [d1, d2, d3] => { results := [.lit (.bool false)], args := [d1, d2, d3] }
  | _ => none }
def ConfirmCondemnsWrongFalsely : Prop := confirmCondemnsRow.holds Try.pinned (OpenSpec.ofChange confirmCondemnsWrong)

/-- 'refmeshlaw34.ConfirmUndone': WHATEVER THE INPUT: true; the input reads as it did. -/
def confirmUndoneSpec : ChangeSpec := { name := "confirmUndone", fn := fun _ => fun
  | [d1, d2, d3] => { results := [.lit (.bool true)], args := [d1, d2, d3] }
  | _ => none }
def confirmUndoneRow : OpenClaim := { program := "ytnjpmpelgigmjaa", sum := "2c214cae4d3829811c1d211745d46332ce1c8c8b875b3c23703f8731c3be5b5f", func := "refmesh/refmeshlaw34.ConfirmUndone", spec := "confirmUndone", unfollowed := true, recurses := true, apart := false }
def ConfirmUndoneSaid : Prop := confirmUndoneRow.holds Try.pinned (OpenSpec.ofChange confirmUndoneSpec)

/-- ITS FALSE NEIGHBOUR: 'it returns false'. Refute it at one input. -/
def confirmUndoneWrong : ChangeSpec := { name := "confirmUndone", fn := fun _ => fun
  | [d1, d2, d3] => { results := [.lit (.bool false)], args := [d1, d2, d3] }
  | _ => none }
def ConfirmUndoneWrongFalsely : Prop := confirmUndoneRow.holds Try.pinned (OpenSpec.ofChange confirmUndoneWrong)

/-- 'refmeshlaw34.ConfirmExclusive': WHATEVER THE INPUT: true; the input reads as it did. -/
def confirmExclusiveSpec : ChangeSpec := { name := "confirmExclusive", fn := fun _ => fun
  | [d1, d2, d3, d4] => { results := [.lit (.bool true)], args := [d1, d2, d3, d4] }
  | _ => none }
def confirmExclusiveRow : OpenClaim := { program := "ytnjpmpelgigmjaa", sum := "2c214cae4d3829811c1d211745d46332ce1c8c8b875b3c23703f8731c3be5b5f", func := "refmesh/refmeshlaw34.ConfirmExclusive", spec := "confirmExclusive", unfollowed := true, recurses := true, apart := false }
def ConfirmExclusiveSaid : Prop := confirmExclusiveRow.holds Try.pinned (OpenSpec.ofChange confirmExclusiveSpec)

/-- ITS FALSE NEIGHBOUR: 'it returns false'. Refute it at one input. -/
def confirmExclusiveWrong : ChangeSpec := { name := "confirmExclusive", fn := fun _ => fun
  | [d1, d2, d3, d4] => { results := [.lit (.bool false)], args := [d1, d2, d3, d4] }
  | _ => none }
def ConfirmExclusiveWrongFalsely : Prop := confirmExclusiveRow.holds Try.pinned (OpenSpec.ofChange confirmExclusiveWrong)

/-- 'refmeshlaw34.ConfirmEntries': WHATEVER THE INPUT: true; the input reads as it did. -/
def confirmEntriesSpec : ChangeSpec := { name := "confirmEntries", fn := fun _ => fun
  | [d1, d2, d3] => { results := [.lit (.bool true)], args := [d1, d2, d3] }
  | _ => none }
def confirmEntriesRow : OpenClaim := { program := "ytnjpmpelgigmjaa", sum := "2c214cae4d3829811c1d211745d46332ce1c8c8b875b3c23703f8731c3be5b5f", func := "refmesh/refmeshlaw34.ConfirmEntries", spec := "confirmEntries", unfollowed := true, recurses := true, apart := false }
def ConfirmEntriesSaid : Prop := confirmEntriesRow.holds Try.pinned (OpenSpec.ofChange confirmEntriesSpec)

/-- ITS FALSE NEIGHBOUR: 'it returns false'. Refute it at one input. -/
def confirmEntriesWrong : ChangeSpec := { name := "confirmEntries", fn := fun _ => fun
  | [d1, d2, d3] => { results := [.lit (.bool false)], args := [d1, d2, d3] }
  | _ => none }
def ConfirmEntriesWrongFalsely : Prop := confirmEntriesRow.holds Try.pinned (OpenSpec.ofChange confirmEntriesWrong)

/-- 'refmeshlaw34.ConfirmLocked': WHATEVER THE INPUT: true; the input reads as it did. -/
def confirmLockedSpec : ChangeSpec := { name := "confirmLocked", fn := fun _ => fun
  | [d1, d2, d3] => { results := [.lit (.bool true)], args := [d1, d2, d3] }
  | _ => none }
def confirmLockedRow : OpenClaim := { program := "ytnjpmpelgigmjaa", sum := "2c214cae4d3829811c1d211745d46332ce1c8c8b875b3c23703f8731c3be5b5f", func := "refmesh/refmeshlaw34.ConfirmLocked", spec := "confirmLocked", unfollowed := true, recurses := true, apart := false }
def ConfirmLockedSaid : Prop := confirmLockedRow.holds Try.pinned (OpenSpec.ofChange confirmLockedSpec)

/-- ITS FALSE NEIGHBOUR: 'it returns false'. Refute it at one input. -/
def confirmLockedWrong : ChangeSpec := { name := "confirmLocked", fn := fun _ => fun
  | [d1, d2, d3] => { results := [.lit (.bool false)], args := [d1, d2, d3] }
  | _ => none }
def ConfirmLockedWrongFalsely : Prop := confirmLockedRow.holds Try.pinned (OpenSpec.ofChange confirmLockedWrong)

/- THE SECOND FORM. 'bulk': how many values and letters a reading holds, each counted each time it is reached (what is shared counts as often as it is met; a slice's spare places count too). A statement '..UptoSaid' is the law's where the arguments, and the package variables that the reading takes, are together of bulk at most 1048576: NARROWER than '..Said'. Prove '..Said' where nothing that the law and all that it calls make is longer than what came in: it says more and counts as full. Else prove '..UptoSaid'. A law counts once. -/
mutual
def uptoBulk {H : Type} : DataW H → Nat
  | .lit (.string bytes) => bytes.length + 1
  | .lit _ => 1
  | .nil => 1
  | .ptr d => uptoBulk d + 1
  | .slice elems spare => uptoBulkAll elems + uptoBulkAll spare + 1
  | .agg parts => uptoBulkAll parts + 1
  | .iface _ d => uptoBulk d + 1
  | .map entries => uptoBulkEntries entries + 1
  | .held _ => 1
def uptoBulkAll {H : Type} : List (DataW H) → Nat
  | [] => 0
  | d :: r => uptoBulk d + uptoBulkAll r
def uptoBulkEntries {H : Type} : List (Lit × DataW H) → Nat
  | [] => 0
  | x :: r => uptoBulkEntry x + uptoBulkEntries r
def uptoBulkEntry {H : Type} : Lit × DataW H → Nat
  | (.string bytes, d) => bytes.length + uptoBulk d + 1
  | (_, d) => uptoBulk d + 1
 end
def uptoSmall : (H : Type) → List (DataW H) → Bool := fun _ ds => decide (uptoBulkAll ds ≤ 1048576)
def OpenSpec.upto (s : _root_.Go.ChangeSpec) : _root_.Go.OpenSpec := { _root_.Go.OpenSpec.ofChange s with cond := some uptoSmall }

/-- 'refmeshlaw34.ConfirmChecks', WHERE WHAT IT READS IS OF BULK AT MOST 1048576: true; the input reads as it did. -/
def confirmChecksUptoRow : OpenClaim := { program := "ytnjpmpelgigmjaa", sum := "2c214cae4d3829811c1d211745d46332ce1c8c8b875b3c23703f8731c3be5b5f", func := "refmesh/refmeshlaw34.ConfirmChecks", spec := "confirmChecks", unfollowed := true, recurses := true, apart := false, narrowed := true }
def ConfirmChecksUptoSaid : Prop := confirmChecksUptoRow.holds Try.pinned (OpenSpec.upto confirmChecksSpec)

/-- 'refmeshlaw34.ConfirmRefuses', WHERE WHAT IT READS IS OF BULK AT MOST 1048576: true; the input reads as it did. -/
def confirmRefusesUptoRow : OpenClaim := { program := "ytnjpmpelgigmjaa", sum := "2c214cae4d3829811c1d211745d46332ce1c8c8b875b3c23703f8731c3be5b5f", func := "refmesh/refmeshlaw34.ConfirmRefuses", spec := "confirmRefuses", unfollowed := true, recurses := true, apart := false, narrowed := true }
def ConfirmRefusesUptoSaid : Prop := confirmRefusesUptoRow.holds Try.pinned (OpenSpec.upto confirmRefusesSpec)

/-- 'refmeshlaw34.ConfirmCondemns', WHERE WHAT IT READS IS OF BULK AT MOST 1048576: true; the input reads as it did. -/
def confirmCondemnsUptoRow : OpenClaim := { program := "ytnjpmpelgigmjaa", sum := "2c214cae4d3829811c1d211745d46332ce1c8c8b875b3c23703f8731c3be5b5f", func := "refmesh/refmeshlaw34.ConfirmCondemns", spec := "confirmCondemns", unfollowed := true, recurses := true, apart := false, narrowed := true }
def ConfirmCondemnsUptoSaid : Prop := confirmCondemnsUptoRow.holds Try.pinned (OpenSpec.upto confirmCondemnsSpec)

/-- 'refmeshlaw34.ConfirmUndone', WHERE WHAT IT READS IS OF BULK AT MOST 1048576: true; the input reads as it did. -/
def confirmUndoneUptoRow : OpenClaim := { program := "ytnjpmpelgigmjaa", sum := "2c214cae4d3829811c1d211745d46332ce1c8c8b875b3c23703f8731c3be5b5f", func := "refmesh/refmeshlaw34.ConfirmUndone", spec := "confirmUndone", unfollowed := true, recurses := true, apart := false, narrowed := true }
def ConfirmUndoneUptoSaid : Prop := confirmUndoneUptoRow.holds Try.pinned (OpenSpec.upto confirmUndoneSpec)

/-- 'refmeshlaw34.ConfirmExclusive', WHERE WHAT IT READS IS OF BULK AT MOST 1048576: true; the input reads as it did. -/
def confirmExclusiveUptoRow : OpenClaim := { program := "ytnjpmpelgigmjaa", sum := "2c214cae4d3829811c1d211745d46332ce1c8c8b875b3c23703f8731c3be5b5f", func := "refmesh/refmeshlaw34.ConfirmExclusive", spec := "confirmExclusive", unfollowed := true, recurses := true, apart := false, narrowed := true }
def ConfirmExclusiveUptoSaid : Prop := confirmExclusiveUptoRow.holds Try.pinned (OpenSpec.upto confirmExclusiveSpec)

/-- 'refmeshlaw34.ConfirmEntries', WHERE WHAT IT READS IS OF BULK AT MOST 1048576: true; the input reads as it did. -/
def confirmEntriesUptoRow : OpenClaim := { program := "ytnjpmpelgigmjaa", sum := "2c214cae4d3829811c1d211745d46332ce1c8c8b875b3c23703f8731c3be5b5f", func := "refmesh/refmeshlaw34.ConfirmEntries", spec := "confirmEntries", unfollowed := true, recurses := true, apart := false, narrowed := true }
def ConfirmEntriesUptoSaid : Prop := confirmEntriesUptoRow.holds Try.pinned (OpenSpec.upto confirmEntriesSpec)

/-- 'refmeshlaw34.ConfirmLocked', WHERE WHAT IT READS IS OF BULK AT MOST 1048576: true; the input reads as it did. -/
def confirmLockedUptoRow : OpenClaim := { program := "ytnjpmpelgigmjaa", sum := "2c214cae4d3829811c1d211745d46332ce1c8c8b875b3c23703f8731c3be5b5f", func := "refmesh/refmeshlaw34.ConfirmLocked", spec := "confirmLocked", unfollowed := true, recurses := true, apart := false, narrowed := true }
def ConfirmLockedUptoSaid : Prop := confirmLockedUptoRow.holds Try.pinned (OpenSpec.upto confirmLockedSpec)

end Rows
end Go.Proofs.Ytnjpmpelgigmjaa
