/-
  No cell of these rows narrows 'for every input' (looked for: loops, veiled, ifaces, maps, wideKeys, modest, calm, conditions, laid).
  DERIVED. THE GIVEN ROWS OF THIS SEAT. 6 by the template 'for every input the law returns true; each argument reads behind the call as it read before'; 0 by the template 'total and deterministic' (their statements: YtnfpbkimdhhmfaaTotals.lean).
  GIVEN WITH THE SEED: the statements are not yours to turn. If you find one false, say at which input.
  Laid BY PROGRAM, IN A SANDBOX (cutbox-rows.mjs): the forced cells as the released guide's own fill.sh prints them over the translation 8689c53ac7b951a0… (all of the seat's roots in one cut). By AI agents, Wed Nov 11 2026. No macro, syntax, notation, axiom, sorry.
-/
import Derived.Test.YtnfpbkimdhhmfaaChecked
import GoSem.Claim
import GoSem.ClaimJoined
import GoSem.ClaimMapViews
import Derived.JoinedTies
import Derived.KernelRfl
namespace Go.Proofs.Ytnfpbkimdhhmfaa
/- THE CELL 'sum', in the pinned program and in every row, IS THE sha256 OF THE DUMP (.gsa) THAT YtnfpbkimdhhmfaaProg.lean LOADS. Nothing in Lean hashes anything: it is a label: what it is worth is what the hold of that sum in a sandbox is worth. -/
noncomputable def Try.pinned : Pinned := { name := "ytnfpbkimdhhmfaa", sum := "8689c53ac7b951a0c90cb89a6ba383cdaeffeb61ba41bd1d955e1961c8de3a3e", checked := Try.checked }
namespace Rows
def none {H : Type} : Left H := { results := [], args := [] }

/-- 'refmeshlaw30.StrengthClassifies': WHATEVER THE INPUT: true; the input reads as it did. -/
def strengthClassifiesSpec : ChangeSpec := { name := "strengthClassifies", fn := fun _ => fun
  | [d1, d2, d3, d4] => { results := [.lit (.bool true)], args := [d1, d2, d3, d4] }
  | _ => none }
def strengthClassifiesRow : OpenClaim := { program := "ytnfpbkimdhhmfaa", sum := "8689c53ac7b951a0c90cb89a6ba383cdaeffeb61ba41bd1d955e1961c8de3a3e", func := "refmesh/refmeshlaw30.StrengthClassifies", spec := "strengthClassifies", unfollowed := true, recurses := true, plainKeys := false, apart := false }
def StrengthClassifiesSaid : Prop := strengthClassifiesRow.holds Try.pinned (OpenSpec.ofChange strengthClassifiesSpec)

/-- ITS FALSE NEIGHBOUR: 'it returns false'. Refute it at one input. -/
def strengthClassifiesWrong : ChangeSpec := { name := "strengthClassifies", fn := fun _ => fun
  | [d1, d2, d3, d4] => { results := [.lit (.bool false)], args := [d1, d2, d3, d4] }
  | _ => none }
def StrengthClassifiesWrongFalsely : Prop := strengthClassifiesRow.holds Try.pinned (OpenSpec.ofChange strengthClassifiesWrong)

/-- 'refmeshlaw30.StrengthDead': WHATEVER THE INPUT: true; the input reads as it did. -/
def strengthDeadSpec : ChangeSpec := { name := "strengthDead", fn := fun _ => fun
  | [d1, d2] => { results := [.lit (.bool true)], args := [d1, d2] }
  | _ => none }
def strengthDeadRow : OpenClaim := { program := "ytnfpbkimdhhmfaa", sum := "8689c53ac7b951a0c90cb89a6ba383cdaeffeb61ba41bd1d955e1961c8de3a3e", func := "refmesh/refmeshlaw30.StrengthDead", spec := "strengthDead", unfollowed := true, recurses := true, plainKeys := false, apart := false }
def StrengthDeadSaid : Prop := strengthDeadRow.holds Try.pinned (OpenSpec.ofChange strengthDeadSpec)

/-- ITS FALSE NEIGHBOUR: 'it returns false'. Refute it at one input. -/
def strengthDeadWrong : ChangeSpec := { name := "strengthDead", fn := fun _ => fun
  | [d1, d2] => { results := [.lit (.bool false)], args := [d1, d2] }
  | _ => none }
def StrengthDeadWrongFalsely : Prop := strengthDeadRow.holds Try.pinned (OpenSpec.ofChange strengthDeadWrong)

/-- 'refmeshlaw30.StrengthDisjoint': WHATEVER THE INPUT: true; the input reads as it did. -/
def strengthDisjointSpec : ChangeSpec := { name := "strengthDisjoint", fn := fun _ => fun
  | [d1, d2, d3, d4] => { results := [.lit (.bool true)], args := [d1, d2, d3, d4] }
  | _ => none }
def strengthDisjointRow : OpenClaim := { program := "ytnfpbkimdhhmfaa", sum := "8689c53ac7b951a0c90cb89a6ba383cdaeffeb61ba41bd1d955e1961c8de3a3e", func := "refmesh/refmeshlaw30.StrengthDisjoint", spec := "strengthDisjoint", unfollowed := true, recurses := true, plainKeys := false, apart := false }
def StrengthDisjointSaid : Prop := strengthDisjointRow.holds Try.pinned (OpenSpec.ofChange strengthDisjointSpec)

/-- ITS FALSE NEIGHBOUR: 'it returns false'. Refute it at one input. -/
def strengthDisjointWrong : ChangeSpec := { name := "strengthDisjoint", fn := fun _ => fun
  | [d1, d2, d3, d4] => { results := [.lit (.bool false)], args := [d1, d2, d3, d4] }
  | _ => none }
def StrengthDisjointWrongFalsely : Prop := strengthDisjointRow.holds Try.pinned (OpenSpec.ofChange strengthDisjointWrong)

/-- 'refmeshlaw30.StrengthMonotone': WHATEVER THE INPUT: true; the input reads as it did. -/
def strengthMonotoneSpec : ChangeSpec := { name := "strengthMonotone", fn := fun _ => fun
  | [d1, d2, d3, d4, d5] => { results := [.lit (.bool true)], args := [d1, d2, d3, d4, d5] }
  | _ => none }
def strengthMonotoneRow : OpenClaim := { program := "ytnfpbkimdhhmfaa", sum := "8689c53ac7b951a0c90cb89a6ba383cdaeffeb61ba41bd1d955e1961c8de3a3e", func := "refmesh/refmeshlaw30.StrengthMonotone", spec := "strengthMonotone", unfollowed := true, recurses := true, plainKeys := false, apart := false }
def StrengthMonotoneSaid : Prop := strengthMonotoneRow.holds Try.pinned (OpenSpec.ofChange strengthMonotoneSpec)

/-- ITS FALSE NEIGHBOUR: 'it returns false'. Refute it at one input. -/
def strengthMonotoneWrong : ChangeSpec := { name := "strengthMonotone", fn := fun _ => fun
  | [d1, d2, d3, d4, d5] => { results := [.lit (.bool false)], args := [d1, d2, d3, d4, d5] }
  | _ => none }
def StrengthMonotoneWrongFalsely : Prop := strengthMonotoneRow.holds Try.pinned (OpenSpec.ofChange strengthMonotoneWrong)

/-- 'refmeshlaw30.StrengthRestricted': WHATEVER THE INPUT: true; the input reads as it did. -/
def strengthRestrictedSpec : ChangeSpec := { name := "strengthRestricted", fn := fun _ => fun
  | [d1, d2, d3, d4] => { results := [.lit (.bool true)], args := [d1, d2, d3, d4] }
  | _ => none }
def strengthRestrictedRow : OpenClaim := { program := "ytnfpbkimdhhmfaa", sum := "8689c53ac7b951a0c90cb89a6ba383cdaeffeb61ba41bd1d955e1961c8de3a3e", func := "refmesh/refmeshlaw30.StrengthRestricted", spec := "strengthRestricted", unfollowed := true, recurses := true, plainKeys := false, apart := false }
def StrengthRestrictedSaid : Prop := strengthRestrictedRow.holds Try.pinned (OpenSpec.ofChange strengthRestrictedSpec)

/-- ITS FALSE NEIGHBOUR: 'it returns false'. Refute it at one input. -/
def strengthRestrictedWrong : ChangeSpec := { name := "strengthRestricted", fn := fun _ => fun
  | [d1, d2, d3, d4] => { results := [.lit (.bool false)], args := [d1, d2, d3, d4] }
  | _ => none }
def StrengthRestrictedWrongFalsely : Prop := strengthRestrictedRow.holds Try.pinned (OpenSpec.ofChange strengthRestrictedWrong)

/-- 'refmeshlaw30.StrengthHeld': WHATEVER THE INPUT: true; the input reads as it did. -/
def strengthHeldSpec : ChangeSpec := { name := "strengthHeld", fn := fun _ => fun
  | [d1, d2, d3, d4] => { results := [.lit (.bool true)], args := [d1, d2, d3, d4] }
  | _ => none }
def strengthHeldRow : OpenClaim := { program := "ytnfpbkimdhhmfaa", sum := "8689c53ac7b951a0c90cb89a6ba383cdaeffeb61ba41bd1d955e1961c8de3a3e", func := "refmesh/refmeshlaw30.StrengthHeld", spec := "strengthHeld", unfollowed := true, recurses := true, plainKeys := false, apart := false }
def StrengthHeldSaid : Prop := strengthHeldRow.holds Try.pinned (OpenSpec.ofChange strengthHeldSpec)

/-- ITS FALSE NEIGHBOUR: 'it returns false'. Refute it at one input. -/
def strengthHeldWrong : ChangeSpec := { name := "strengthHeld", fn := fun _ => fun
  | [d1, d2, d3, d4] => { results := [.lit (.bool false)], args := [d1, d2, d3, d4] }
  | _ => none }
def StrengthHeldWrongFalsely : Prop := strengthHeldRow.holds Try.pinned (OpenSpec.ofChange strengthHeldWrong)

/- THE SECOND FORM. 'bulk': how many values and letters a reading holds, each counted each time it is reached (what is shared counts as often as it is met; a slice's spare places count too). A statement '..UptoSaid' is the law's where the arguments, and the package variables that the reading takes, are together of bulk at most 1048576: NARROWER than '..Said'. Prove '..Said' where nothing that the law and all that it calls make is longer than what came in: it says more and counts as full. Else prove '..UptoSaid'. A law counts once. -/
mutual
def uptoBulk {H : Type} : DataW H → Nat
  | .lit (.string bytes) => bytes.length + 1
  | .lit _ => 1
  | .nil => 1
  | .ptr d => uptoBulk d + 1
  | .slice elems spare => uptoBulkAll elems + uptoBulkAll spare + 1
  | .agg parts => uptoBulkAll parts + 1
  | .iface _ d => uptoBulk d + 1
  | .map entries => uptoBulkEntries entries + 1
  | .held _ => 1
def uptoBulkAll {H : Type} : List (DataW H) → Nat
  | [] => 0
  | d :: r => uptoBulk d + uptoBulkAll r
def uptoBulkEntries {H : Type} : List (Lit × DataW H) → Nat
  | [] => 0
  | x :: r => uptoBulkEntry x + uptoBulkEntries r
def uptoBulkEntry {H : Type} : Lit × DataW H → Nat
  | (.string bytes, d) => bytes.length + uptoBulk d + 1
  | (_, d) => uptoBulk d + 1
 end
def uptoSmall : (H : Type) → List (DataW H) → Bool := fun _ ds => decide (uptoBulkAll ds ≤ 1048576)
def OpenSpec.upto (s : _root_.Go.ChangeSpec) : _root_.Go.OpenSpec := { _root_.Go.OpenSpec.ofChange s with cond := some uptoSmall }

/-- 'refmeshlaw30.StrengthClassifies', WHERE WHAT IT READS IS OF BULK AT MOST 1048576: true; the input reads as it did. -/
def strengthClassifiesUptoRow : OpenClaim := { program := "ytnfpbkimdhhmfaa", sum := "8689c53ac7b951a0c90cb89a6ba383cdaeffeb61ba41bd1d955e1961c8de3a3e", func := "refmesh/refmeshlaw30.StrengthClassifies", spec := "strengthClassifies", unfollowed := true, recurses := true, plainKeys := false, apart := false, narrowed := true }
def StrengthClassifiesUptoSaid : Prop := strengthClassifiesUptoRow.holds Try.pinned (OpenSpec.upto strengthClassifiesSpec)

/-- 'refmeshlaw30.StrengthDead', WHERE WHAT IT READS IS OF BULK AT MOST 1048576: true; the input reads as it did. -/
def strengthDeadUptoRow : OpenClaim := { program := "ytnfpbkimdhhmfaa", sum := "8689c53ac7b951a0c90cb89a6ba383cdaeffeb61ba41bd1d955e1961c8de3a3e", func := "refmesh/refmeshlaw30.StrengthDead", spec := "strengthDead", unfollowed := true, recurses := true, plainKeys := false, apart := false, narrowed := true }
def StrengthDeadUptoSaid : Prop := strengthDeadUptoRow.holds Try.pinned (OpenSpec.upto strengthDeadSpec)

/-- 'refmeshlaw30.StrengthDisjoint', WHERE WHAT IT READS IS OF BULK AT MOST 1048576: true; the input reads as it did. -/
def strengthDisjointUptoRow : OpenClaim := { program := "ytnfpbkimdhhmfaa", sum := "8689c53ac7b951a0c90cb89a6ba383cdaeffeb61ba41bd1d955e1961c8de3a3e", func := "refmesh/refmeshlaw30.StrengthDisjoint", spec := "strengthDisjoint", unfollowed := true, recurses := true, plainKeys := false, apart := false, narrowed := true }
def StrengthDisjointUptoSaid : Prop := strengthDisjointUptoRow.holds Try.pinned (OpenSpec.upto strengthDisjointSpec)

/-- 'refmeshlaw30.StrengthMonotone', WHERE WHAT IT READS IS OF BULK AT MOST 1048576: true; the input reads as it did. -/
def strengthMonotoneUptoRow : OpenClaim := { program := "ytnfpbkimdhhmfaa", sum := "8689c53ac7b951a0c90cb89a6ba383cdaeffeb61ba41bd1d955e1961c8de3a3e", func := "refmesh/refmeshlaw30.StrengthMonotone", spec := "strengthMonotone", unfollowed := true, recurses := true, plainKeys := false, apart := false, narrowed := true }
def StrengthMonotoneUptoSaid : Prop := strengthMonotoneUptoRow.holds Try.pinned (OpenSpec.upto strengthMonotoneSpec)

/-- 'refmeshlaw30.StrengthRestricted', WHERE WHAT IT READS IS OF BULK AT MOST 1048576: true; the input reads as it did. -/
def strengthRestrictedUptoRow : OpenClaim := { program := "ytnfpbkimdhhmfaa", sum := "8689c53ac7b951a0c90cb89a6ba383cdaeffeb61ba41bd1d955e1961c8de3a3e", func := "refmesh/refmeshlaw30.StrengthRestricted", spec := "strengthRestricted", unfollowed := true, recurses := true, plainKeys := false, apart := false, narrowed := true }
def StrengthRestrictedUptoSaid : Prop := strengthRestrictedUptoRow.holds Try.pinned (OpenSpec.upto strengthRestrictedSpec)

/-- 'refmeshlaw30.StrengthHeld', WHERE WHAT IT READS IS OF BULK AT MOST 1048576: true; the input reads as it did. -/
def strengthHeldUptoRow : OpenClaim := { program := "ytnfpbkimdhhmfaa", sum := "8689c53ac7b951a0c90cb89a6ba383cdaeffeb61ba41bd1d955e1961c8de3a3e", func := "refmesh/refmeshlaw30.StrengthHeld", spec := "strengthHeld", unfollowed := true, recurses := true, plainKeys := false, apart := false, narrowed := true }
def StrengthHeldUptoSaid : Prop := strengthHeldUptoRow.holds Try.pinned (OpenSpec.upto strengthHeldSpec)

end Rows
end Go.Proofs.Ytnfpbkimdhhmfaa
