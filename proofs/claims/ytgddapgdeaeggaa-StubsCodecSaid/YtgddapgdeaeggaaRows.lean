/-
  No cell of these rows narrows 'for every input' (looked for: loops, veiled, ifaces, maps, wideKeys, modest, calm, conditions, laid).
  DERIVED. THE GIVEN ROWS OF THIS SEAT. 7 by the template 'for every input the law returns true; each argument reads behind the call as it read before'; 0 by the template 'total and deterministic' (their statements: YtgddapgdeaeggaaTotals.lean).
  GIVEN WITH THE SEED: the statements are not yours to turn. If you find one false, say at which input.
  Laid BY PROGRAM, IN A SANDBOX (cutbox-rows.mjs): the forced cells as the released guide's own fill.sh prints them over the translation bd6ea0728f265679… (all of the seat's roots in one cut). By AI agents, Wed Nov 11 2026. No macro, syntax, notation, axiom, sorry.
-/
import Derived.Test.YtgddapgdeaeggaaChecked
import GoSem.Claim
import GoSem.ClaimJoined
import GoSem.ClaimMapViews
import Derived.JoinedTies
import Derived.KernelRfl
namespace Go.Proofs.Ytgddapgdeaeggaa
/- THE CELL 'sum', in the pinned program and in every row, IS THE sha256 OF THE DUMP (.gsa) THAT YtgddapgdeaeggaaProg.lean LOADS. Nothing in Lean hashes anything: it is a label: what it is worth is what the hold of that sum in a sandbox is worth. -/
noncomputable def Try.pinned : Pinned := { name := "ytgddapgdeaeggaa", sum := "bd6ea0728f26567954eae87e99e7c6ebf04b433c13b909ac635359f4c9e75963", checked := Try.checked }
namespace Rows
def none {H : Type} : Left H := { results := [], args := [] }

/-- 'refmeshlaw23.StubsCalls': WHATEVER THE INPUT: true; the input reads as it did. -/
def stubsCallsSpec : ChangeSpec := { name := "stubsCalls", fn := fun _ => fun
  | [d] => { results := [.lit (.bool true)], args := [d] }
  | _ => none }
def stubsCallsRow : OpenClaim := { program := "ytgddapgdeaeggaa", sum := "bd6ea0728f26567954eae87e99e7c6ebf04b433c13b909ac635359f4c9e75963", func := "refmesh/refmeshlaw23.StubsCalls", spec := "stubsCalls", unfollowed := true, recurses := true, plainKeys := false, apart := false }
def StubsCallsSaid : Prop := stubsCallsRow.holds Try.pinned (OpenSpec.ofChange stubsCallsSpec)

/-- ITS FALSE NEIGHBOUR: 'it returns false'. Refute it at one input. -/
def stubsCallsWrong : ChangeSpec := { name := "stubsCalls", fn := fun _ => fun
  | [d] => { results := [.lit (.bool false)], args := [d] }
  | _ => none }
def StubsCallsWrongFalsely : Prop := stubsCallsRow.holds Try.pinned (OpenSpec.ofChange stubsCallsWrong)

/-- 'refmeshlaw23.StubsUnique': WHATEVER THE INPUT: true; the input reads as it did. -/
def stubsUniqueSpec : ChangeSpec := { name := "stubsUnique", fn := fun _ => fun
  | [d] => { results := [.lit (.bool true)], args := [d] }
  | _ => none }
def stubsUniqueRow : OpenClaim := { program := "ytgddapgdeaeggaa", sum := "bd6ea0728f26567954eae87e99e7c6ebf04b433c13b909ac635359f4c9e75963", func := "refmesh/refmeshlaw23.StubsUnique", spec := "stubsUnique", unfollowed := true, recurses := true, plainKeys := false, apart := false }
def StubsUniqueSaid : Prop := stubsUniqueRow.holds Try.pinned (OpenSpec.ofChange stubsUniqueSpec)

/-- ITS FALSE NEIGHBOUR: 'it returns false'. Refute it at one input. -/
def stubsUniqueWrong : ChangeSpec := { name := "stubsUnique", fn := fun _ => fun
  | [d] => { results := [.lit (.bool false)], args := [d] }
  | _ => none }
def StubsUniqueWrongFalsely : Prop := stubsUniqueRow.holds Try.pinned (OpenSpec.ofChange stubsUniqueWrong)

/-- 'refmeshlaw23.StubsErrors': WHATEVER THE INPUT: true; the input reads as it did. -/
def stubsErrorsSpec : ChangeSpec := { name := "stubsErrors", fn := fun _ => fun
  | [d1, d2] => { results := [.lit (.bool true)], args := [d1, d2] }
  | _ => none }
def stubsErrorsRow : OpenClaim := { program := "ytgddapgdeaeggaa", sum := "bd6ea0728f26567954eae87e99e7c6ebf04b433c13b909ac635359f4c9e75963", func := "refmesh/refmeshlaw23.StubsErrors", spec := "stubsErrors", unfollowed := true, recurses := true, plainKeys := false, apart := false }
def StubsErrorsSaid : Prop := stubsErrorsRow.holds Try.pinned (OpenSpec.ofChange stubsErrorsSpec)

/-- ITS FALSE NEIGHBOUR: 'it returns false'. Refute it at one input. -/
def stubsErrorsWrong : ChangeSpec := { name := "stubsErrors", fn := fun _ => fun
  | [d1, d2] => { results := [.lit (.bool false)], args := [d1, d2] }
  | _ => none }
def StubsErrorsWrongFalsely : Prop := stubsErrorsRow.holds Try.pinned (OpenSpec.ofChange stubsErrorsWrong)

/-- 'refmeshlaw23.StubsTouches': WHATEVER THE INPUT: true; the input reads as it did. -/
def stubsTouchesSpec : ChangeSpec := { name := "stubsTouches", fn := fun _ => fun
  | [d1, d2, d3] => { results := [.lit (.bool true)], args := [d1, d2, d3] }
  | _ => none }
def stubsTouchesRow : OpenClaim := { program := "ytgddapgdeaeggaa", sum := "bd6ea0728f26567954eae87e99e7c6ebf04b433c13b909ac635359f4c9e75963", func := "refmesh/refmeshlaw23.StubsTouches", spec := "stubsTouches", unfollowed := true, recurses := true, plainKeys := false, apart := false }
def StubsTouchesSaid : Prop := stubsTouchesRow.holds Try.pinned (OpenSpec.ofChange stubsTouchesSpec)

/-- ITS FALSE NEIGHBOUR: 'it returns false'. Refute it at one input. -/
def stubsTouchesWrong : ChangeSpec := { name := "stubsTouches", fn := fun _ => fun
  | [d1, d2, d3] => { results := [.lit (.bool false)], args := [d1, d2, d3] }
  | _ => none }
def StubsTouchesWrongFalsely : Prop := stubsTouchesRow.holds Try.pinned (OpenSpec.ofChange stubsTouchesWrong)

/-- 'refmeshlaw23.StubsFinds': WHATEVER THE INPUT: true; the input reads as it did. -/
def stubsFindsSpec : ChangeSpec := { name := "stubsFinds", fn := fun _ => fun
  | [d1, d2, d3, d4] => { results := [.lit (.bool true)], args := [d1, d2, d3, d4] }
  | _ => none }
def stubsFindsRow : OpenClaim := { program := "ytgddapgdeaeggaa", sum := "bd6ea0728f26567954eae87e99e7c6ebf04b433c13b909ac635359f4c9e75963", func := "refmesh/refmeshlaw23.StubsFinds", spec := "stubsFinds", unfollowed := true, recurses := true, plainKeys := false, apart := false }
def StubsFindsSaid : Prop := stubsFindsRow.holds Try.pinned (OpenSpec.ofChange stubsFindsSpec)

/-- ITS FALSE NEIGHBOUR: 'it returns false'. Refute it at one input. -/
def stubsFindsWrong : ChangeSpec := { name := "stubsFinds", fn := fun _ => fun
  | [d1, d2, d3, d4] => { results := [.lit (.bool false)], args := [d1, d2, d3, d4] }
  | _ => none }
def StubsFindsWrongFalsely : Prop := stubsFindsRow.holds Try.pinned (OpenSpec.ofChange stubsFindsWrong)

/-- 'refmeshlaw23.StubsDecoding': WHATEVER THE INPUT: true; the input reads as it did. -/
def stubsDecodingSpec : ChangeSpec := { name := "stubsDecoding", fn := fun _ => fun
  | [d] => { results := [.lit (.bool true)], args := [d] }
  | _ => none }
def stubsDecodingRow : OpenClaim := { program := "ytgddapgdeaeggaa", sum := "bd6ea0728f26567954eae87e99e7c6ebf04b433c13b909ac635359f4c9e75963", func := "refmesh/refmeshlaw23.StubsDecoding", spec := "stubsDecoding", unfollowed := true, recurses := true, plainKeys := false, apart := false }
def StubsDecodingSaid : Prop := stubsDecodingRow.holds Try.pinned (OpenSpec.ofChange stubsDecodingSpec)

/-- ITS FALSE NEIGHBOUR: 'it returns false'. Refute it at one input. -/
def stubsDecodingWrong : ChangeSpec := { name := "stubsDecoding", fn := fun _ => fun
  | [d] => { results := [.lit (.bool false)], args := [d] }
  | _ => none }
def StubsDecodingWrongFalsely : Prop := stubsDecodingRow.holds Try.pinned (OpenSpec.ofChange stubsDecodingWrong)

/-- 'refmeshlaw23.StubsCodec': WHATEVER THE INPUT: true; the input reads as it did. -/
def stubsCodecSpec : ChangeSpec := { name := "stubsCodec", fn := fun _ => fun
  | [d] => { results := [.lit (.bool true)], args := [d] }
  | _ => none }
def stubsCodecRow : OpenClaim := { program := "ytgddapgdeaeggaa", sum := "bd6ea0728f26567954eae87e99e7c6ebf04b433c13b909ac635359f4c9e75963", func := "refmesh/refmeshlaw23.StubsCodec", spec := "stubsCodec", unfollowed := true, recurses := true, plainKeys := false, apart := false }
def StubsCodecSaid : Prop := stubsCodecRow.holds Try.pinned (OpenSpec.ofChange stubsCodecSpec)

/-- ITS FALSE NEIGHBOUR: 'it returns false'. Refute it at one input. -/
def stubsCodecWrong : ChangeSpec := { name := "stubsCodec", fn := fun _ => fun
  | [d] => { results := [.lit (.bool false)], args := [d] }
  | _ => none }
def StubsCodecWrongFalsely : Prop := stubsCodecRow.holds Try.pinned (OpenSpec.ofChange stubsCodecWrong)

/- THE SECOND FORM. 'bulk': how many values and letters a reading holds, each counted each time it is reached (what is shared counts as often as it is met; a slice's spare places count too). A statement '..UptoSaid' is the law's where the arguments, and the package variables that the reading takes, are together of bulk at most 1048576: NARROWER than '..Said'. Prove '..Said' where nothing that the law and all that it calls make is longer than what came in: it says more and counts as full. Else prove '..UptoSaid'. A law counts once. -/
mutual
def uptoBulk {H : Type} : DataW H → Nat
  | .lit (.string bytes) => bytes.length + 1
  | .lit _ => 1
  | .nil => 1
  | .ptr d => uptoBulk d + 1
  | .slice elems spare => uptoBulkAll elems + uptoBulkAll spare + 1
  | .agg parts => uptoBulkAll parts + 1
  | .iface _ d => uptoBulk d + 1
  | .map entries => uptoBulkEntries entries + 1
  | .held _ => 1
def uptoBulkAll {H : Type} : List (DataW H) → Nat
  | [] => 0
  | d :: r => uptoBulk d + uptoBulkAll r
def uptoBulkEntries {H : Type} : List (Lit × DataW H) → Nat
  | [] => 0
  | x :: r => uptoBulkEntry x + uptoBulkEntries r
def uptoBulkEntry {H : Type} : Lit × DataW H → Nat
  | (.string bytes, d) => bytes.length + uptoBulk d + 1
  | (_, d) => uptoBulk d + 1
 end
def uptoSmall : (H : Type) → List (DataW H) → Bool := fun _ ds => decide (uptoBulkAll ds ≤ 1048576)
def OpenSpec.upto (s : _root_.Go.ChangeSpec) : _root_.Go.OpenSpec := { _root_.Go.OpenSpec.ofChange s with cond := some uptoSmall }

/-- 'refmeshlaw23.StubsCalls', WHERE WHAT IT READS IS OF BULK AT MOST 1048576: true; the input reads as it did. -/
def stubsCallsUptoRow : OpenClaim := { program := "ytgddapgdeaeggaa", sum := "bd6ea0728f26567954eae87e99e7c6ebf04b433c13b909ac635359f4c9e75963", func := "refmesh/refmeshlaw23.StubsCalls", spec := "stubsCalls", unfollowed := true, recurses := true, plainKeys := false, apart := false, narrowed := true }
def StubsCallsUptoSaid : Prop := stubsCallsUptoRow.holds Try.pinned (OpenSpec.upto stubsCallsSpec)

/-- 'refmeshlaw23.StubsUnique', WHERE WHAT IT READS IS OF BULK AT MOST 1048576: true; the input reads as it did. -/
def stubsUniqueUptoRow : OpenClaim := { program := "ytgddapgdeaeggaa", sum := "bd6ea0728f26567954eae87e99e7c6ebf04b433c13b909ac635359f4c9e75963", func := "refmesh/refmeshlaw23.StubsUnique", spec := "stubsUnique", unfollowed := true, recurses := true, plainKeys := false, apart := false, narrowed := true }
def StubsUniqueUptoSaid : Prop := stubsUniqueUptoRow.holds Try.pinned (OpenSpec.upto stubsUniqueSpec)

/-- 'refmeshlaw23.StubsErrors', WHERE WHAT IT READS IS OF BULK AT MOST 1048576: true; the input reads as it did. -/
def stubsErrorsUptoRow : OpenClaim := { program := "ytgddapgdeaeggaa", sum := "bd6ea0728f26567954eae87e99e7c6ebf04b433c13b909ac635359f4c9e75963", func := "refmesh/refmeshlaw23.StubsErrors", spec := "stubsErrors", unfollowed := true, recurses := true, plainKeys := false, apart := false, narrowed := true }
def StubsErrorsUptoSaid : Prop := stubsErrorsUptoRow.holds Try.pinned (OpenSpec.upto stubsErrorsSpec)

/-- 'refmeshlaw23.StubsTouches', WHERE WHAT IT READS IS OF BULK AT MOST 1048576: true; the input reads as it did. -/
def stubsTouchesUptoRow : OpenClaim := { program := "ytgddapgdeaeggaa", sum := "bd6ea0728f26567954eae87e99e7c6ebf04b433c13b909ac635359f4c9e75963", func := "refmesh/refmeshlaw23.StubsTouches", spec := "stubsTouches", unfollowed := true, recurses := true, plainKeys := false, apart := false, narrowed := true }
def StubsTouchesUptoSaid : Prop := stubsTouchesUptoRow.holds Try.pinned (OpenSpec.upto stubsTouchesSpec)

/-- 'refmeshlaw23.StubsFinds', WHERE WHAT IT READS IS OF BULK AT MOST 1048576: true; the input reads as it did. -/
def stubsFindsUptoRow : OpenClaim := { program := "ytgddapgdeaeggaa", sum := "bd6ea0728f26567954eae87e99e7c6ebf04b433c13b909ac635359f4c9e75963", func := "refmesh/refmeshlaw23.StubsFinds", spec := "stubsFinds", unfollowed := true, recurses := true, plainKeys := false, apart := false, narrowed := true }
def StubsFindsUptoSaid : Prop := stubsFindsUptoRow.holds Try.pinned (OpenSpec.upto stubsFindsSpec)

/-- 'refmeshlaw23.StubsDecoding', WHERE WHAT IT READS IS OF BULK AT MOST 1048576: true; the input reads as it did. -/
def stubsDecodingUptoRow : OpenClaim := { program := "ytgddapgdeaeggaa", sum := "bd6ea0728f26567954eae87e99e7c6ebf04b433c13b909ac635359f4c9e75963", func := "refmesh/refmeshlaw23.StubsDecoding", spec := "stubsDecoding", unfollowed := true, recurses := true, plainKeys := false, apart := false, narrowed := true }
def StubsDecodingUptoSaid : Prop := stubsDecodingUptoRow.holds Try.pinned (OpenSpec.upto stubsDecodingSpec)

/-- 'refmeshlaw23.StubsCodec', WHERE WHAT IT READS IS OF BULK AT MOST 1048576: true; the input reads as it did. -/
def stubsCodecUptoRow : OpenClaim := { program := "ytgddapgdeaeggaa", sum := "bd6ea0728f26567954eae87e99e7c6ebf04b433c13b909ac635359f4c9e75963", func := "refmesh/refmeshlaw23.StubsCodec", spec := "stubsCodec", unfollowed := true, recurses := true, plainKeys := false, apart := false, narrowed := true }
def StubsCodecUptoSaid : Prop := stubsCodecUptoRow.holds Try.pinned (OpenSpec.upto stubsCodecSpec)

end Rows
end Go.Proofs.Ytgddapgdeaeggaa
