/-
  No cell of these rows narrows 'for every input' (looked for: loops, veiled, ifaces, maps, wideKeys, modest, calm, conditions, laid).
  DERIVED. THE GIVEN ROWS OF THIS SEAT. 8 by the template 'for every input the law returns true; each argument reads behind the call as it read before'; 0 by the template 'total and deterministic' (their statements: YtomgdkfoinojiaaTotals.lean).
  GIVEN WITH THE SEED: the statements are not yours to turn. If you find one false, say at which input.
  Laid BY PROGRAM, IN A SANDBOX (cutbox-rows.mjs): the forced cells as the released guide's own fill.sh prints them over the translation 3760b0d523c67c21… (all of the seat's roots in one cut). By AI agents, Wed Nov 11 2026. No macro, syntax, notation, axiom, sorry.
-/
import Derived.Test.YtomgdkfoinojiaaChecked
import GoSem.Claim
import GoSem.ClaimJoined
import GoSem.ClaimMapViews
import Derived.JoinedTies
import Derived.KernelRfl
namespace Go.Proofs.Ytomgdkfoinojiaa
/- THE CELL 'sum', in the pinned program and in every row, IS THE sha256 OF THE DUMP (.gsa) THAT YtomgdkfoinojiaaProg.lean LOADS. Nothing in Lean hashes anything: it is a label: what it is worth is what the hold of that sum in a sandbox is worth. -/
noncomputable def Try.pinned : Pinned := { name := "ytomgdkfoinojiaa", sum := "3760b0d523c67c216c8693e24830d3e8cc27fa9c717dba3cfb0dc8896c7a862b", checked := Try.checked }
namespace Rows
def none {H : Type} : Left H := { results := [], args := [] }

/-- 'refmeshlaw32.SummaryOf': WHATEVER THE INPUT: true; the input reads as it did. -/
def summaryOfSpec : ChangeSpec := { name := "summaryOf", fn := fun _ => fun
  | [d] => { results := [.lit (.bool true)], args := [d] }
  | _ => none }
def summaryOfRow : OpenClaim := { program := "ytomgdkfoinojiaa", sum := "3760b0d523c67c216c8693e24830d3e8cc27fa9c717dba3cfb0dc8896c7a862b", func := "refmesh/refmeshlaw32.SummaryOf", spec := "summaryOf", unfollowed := true, recurses := true, plainKeys := false, apart := false }
def SummaryOfSaid : Prop := summaryOfRow.holds Try.pinned (OpenSpec.ofChange summaryOfSpec)

/-- ITS FALSE NEIGHBOUR: 'it returns false'. Refute it at one input. -/
def summaryOfWrong : ChangeSpec := { name := "summaryOf", fn := fun _ => fun
  | [d] => { results := [.lit (.bool false)], args := [d] }
  | _ => none }
def SummaryOfWrongFalsely : Prop := summaryOfRow.holds Try.pinned (OpenSpec.ofChange summaryOfWrong)

/-- 'refmeshlaw32.SummaryMonotone': WHATEVER THE INPUT: true; the input reads as it did. -/
def summaryMonotoneSpec : ChangeSpec := { name := "summaryMonotone", fn := fun _ => fun
  | [d1, d2, d3] => { results := [.lit (.bool true)], args := [d1, d2, d3] }
  | _ => none }
def summaryMonotoneRow : OpenClaim := { program := "ytomgdkfoinojiaa", sum := "3760b0d523c67c216c8693e24830d3e8cc27fa9c717dba3cfb0dc8896c7a862b", func := "refmesh/refmeshlaw32.SummaryMonotone", spec := "summaryMonotone", unfollowed := true, recurses := true, plainKeys := false, apart := false }
def SummaryMonotoneSaid : Prop := summaryMonotoneRow.holds Try.pinned (OpenSpec.ofChange summaryMonotoneSpec)

/-- ITS FALSE NEIGHBOUR: 'it returns false'. Refute it at one input. -/
def summaryMonotoneWrong : ChangeSpec := { name := "summaryMonotone", fn := fun _ => fun
  | [d1, d2, d3] => { results := [.lit (.bool false)], args := [d1, d2, d3] }
  | _ => none }
def SummaryMonotoneWrongFalsely : Prop := summaryMonotoneRow.holds Try.pinned (OpenSpec.ofChange summaryMonotoneWrong)

/-- 'refmeshlaw32.SummaryGrows': WHATEVER THE INPUT: true; the input reads as it did. -/
def summaryGrowsSpec : ChangeSpec := { name := "summaryGrows", fn := fun _ => fun
  | [d] => { results := [.lit (.bool true)], args := [d] }
  | _ => none }
def summaryGrowsRow : OpenClaim := { program := "ytomgdkfoinojiaa", sum := "3760b0d523c67c216c8693e24830d3e8cc27fa9c717dba3cfb0dc8896c7a862b", func := "refmesh/refmeshlaw32.SummaryGrows", spec := "summaryGrows", unfollowed := true, recurses := true, plainKeys := false, apart := false }
def SummaryGrowsSaid : Prop := summaryGrowsRow.holds Try.pinned (OpenSpec.ofChange summaryGrowsSpec)

/-- ITS FALSE NEIGHBOUR: 'it returns false'. Refute it at one input. -/
def summaryGrowsWrong : ChangeSpec := { name := "summaryGrows", fn := fun _ => fun
  | [d] => { results := [.lit (.bool false)], args := [d] }
  | _ => none }
def SummaryGrowsWrongFalsely : Prop := summaryGrowsRow.holds Try.pinned (OpenSpec.ofChange summaryGrowsWrong)

/-- 'refmeshlaw32.SummaryInsets': WHATEVER THE INPUT: true; the input reads as it did. -/
def summaryInsetsSpec : ChangeSpec := { name := "summaryInsets", fn := fun _ => fun
  | [d] => { results := [.lit (.bool true)], args := [d] }
  | _ => none }
def summaryInsetsRow : OpenClaim := { program := "ytomgdkfoinojiaa", sum := "3760b0d523c67c216c8693e24830d3e8cc27fa9c717dba3cfb0dc8896c7a862b", func := "refmesh/refmeshlaw32.SummaryInsets", spec := "summaryInsets", unfollowed := true, recurses := true, plainKeys := false, apart := false }
def SummaryInsetsSaid : Prop := summaryInsetsRow.holds Try.pinned (OpenSpec.ofChange summaryInsetsSpec)

/-- ITS FALSE NEIGHBOUR: 'it returns false'. Refute it at one input. -/
def summaryInsetsWrong : ChangeSpec := { name := "summaryInsets", fn := fun _ => fun
  | [d] => { results := [.lit (.bool false)], args := [d] }
  | _ => none }
def SummaryInsetsWrongFalsely : Prop := summaryInsetsRow.holds Try.pinned (OpenSpec.ofChange summaryInsetsWrong)

/-- 'refmeshlaw32.SummaryValid': WHATEVER THE INPUT: true; the input reads as it did. -/
def summaryValidSpec : ChangeSpec := { name := "summaryValid", fn := fun _ => fun
  | [d] => { results := [.lit (.bool true)], args := [d] }
  | _ => none }
def summaryValidRow : OpenClaim := { program := "ytomgdkfoinojiaa", sum := "3760b0d523c67c216c8693e24830d3e8cc27fa9c717dba3cfb0dc8896c7a862b", func := "refmesh/refmeshlaw32.SummaryValid", spec := "summaryValid", unfollowed := true, recurses := true, plainKeys := false, apart := false }
def SummaryValidSaid : Prop := summaryValidRow.holds Try.pinned (OpenSpec.ofChange summaryValidSpec)

/-- ITS FALSE NEIGHBOUR: 'it returns false'. Refute it at one input. -/
def summaryValidWrong : ChangeSpec := { name := "summaryValid", fn := fun _ => fun
  | [d] => { results := [.lit (.bool false)], args := [d] }
  | _ => none }
def SummaryValidWrongFalsely : Prop := summaryValidRow.holds Try.pinned (OpenSpec.ofChange summaryValidWrong)

/-- 'refmeshlaw32.SummaryAnswers': WHATEVER THE INPUT: true; the input reads as it did. -/
def summaryAnswersSpec : ChangeSpec := { name := "summaryAnswers", fn := fun _ => fun
  | [d1, d2, d3, d4, d5] => { results := [.lit (.bool true)], args := [d1, d2, d3, d4, d5] }
  | _ => none }
def summaryAnswersRow : OpenClaim := { program := "ytomgdkfoinojiaa", sum := "3760b0d523c67c216c8693e24830d3e8cc27fa9c717dba3cfb0dc8896c7a862b", func := "refmesh/refmeshlaw32.SummaryAnswers", spec := "summaryAnswers", unfollowed := true, recurses := true, plainKeys := false, apart := false }
def SummaryAnswersSaid : Prop := summaryAnswersRow.holds Try.pinned (OpenSpec.ofChange summaryAnswersSpec)

/-- ITS FALSE NEIGHBOUR: 'it returns false'. Refute it at one input. -/
def summaryAnswersWrong : ChangeSpec := { name := "summaryAnswers", fn := fun _ => fun
  | [d1, d2, d3, d4, d5] => { results := [.lit (.bool false)], args := [d1, d2, d3, d4, d5] }
  | _ => none }
def SummaryAnswersWrongFalsely : Prop := summaryAnswersRow.holds Try.pinned (OpenSpec.ofChange summaryAnswersWrong)

/-- 'refmeshlaw32.SummaryDecodes': WHATEVER THE INPUT: true; the input reads as it did. -/
def summaryDecodesSpec : ChangeSpec := { name := "summaryDecodes", fn := fun _ => fun
  | [d] => { results := [.lit (.bool true)], args := [d] }
  | _ => none }
def summaryDecodesRow : OpenClaim := { program := "ytomgdkfoinojiaa", sum := "3760b0d523c67c216c8693e24830d3e8cc27fa9c717dba3cfb0dc8896c7a862b", func := "refmesh/refmeshlaw32.SummaryDecodes", spec := "summaryDecodes", unfollowed := true, recurses := true, plainKeys := false, apart := false }
def SummaryDecodesSaid : Prop := summaryDecodesRow.holds Try.pinned (OpenSpec.ofChange summaryDecodesSpec)

/-- ITS FALSE NEIGHBOUR: 'it returns false'. Refute it at one input. -/
def summaryDecodesWrong : ChangeSpec := { name := "summaryDecodes", fn := fun _ => fun
  | [d] => { results := [.lit (.bool false)], args := [d] }
  | _ => none }
def SummaryDecodesWrongFalsely : Prop := summaryDecodesRow.holds Try.pinned (OpenSpec.ofChange summaryDecodesWrong)

/-- 'refmeshlaw32.SummaryEncodes': WHATEVER THE INPUT: true; the input reads as it did. -/
def summaryEncodesSpec : ChangeSpec := { name := "summaryEncodes", fn := fun _ => fun
  | [d] => { results := [.lit (.bool true)], args := [d] }
  | _ => none }
def summaryEncodesRow : OpenClaim := { program := "ytomgdkfoinojiaa", sum := "3760b0d523c67c216c8693e24830d3e8cc27fa9c717dba3cfb0dc8896c7a862b", func := "refmesh/refmeshlaw32.SummaryEncodes", spec := "summaryEncodes", unfollowed := true, recurses := true, plainKeys := false, apart := false }
def SummaryEncodesSaid : Prop := summaryEncodesRow.holds Try.pinned (OpenSpec.ofChange summaryEncodesSpec)

/-- ITS FALSE NEIGHBOUR: 'it returns false'. Refute it at one input. -/
def summaryEncodesWrong : ChangeSpec := { name := "summaryEncodes", fn := fun _ => fun
  | [d] => { results := [.lit (.bool false)], args := [d] }
  | _ => none }
def SummaryEncodesWrongFalsely : Prop := summaryEncodesRow.holds Try.pinned (OpenSpec.ofChange summaryEncodesWrong)

/- THE SECOND FORM. 'bulk': how many values and letters a reading holds, each counted each time it is reached (what is shared counts as often as it is met; a slice's spare places count too). A statement '..UptoSaid' is the law's where the arguments, and the package variables that the reading takes, are together of bulk at most 1048576: NARROWER than '..Said'. Prove '..Said' where nothing that the law and all that it calls make is longer than what came in: it says more and counts as full. Else prove '..UptoSaid'. A law counts once. -/
mutual
def uptoBulk {H : Type} : DataW H → Nat
  | .lit (.string bytes) => bytes.length + 1
  | .lit _ => 1
  | .nil => 1
  | .ptr d => uptoBulk d + 1
  | .slice elems spare => uptoBulkAll elems + uptoBulkAll spare + 1
  | .agg parts => uptoBulkAll parts + 1
  | .iface _ d => uptoBulk d + 1
  | .map entries => uptoBulkEntries entries + 1
  | .held _ => 1
def uptoBulkAll {H : Type} : List (DataW H) → Nat
  | [] => 0
  | d :: r => uptoBulk d + uptoBulkAll r
def uptoBulkEntries {H : Type} : List (Lit × DataW H) → Nat
  | [] => 0
  | x :: r => uptoBulkEntry x + uptoBulkEntries r
def uptoBulkEntry {H : Type} : Lit × DataW H → Nat
  | (.string bytes, d) => bytes.length + uptoBulk d + 1
  | (_, d) => uptoBulk d + 1
 end
def uptoSmall : (H : Type) → List (DataW H) → Bool := fun _ ds => decide (uptoBulkAll ds ≤ 1048576)
def OpenSpec.upto (s : _root_.Go.ChangeSpec) : _root_.Go.OpenSpec := { _root_.Go.OpenSpec.ofChange s with cond := some uptoSmall }

/-- 'refmeshlaw32.SummaryOf', WHERE WHAT IT READS IS OF BULK AT MOST 1048576: true; the input reads as it did. -/
def summaryOfUptoRow : OpenClaim := { program := "ytomgdkfoinojiaa", sum := "3760b0d523c67c216c8693e24830d3e8cc27fa9c717dba3cfb0dc8896c7a862b", func := "refmesh/refmeshlaw32.SummaryOf", spec := "summaryOf", unfollowed := true, recurses := true, plainKeys := false, apart := false, narrowed := true }
def SummaryOfUptoSaid : Prop := summaryOfUptoRow.holds Try.pinned (OpenSpec.upto summaryOfSpec)

/-- 'refmeshlaw32.SummaryMonotone', WHERE WHAT IT READS IS OF BULK AT MOST 1048576: true; the input reads as it did. -/
def summaryMonotoneUptoRow : OpenClaim := { program := "ytomgdkfoinojiaa", sum := "3760b0d523c67c216c8693e24830d3e8cc27fa9c717dba3cfb0dc8896c7a862b", func := "refmesh/refmeshlaw32.SummaryMonotone", spec := "summaryMonotone", unfollowed := true, recurses := true, plainKeys := false, apart := false, narrowed := true }
def SummaryMonotoneUptoSaid : Prop := summaryMonotoneUptoRow.holds Try.pinned (OpenSpec.upto summaryMonotoneSpec)

/-- 'refmeshlaw32.SummaryGrows', WHERE WHAT IT READS IS OF BULK AT MOST 1048576: true; the input reads as it did. -/
def summaryGrowsUptoRow : OpenClaim := { program := "ytomgdkfoinojiaa", sum := "3760b0d523c67c216c8693e24830d3e8cc27fa9c717dba3cfb0dc8896c7a862b", func := "refmesh/refmeshlaw32.SummaryGrows", spec := "summaryGrows", unfollowed := true, recurses := true, plainKeys := false, apart := false, narrowed := true }
def SummaryGrowsUptoSaid : Prop := summaryGrowsUptoRow.holds Try.pinned (OpenSpec.upto summaryGrowsSpec)

/-- 'refmeshlaw32.SummaryInsets', WHERE WHAT IT READS IS OF BULK AT MOST 1048576: true; the input reads as it did. -/
def summaryInsetsUptoRow : OpenClaim := { program := "ytomgdkfoinojiaa", sum := "3760b0d523c67c216c8693e24830d3e8cc27fa9c717dba3cfb0dc8896c7a862b", func := "refmesh/refmeshlaw32.SummaryInsets", spec := "summaryInsets", unfollowed := true, recurses := true, plainKeys := false, apart := false, narrowed := true }
def SummaryInsetsUptoSaid : Prop := summaryInsetsUptoRow.holds Try.pinned (OpenSpec.upto summaryInsetsSpec)

/-- 'refmeshlaw32.SummaryValid', WHERE WHAT IT READS IS OF BULK AT MOST 1048576: true; the input reads as it did. -/
def summaryValidUptoRow : OpenClaim := { program := "ytomgdkfoinojiaa", sum := "3760b0d523c67c216c8693e24830d3e8cc27fa9c717dba3cfb0dc8896c7a862b", func := "refmesh/refmeshlaw32.SummaryValid", spec := "summaryValid", unfollowed := true, recurses := true, plainKeys := false, apart := false, narrowed := true }
def SummaryValidUptoSaid : Prop := summaryValidUptoRow.holds Try.pinned (OpenSpec.upto summaryValidSpec)

/-- 'refmeshlaw32.SummaryAnswers', WHERE WHAT IT READS IS OF BULK AT MOST 1048576: true; the input reads as it did. -/
def summaryAnswersUptoRow : OpenClaim := { program := "ytomgdkfoinojiaa", sum := "3760b0d523c67c216c8693e24830d3e8cc27fa9c717dba3cfb0dc8896c7a862b", func := "refmesh/refmeshlaw32.SummaryAnswers", spec := "summaryAnswers", unfollowed := true, recurses := true, plainKeys := false, apart := false, narrowed := true }
def SummaryAnswersUptoSaid : Prop := summaryAnswersUptoRow.holds Try.pinned (OpenSpec.upto summaryAnswersSpec)

/-- 'refmeshlaw32.SummaryDecodes', WHERE WHAT IT READS IS OF BULK AT MOST 1048576: true; the input reads as it did. -/
def summaryDecodesUptoRow : OpenClaim := { program := "ytomgdkfoinojiaa", sum := "3760b0d523c67c216c8693e24830d3e8cc27fa9c717dba3cfb0dc8896c7a862b", func := "refmesh/refmeshlaw32.SummaryDecodes", spec := "summaryDecodes", unfollowed := true, recurses := true, plainKeys := false, apart := false, narrowed := true }
def SummaryDecodesUptoSaid : Prop := summaryDecodesUptoRow.holds Try.pinned (OpenSpec.upto summaryDecodesSpec)

/-- 'refmeshlaw32.SummaryEncodes', WHERE WHAT IT READS IS OF BULK AT MOST 1048576: true; the input reads as it did. -/
def summaryEncodesUptoRow : OpenClaim := { program := "ytomgdkfoinojiaa", sum := "3760b0d523c67c216c8693e24830d3e8cc27fa9c717dba3cfb0dc8896c7a862b", func := "refmesh/refmeshlaw32.SummaryEncodes", spec := "summaryEncodes", unfollowed := true, recurses := true, plainKeys := false, apart := false, narrowed := true }
def SummaryEncodesUptoSaid : Prop := summaryEncodesUptoRow.holds Try.pinned (OpenSpec.upto summaryEncodesSpec)

end Rows
end Go.Proofs.Ytomgdkfoinojiaa
