/-
  No cell of these rows narrows 'for every input' (looked for: loops, veiled, ifaces, maps, wideKeys, modest, calm, conditions, laid).
  DERIVED. THE GIVEN ROWS OF THIS SEAT. 7 by the template 'for every input the law returns true; each argument reads behind the call as it read before'; 0 by the template 'total and deterministic' (their statements: YtffnogjgnpbjlaaTotals.lean).
  GIVEN WITH THE SEED: the statements are not yours to turn. If you find one false, say at which input.
  Laid BY PROGRAM, IN A SANDBOX (cutbox-rows.mjs): the forced cells as the released guide's own fill.sh prints them over the translation d3ef1cb0f4925cb0… (all of the seat's roots in one cut). By AI agents, Wed Nov 11 2026. No macro, syntax, notation, axiom, sorry.
-/
import Derived.Test.YtffnogjgnpbjlaaChecked
import GoSem.Claim
import GoSem.ClaimJoined
import GoSem.ClaimMapViews
import Derived.JoinedTies
import Derived.KernelRfl
namespace Go.Proofs.Ytffnogjgnpbjlaa
/- THE CELL 'sum', in the pinned program and in every row, IS THE sha256 OF THE DUMP (.gsa) THAT YtffnogjgnpbjlaaProg.lean LOADS. Nothing in Lean hashes anything: it is a label: what it is worth is what the hold of that sum in a sandbox is worth. -/
noncomputable def Try.pinned : Pinned := { name := "ytffnogjgnpbjlaa", sum := "d3ef1cb0f4925cb0c79b7638a311e7e546ed11182cd25d043195e876f1baba3e", checked := Try.checked }
namespace Rows
def none {H : Type} : Left H := { results := [], args := [] }

/-- 'refmeshlaw58.RetentionDominators': WHATEVER THE INPUT: true; the input reads as it did. -/
def retentionDominatorsSpec : ChangeSpec := { name := "retentionDominators", fn := fun _ => fun
  | [d1, d2] => { results := [.lit (.bool true)], args := [d1, d2] }
  | _ => none }
def retentionDominatorsRow : OpenClaim := { program := "ytffnogjgnpbjlaa", sum := "d3ef1cb0f4925cb0c79b7638a311e7e546ed11182cd25d043195e876f1baba3e", func := "refmesh/refmeshlaw58.RetentionDominators", spec := "retentionDominators", unfollowed := true, recurses := true, plainKeys := false, apart := false }
def RetentionDominatorsSaid : Prop := retentionDominatorsRow.holds Try.pinned (OpenSpec.ofChange retentionDominatorsSpec)

/-- ITS FALSE NEIGHBOUR: 'it returns false'. Refute it at one input. -/
def retentionDominatorsWrong : ChangeSpec := { name := "retentionDominators", fn := fun _ => fun
  | [d1, d2] => { results := [.lit (.bool false)], args := [d1, d2] }
  | _ => none }
def RetentionDominatorsWrongFalsely : Prop := retentionDominatorsRow.holds Try.pinned (OpenSpec.ofChange retentionDominatorsWrong)

/-- 'refmeshlaw58.RetentionSizes': WHATEVER THE INPUT: true; the input reads as it did. -/
def retentionSizesSpec : ChangeSpec := { name := "retentionSizes", fn := fun _ => fun
  | [d1, d2, d3] => { results := [.lit (.bool true)], args := [d1, d2, d3] }
  | _ => none }
def retentionSizesRow : OpenClaim := { program := "ytffnogjgnpbjlaa", sum := "d3ef1cb0f4925cb0c79b7638a311e7e546ed11182cd25d043195e876f1baba3e", func := "refmesh/refmeshlaw58.RetentionSizes", spec := "retentionSizes", unfollowed := true, recurses := true, plainKeys := false, apart := false }
def RetentionSizesSaid : Prop := retentionSizesRow.holds Try.pinned (OpenSpec.ofChange retentionSizesSpec)

/-- ITS FALSE NEIGHBOUR: 'it returns false'. Refute it at one input. -/
def retentionSizesWrong : ChangeSpec := { name := "retentionSizes", fn := fun _ => fun
  | [d1, d2, d3] => { results := [.lit (.bool false)], args := [d1, d2, d3] }
  | _ => none }
def RetentionSizesWrongFalsely : Prop := retentionSizesRow.holds Try.pinned (OpenSpec.ofChange retentionSizesWrong)

/-- 'refmeshlaw58.RetentionForest': WHATEVER THE INPUT: true; the input reads as it did. -/
def retentionForestSpec : ChangeSpec := { name := "retentionForest", fn := fun _ => fun
  | [d1, d2] => { results := [.lit (.bool true)], args := [d1, d2] }
  | _ => none }
def retentionForestRow : OpenClaim := { program := "ytffnogjgnpbjlaa", sum := "d3ef1cb0f4925cb0c79b7638a311e7e546ed11182cd25d043195e876f1baba3e", func := "refmesh/refmeshlaw58.RetentionForest", spec := "retentionForest", unfollowed := true, recurses := true, plainKeys := false, apart := false }
def RetentionForestSaid : Prop := retentionForestRow.holds Try.pinned (OpenSpec.ofChange retentionForestSpec)

/-- ITS FALSE NEIGHBOUR: 'it returns false'. Refute it at one input. -/
def retentionForestWrong : ChangeSpec := { name := "retentionForest", fn := fun _ => fun
  | [d1, d2] => { results := [.lit (.bool false)], args := [d1, d2] }
  | _ => none }
def RetentionForestWrongFalsely : Prop := retentionForestRow.holds Try.pinned (OpenSpec.ofChange retentionForestWrong)

/-- 'refmeshlaw58.RetentionSums': WHATEVER THE INPUT: true; the input reads as it did. -/
def retentionSumsSpec : ChangeSpec := { name := "retentionSums", fn := fun _ => fun
  | [d1, d2] => { results := [.lit (.bool true)], args := [d1, d2] }
  | _ => none }
def retentionSumsRow : OpenClaim := { program := "ytffnogjgnpbjlaa", sum := "d3ef1cb0f4925cb0c79b7638a311e7e546ed11182cd25d043195e876f1baba3e", func := "refmesh/refmeshlaw58.RetentionSums", spec := "retentionSums", unfollowed := true, recurses := true, plainKeys := false, apart := false }
def RetentionSumsSaid : Prop := retentionSumsRow.holds Try.pinned (OpenSpec.ofChange retentionSumsSpec)

/-- ITS FALSE NEIGHBOUR: 'it returns false'. Refute it at one input. -/
def retentionSumsWrong : ChangeSpec := { name := "retentionSums", fn := fun _ => fun
  | [d1, d2] => { results := [.lit (.bool false)], args := [d1, d2] }
  | _ => none }
def RetentionSumsWrongFalsely : Prop := retentionSumsRow.holds Try.pinned (OpenSpec.ofChange retentionSumsWrong)

/-- 'refmeshlaw58.RetentionOrder': WHATEVER THE INPUT: true; the input reads as it did. -/
def retentionOrderSpec : ChangeSpec := { name := "retentionOrder", fn := fun _ => fun
  | [d1, d2, d3] => { results := [.lit (.bool true)], args := [d1, d2, d3] }
  | _ => none }
def retentionOrderRow : OpenClaim := { program := "ytffnogjgnpbjlaa", sum := "d3ef1cb0f4925cb0c79b7638a311e7e546ed11182cd25d043195e876f1baba3e", func := "refmesh/refmeshlaw58.RetentionOrder", spec := "retentionOrder", unfollowed := true, recurses := true, plainKeys := false, apart := false }
def RetentionOrderSaid : Prop := retentionOrderRow.holds Try.pinned (OpenSpec.ofChange retentionOrderSpec)

/-- ITS FALSE NEIGHBOUR: 'it returns false'. Refute it at one input. -/
def retentionOrderWrong : ChangeSpec := { name := "retentionOrder", fn := fun _ => fun
  | [d1, d2, d3] => { results := [.lit (.bool false)], args := [d1, d2, d3] }
  | _ => none }
def RetentionOrderWrongFalsely : Prop := retentionOrderRow.holds Try.pinned (OpenSpec.ofChange retentionOrderWrong)

/-- 'refmeshlaw58.RetentionRemoval': WHATEVER THE INPUT: true; the input reads as it did. -/
def retentionRemovalSpec : ChangeSpec := { name := "retentionRemoval", fn := fun _ => fun
  | [d1, d2, d3] => { results := [.lit (.bool true)], args := [d1, d2, d3] }
  | _ => none }
def retentionRemovalRow : OpenClaim := { program := "ytffnogjgnpbjlaa", sum := "d3ef1cb0f4925cb0c79b7638a311e7e546ed11182cd25d043195e876f1baba3e", func := "refmesh/refmeshlaw58.RetentionRemoval", spec := "retentionRemoval", unfollowed := true, recurses := true, plainKeys := false, apart := false }
def RetentionRemovalSaid : Prop := retentionRemovalRow.holds Try.pinned (OpenSpec.ofChange retentionRemovalSpec)

/-- ITS FALSE NEIGHBOUR: 'it returns false'. Refute it at one input. -/
def retentionRemovalWrong : ChangeSpec := { name := "retentionRemoval", fn := fun _ => fun
  | [d1, d2, d3] => { results := [.lit (.bool false)], args := [d1, d2, d3] }
  | _ => none }
def RetentionRemovalWrongFalsely : Prop := retentionRemovalRow.holds Try.pinned (OpenSpec.ofChange retentionRemovalWrong)

/-- 'refmeshlaw58.RetentionRoots': WHATEVER THE INPUT: true; the input reads as it did. -/
def retentionRootsSpec : ChangeSpec := { name := "retentionRoots", fn := fun _ => fun
  | [d1, d2, d3] => { results := [.lit (.bool true)], args := [d1, d2, d3] }
  | _ => none }
def retentionRootsRow : OpenClaim := { program := "ytffnogjgnpbjlaa", sum := "d3ef1cb0f4925cb0c79b7638a311e7e546ed11182cd25d043195e876f1baba3e", func := "refmesh/refmeshlaw58.RetentionRoots", spec := "retentionRoots", unfollowed := true, recurses := true, plainKeys := false, apart := false }
def RetentionRootsSaid : Prop := retentionRootsRow.holds Try.pinned (OpenSpec.ofChange retentionRootsSpec)

/-- ITS FALSE NEIGHBOUR: 'it returns false'. Refute it at one input. -/
def retentionRootsWrong : ChangeSpec := { name := "retentionRoots", fn := fun _ => fun
  | [d1, d2, d3] => { results := [.lit (.bool false)], args := [d1, d2, d3] }
  | _ => none }
def RetentionRootsWrongFalsely : Prop := retentionRootsRow.holds Try.pinned (OpenSpec.ofChange retentionRootsWrong)

/- THE SECOND FORM. 'bulk': how many values and letters a reading holds, each counted each time it is reached (what is shared counts as often as it is met; a slice's spare places count too). A statement '..UptoSaid' is the law's where the arguments, and the package variables that the reading takes, are together of bulk at most 1048576: NARROWER than '..Said'. Prove '..Said' where nothing that the law and all that it calls make is longer than what came in: it says more and counts as full. Else prove '..UptoSaid'. A law counts once. -/
mutual
def uptoBulk {H : Type} : DataW H → Nat
  | .lit (.string bytes) => bytes.length + 1
  | .lit _ => 1
  | .nil => 1
  | .ptr d => uptoBulk d + 1
  | .slice elems spare => uptoBulkAll elems + uptoBulkAll spare + 1
  | .agg parts => uptoBulkAll parts + 1
  | .iface _ d => uptoBulk d + 1
  | .map entries => uptoBulkEntries entries + 1
  | .held _ => 1
def uptoBulkAll {H : Type} : List (DataW H) → Nat
  | [] => 0
  | d :: r => uptoBulk d + uptoBulkAll r
def uptoBulkEntries {H : Type} : List (Lit × DataW H) → Nat
  | [] => 0
  | x :: r => uptoBulkEntry x + uptoBulkEntries r
def uptoBulkEntry {H : Type} : Lit × DataW H → Nat
  | (.string bytes, d) => bytes.length + uptoBulk d + 1
  | (_, d) => uptoBulk d + 1
 end
def uptoSmall : (H : Type) → List (DataW H) → Bool := fun _ ds => decide (uptoBulkAll ds ≤ 1048576)
def OpenSpec.upto (s : _root_.Go.ChangeSpec) : _root_.Go.OpenSpec := { _root_.Go.OpenSpec.ofChange s with cond := some uptoSmall }

/-- 'refmeshlaw58.RetentionDominators', WHERE WHAT IT READS IS OF BULK AT MOST 1048576: true; the input reads as it did. -/
def retentionDominatorsUptoRow : OpenClaim := { program := "ytffnogjgnpbjlaa", sum := "d3ef1cb0f4925cb0c79b7638a311e7e546ed11182cd25d043195e876f1baba3e", func := "refmesh/refmeshlaw58.RetentionDominators", spec := "retentionDominators", unfollowed := true, recurses := true, plainKeys := false, apart := false, narrowed := true }
def RetentionDominatorsUptoSaid : Prop := retentionDominatorsUptoRow.holds Try.pinned (OpenSpec.upto retentionDominatorsSpec)

/-- 'refmeshlaw58.RetentionSizes', WHERE WHAT IT READS IS OF BULK AT MOST 1048576: true; the input reads as it did. -/
def retentionSizesUptoRow : OpenClaim := { program := "ytffnogjgnpbjlaa", sum := "d3ef1cb0f4925cb0c79b7638a311e7e546ed11182cd25d043195e876f1baba3e", func := "refmesh/refmeshlaw58.RetentionSizes", spec := "retentionSizes", unfollowed := true, recurses := true, plainKeys := false, apart := false, narrowed := true }
def RetentionSizesUptoSaid : Prop := retentionSizesUptoRow.holds Try.pinned (OpenSpec.upto retentionSizesSpec)

/-- 'refmeshlaw58.RetentionForest', WHERE WHAT IT READS IS OF BULK AT MOST 1048576: true; the input reads as it did. -/
def retentionForestUptoRow : OpenClaim := { program := "ytffnogjgnpbjlaa", sum := "d3ef1cb0f4925cb0c79b7638a311e7e546ed11182cd25d043195e876f1baba3e", func := "refmesh/refmeshlaw58.RetentionForest", spec := "retentionForest", unfollowed := true, recurses := true, plainKeys := false, apart := false, narrowed := true }
def RetentionForestUptoSaid : Prop := retentionForestUptoRow.holds Try.pinned (OpenSpec.upto retentionForestSpec)

/-- 'refmeshlaw58.RetentionSums', WHERE WHAT IT READS IS OF BULK AT MOST 1048576: true; the input reads as it did. -/
def retentionSumsUptoRow : OpenClaim := { program := "ytffnogjgnpbjlaa", sum := "d3ef1cb0f4925cb0c79b7638a311e7e546ed11182cd25d043195e876f1baba3e", func := "refmesh/refmeshlaw58.RetentionSums", spec := "retentionSums", unfollowed := true, recurses := true, plainKeys := false, apart := false, narrowed := true }
def RetentionSumsUptoSaid : Prop := retentionSumsUptoRow.holds Try.pinned (OpenSpec.upto retentionSumsSpec)

/-- 'refmeshlaw58.RetentionOrder', WHERE WHAT IT READS IS OF BULK AT MOST 1048576: true; the input reads as it did. -/
def retentionOrderUptoRow : OpenClaim := { program := "ytffnogjgnpbjlaa", sum := "d3ef1cb0f4925cb0c79b7638a311e7e546ed11182cd25d043195e876f1baba3e", func := "refmesh/refmeshlaw58.RetentionOrder", spec := "retentionOrder", unfollowed := true, recurses := true, plainKeys := false, apart := false, narrowed := true }
def RetentionOrderUptoSaid : Prop := retentionOrderUptoRow.holds Try.pinned (OpenSpec.upto retentionOrderSpec)

/-- 'refmeshlaw58.RetentionRemoval', WHERE WHAT IT READS IS OF BULK AT MOST 1048576: true; the input reads as it did. -/
def retentionRemovalUptoRow : OpenClaim := { program := "ytffnogjgnpbjlaa", sum := "d3ef1cb0f4925cb0c79b7638a311e7e546ed11182cd25d043195e876f1baba3e", func := "refmesh/refmeshlaw58.RetentionRemoval", spec := "retentionRemoval", unfollowed := true, recurses := true, plainKeys := false, apart := false, narrowed := true }
def RetentionRemovalUptoSaid : Prop := retentionRemovalUptoRow.holds Try.pinned (OpenSpec.upto retentionRemovalSpec)

/-- 'refmeshlaw58.RetentionRoots', WHERE WHAT IT READS IS OF BULK AT MOST 1048576: true; the input reads as it did. -/
def retentionRootsUptoRow : OpenClaim := { program := "ytffnogjgnpbjlaa", sum := "d3ef1cb0f4925cb0c79b7638a311e7e546ed11182cd25d043195e876f1baba3e", func := "refmesh/refmeshlaw58.RetentionRoots", spec := "retentionRoots", unfollowed := true, recurses := true, plainKeys := false, apart := false, narrowed := true }
def RetentionRootsUptoSaid : Prop := retentionRootsUptoRow.holds Try.pinned (OpenSpec.upto retentionRootsSpec)

end Rows
end Go.Proofs.Ytffnogjgnpbjlaa
