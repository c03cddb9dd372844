/-
  NARROWER THAN 'FOR EVERY INPUT', by the rows' own cells (each row's printed sentence says how): PathsShortest: laid · PathsHolders: laid · PathsBegin: laid · PathsNear: laid · PathsSpoilt: laid · PathsReach: laid.
  DERIVED. THE GIVEN ROWS OF THIS SEAT. 6 by the template 'for every input the law returns true; each argument reads behind the call as it read before'; 0 by the template 'total and deterministic' (their statements: YtpkfenlfgdbkcaaGreatDoorTotals.lean).
  GIVEN WITH THE SEED: the statements are not yours to turn. If you find one false, say at which input.
  Laid BY PROGRAM, IN A SANDBOX (cutbox-rows.mjs): the forced cells as the released guide's own fill.sh prints them over the translation 4f116572d6be34ed… (all of the seat's roots in one cut). By AI agents, Wed Nov 11 2026. No macro, syntax, notation, axiom, sorry.
-/
import Derived.Test.YtpkfenlfgdbkcaaGreatDoorChecked
import GoSem.Claim
import GoSem.ClaimJoined
import GoSem.ClaimMapViews
import Derived.JoinedTies
import Derived.KernelRfl
namespace Go.Proofs.YtpkfenlfgdbkcaaGreatDoor
/- THE CELL 'sum', in the pinned program and in every row, IS THE sha256 OF THE DUMP (.gsa) THAT YtpkfenlfgdbkcaaGreatDoorProg.lean LOADS. Nothing in Lean hashes anything: it is a label: what it is worth is what the hold of that sum in a sandbox is worth. -/
noncomputable def Tryz.pinned : Pinned := { name := "ytpkfenlfgdbkcaagreatdoor", sum := "4f116572d6be34ed1c80162b258b2c4e8e52a1e6219f2aecaac0bbd3e6da9d29", checked := Tryz.checked }
namespace Rows
def none {H : Type} : Left H := { results := [], args := [] }

/- WHAT THE LISTED PACKAGE-LEVEL VARIABLES READ AS WHEN THE CALL BEGINS. Each datum BY PROGRAM (the guide's laid-datum.mjs) off the statement by which the dump's own 'gosem.cut.vars' lays the variable. In a bare row this is a premise. The card (YtpkfenlfgdbkcaaGreatDoorCards.lean) ties it to the program's text. -/
def laid_math_bits_deBruijn32tab {H : Type} : DataW H := .agg [.lit (.int .u8 0), .lit (.int .u8 1), .lit (.int .u8 28), .lit (.int .u8 2), .lit (.int .u8 29), .lit (.int .u8 14), .lit (.int .u8 24), .lit (.int .u8 3), .lit (.int .u8 30), .lit (.int .u8 22), .lit (.int .u8 20), .lit (.int .u8 15), .lit (.int .u8 25), .lit (.int .u8 17), .lit (.int .u8 4), .lit (.int .u8 8), .lit (.int .u8 31), .lit (.int .u8 27), .lit (.int .u8 13), .lit (.int .u8 23), .lit (.int .u8 21), .lit (.int .u8 19), .lit (.int .u8 16), .lit (.int .u8 7), .lit (.int .u8 26), .lit (.int .u8 12), .lit (.int .u8 18), .lit (.int .u8 6), .lit (.int .u8 11), .lit (.int .u8 5), .lit (.int .u8 10), .lit (.int .u8 9)]
def laid_math_bits_deBruijn64tab {H : Type} : DataW H := .agg [.lit (.int .u8 0), .lit (.int .u8 1), .lit (.int .u8 56), .lit (.int .u8 2), .lit (.int .u8 57), .lit (.int .u8 49), .lit (.int .u8 28), .lit (.int .u8 3), .lit (.int .u8 61), .lit (.int .u8 58), .lit (.int .u8 42), .lit (.int .u8 50), .lit (.int .u8 38), .lit (.int .u8 29), .lit (.int .u8 17), .lit (.int .u8 4), .lit (.int .u8 62), .lit (.int .u8 47), .lit (.int .u8 59), .lit (.int .u8 36), .lit (.int .u8 45), .lit (.int .u8 43), .lit (.int .u8 51), .lit (.int .u8 22), .lit (.int .u8 53), .lit (.int .u8 39), .lit (.int .u8 33), .lit (.int .u8 30), .lit (.int .u8 24), .lit (.int .u8 18), .lit (.int .u8 12), .lit (.int .u8 5), .lit (.int .u8 63), .lit (.int .u8 55), .lit (.int .u8 48), .lit (.int .u8 27), .lit (.int .u8 60), .lit (.int .u8 41), .lit (.int .u8 37), .lit (.int .u8 16), .lit (.int .u8 46), .lit (.int .u8 35), .lit (.int .u8 44), .lit (.int .u8 21), .lit (.int .u8 52), .lit (.int .u8 32), .lit (.int .u8 23), .lit (.int .u8 11), .lit (.int .u8 54), .lit (.int .u8 26), .lit (.int .u8 40), .lit (.int .u8 15), .lit (.int .u8 34), .lit (.int .u8 20), .lit (.int .u8 31), .lit (.int .u8 10), .lit (.int .u8 25), .lit (.int .u8 14), .lit (.int .u8 19), .lit (.int .u8 9), .lit (.int .u8 13), .lit (.int .u8 8), .lit (.int .u8 7), .lit (.int .u8 6)]
def laid_internal_strconv_uint64pow10 {H : Type} : DataW H := .agg [.lit (.int .u64 1), .lit (.int .u64 10), .lit (.int .u64 100), .lit (.int .u64 1000), .lit (.int .u64 10000), .lit (.int .u64 100000), .lit (.int .u64 1000000), .lit (.int .u64 10000000), .lit (.int .u64 100000000), .lit (.int .u64 1000000000), .lit (.int .u64 10000000000), .lit (.int .u64 100000000000), .lit (.int .u64 1000000000000), .lit (.int .u64 10000000000000), .lit (.int .u64 100000000000000), .lit (.int .u64 1000000000000000), .lit (.int .u64 10000000000000000), .lit (.int .u64 100000000000000000), .lit (.int .u64 1000000000000000000), .lit (.int .u64 10000000000000000000)]

/-- 'refmeshlaw59.PathsShortest': WHATEVER THE INPUT: true; the input reads as it did. -/
def pathsShortestSpec : ChangeSpec := { name := "pathsShortest", fn := fun _ => fun
  | [d1, d2] => { results := [.lit (.bool true)], args := [d1, d2] }
  | _ => none }
def pathsShortestRow : OpenClaim := { program := "ytpkfenlfgdbkcaagreatdoor", sum := "4f116572d6be34ed1c80162b258b2c4e8e52a1e6219f2aecaac0bbd3e6da9d29", func := "refmesh/refmeshlaw59.PathsShortest", spec := "pathsShortest", unfollowed := true, recurses := true, named := ["internal/strconv.uint64pow10", "math/bits.deBruijn32tab", "math/bits.deBruijn64tab"], plainKeys := false, apart := false, laid := [("math/bits.deBruijn32tab", laid_math_bits_deBruijn32tab), ("math/bits.deBruijn64tab", laid_math_bits_deBruijn64tab), ("internal/strconv.uint64pow10", laid_internal_strconv_uint64pow10)] }
def PathsShortestSaid : Prop := pathsShortestRow.holds Tryz.pinned (OpenSpec.ofChange pathsShortestSpec)

/-- ITS FALSE NEIGHBOUR: 'it returns false'. Refute it at one input. -/
def pathsShortestWrong : ChangeSpec := { name := "pathsShortest", fn := fun _ => fun
  | [d1, d2] => { results := [.lit (.bool false)], args := [d1, d2] }
  | _ => none }
def PathsShortestWrongFalsely : Prop := pathsShortestRow.holds Tryz.pinned (OpenSpec.ofChange pathsShortestWrong)

/-- 'refmeshlaw59.PathsHolders': WHATEVER THE INPUT: true; the input reads as it did. -/
def pathsHoldersSpec : ChangeSpec := { name := "pathsHolders", fn := fun _ => fun
  | [d1, d2] => { results := [.lit (.bool true)], args := [d1, d2] }
  | _ => none }
def pathsHoldersRow : OpenClaim := { program := "ytpkfenlfgdbkcaagreatdoor", sum := "4f116572d6be34ed1c80162b258b2c4e8e52a1e6219f2aecaac0bbd3e6da9d29", func := "refmesh/refmeshlaw59.PathsHolders", spec := "pathsHolders", unfollowed := true, recurses := true, named := ["internal/strconv.uint64pow10", "math/bits.deBruijn32tab", "math/bits.deBruijn64tab"], plainKeys := false, apart := false, laid := [("math/bits.deBruijn32tab", laid_math_bits_deBruijn32tab), ("math/bits.deBruijn64tab", laid_math_bits_deBruijn64tab), ("internal/strconv.uint64pow10", laid_internal_strconv_uint64pow10)] }
def PathsHoldersSaid : Prop := pathsHoldersRow.holds Tryz.pinned (OpenSpec.ofChange pathsHoldersSpec)

/-- ITS FALSE NEIGHBOUR: 'it returns false'. Refute it at one input. -/
def pathsHoldersWrong : ChangeSpec := { name := "pathsHolders", fn := fun _ => fun
  | [d1, d2] => { results := [.lit (.bool false)], args := [d1, d2] }
  | _ => none }
def PathsHoldersWrongFalsely : Prop := pathsHoldersRow.holds Tryz.pinned (OpenSpec.ofChange pathsHoldersWrong)

/-- 'refmeshlaw59.PathsBegin': WHATEVER THE INPUT: true; the input reads as it did. -/
def pathsBeginSpec : ChangeSpec := { name := "pathsBegin", fn := fun _ => fun
  | [d1, d2] => { results := [.lit (.bool true)], args := [d1, d2] }
  | _ => none }
def pathsBeginRow : OpenClaim := { program := "ytpkfenlfgdbkcaagreatdoor", sum := "4f116572d6be34ed1c80162b258b2c4e8e52a1e6219f2aecaac0bbd3e6da9d29", func := "refmesh/refmeshlaw59.PathsBegin", spec := "pathsBegin", unfollowed := true, recurses := true, named := ["internal/strconv.uint64pow10", "math/bits.deBruijn32tab", "math/bits.deBruijn64tab"], plainKeys := false, apart := false, laid := [("math/bits.deBruijn32tab", laid_math_bits_deBruijn32tab), ("math/bits.deBruijn64tab", laid_math_bits_deBruijn64tab), ("internal/strconv.uint64pow10", laid_internal_strconv_uint64pow10)] }
def PathsBeginSaid : Prop := pathsBeginRow.holds Tryz.pinned (OpenSpec.ofChange pathsBeginSpec)

/-- ITS FALSE NEIGHBOUR: 'it returns false'. Refute it at one input. -/
def pathsBeginWrong : ChangeSpec := { name := "pathsBegin", fn := fun _ => fun
  | [d1, d2] => { results := [.lit (.bool false)], args := [d1, d2] }
  | _ => none }
def PathsBeginWrongFalsely : Prop := pathsBeginRow.holds Tryz.pinned (OpenSpec.ofChange pathsBeginWrong)

/-- 'refmeshlaw59.PathsNear': WHATEVER THE INPUT: true; the input reads as it did. -/
def pathsNearSpec : ChangeSpec := { name := "pathsNear", fn := fun _ => fun
  | [d1, d2] => { results := [.lit (.bool true)], args := [d1, d2] }
  | _ => none }
def pathsNearRow : OpenClaim := { program := "ytpkfenlfgdbkcaagreatdoor", sum := "4f116572d6be34ed1c80162b258b2c4e8e52a1e6219f2aecaac0bbd3e6da9d29", func := "refmesh/refmeshlaw59.PathsNear", spec := "pathsNear", unfollowed := true, recurses := true, named := ["internal/strconv.uint64pow10", "math/bits.deBruijn32tab", "math/bits.deBruijn64tab"], plainKeys := false, apart := false, laid := [("math/bits.deBruijn32tab", laid_math_bits_deBruijn32tab), ("math/bits.deBruijn64tab", laid_math_bits_deBruijn64tab), ("internal/strconv.uint64pow10", laid_internal_strconv_uint64pow10)] }
def PathsNearSaid : Prop := pathsNearRow.holds Tryz.pinned (OpenSpec.ofChange pathsNearSpec)

/-- ITS FALSE NEIGHBOUR: 'it returns false'. Refute it at one input. -/
def pathsNearWrong : ChangeSpec := { name := "pathsNear", fn := fun _ => fun
  | [d1, d2] => { results := [.lit (.bool false)], args := [d1, d2] }
  | _ => none }
def PathsNearWrongFalsely : Prop := pathsNearRow.holds Tryz.pinned (OpenSpec.ofChange pathsNearWrong)

/-- 'refmeshlaw59.PathsSpoilt': WHATEVER THE INPUT: true; the input reads as it did. -/
def pathsSpoiltSpec : ChangeSpec := { name := "pathsSpoilt", fn := fun _ => fun
  | [d1, d2, d3, d4] => { results := [.lit (.bool true)], args := [d1, d2, d3, d4] }
  | _ => none }
def pathsSpoiltRow : OpenClaim := { program := "ytpkfenlfgdbkcaagreatdoor", sum := "4f116572d6be34ed1c80162b258b2c4e8e52a1e6219f2aecaac0bbd3e6da9d29", func := "refmesh/refmeshlaw59.PathsSpoilt", spec := "pathsSpoilt", unfollowed := true, recurses := true, named := ["internal/strconv.uint64pow10", "math/bits.deBruijn32tab", "math/bits.deBruijn64tab"], plainKeys := false, apart := false, laid := [("math/bits.deBruijn32tab", laid_math_bits_deBruijn32tab), ("math/bits.deBruijn64tab", laid_math_bits_deBruijn64tab), ("internal/strconv.uint64pow10", laid_internal_strconv_uint64pow10)] }
def PathsSpoiltSaid : Prop := pathsSpoiltRow.holds Tryz.pinned (OpenSpec.ofChange pathsSpoiltSpec)

/-- ITS FALSE NEIGHBOUR: 'it returns false'. Refute it at one input. -/
def pathsSpoiltWrong : ChangeSpec := { name := "pathsSpoilt", fn := fun _ => fun
  | [d1, d2, d3, d4] => { results := [.lit (.bool false)], args := [d1, d2, d3, d4] }
  | _ => none }
def PathsSpoiltWrongFalsely : Prop := pathsSpoiltRow.holds Tryz.pinned (OpenSpec.ofChange pathsSpoiltWrong)

/-- 'refmeshlaw59.PathsReach': WHATEVER THE INPUT: true; the input reads as it did. -/
def pathsReachSpec : ChangeSpec := { name := "pathsReach", fn := fun _ => fun
  | [d] => { results := [.lit (.bool true)], args := [d] }
  | _ => none }
def pathsReachRow : OpenClaim := { program := "ytpkfenlfgdbkcaagreatdoor", sum := "4f116572d6be34ed1c80162b258b2c4e8e52a1e6219f2aecaac0bbd3e6da9d29", func := "refmesh/refmeshlaw59.PathsReach", spec := "pathsReach", unfollowed := true, recurses := true, named := ["internal/strconv.uint64pow10", "math/bits.deBruijn32tab", "math/bits.deBruijn64tab"], plainKeys := false, apart := false, laid := [("math/bits.deBruijn32tab", laid_math_bits_deBruijn32tab), ("math/bits.deBruijn64tab", laid_math_bits_deBruijn64tab), ("internal/strconv.uint64pow10", laid_internal_strconv_uint64pow10)] }
def PathsReachSaid : Prop := pathsReachRow.holds Tryz.pinned (OpenSpec.ofChange pathsReachSpec)

/-- ITS FALSE NEIGHBOUR: 'it returns false'. Refute it at one input. -/
def pathsReachWrong : ChangeSpec := { name := "pathsReach", fn := fun _ => fun
  | [d] => { results := [.lit (.bool false)], args := [d] }
  | _ => none }
def PathsReachWrongFalsely : Prop := pathsReachRow.holds Tryz.pinned (OpenSpec.ofChange pathsReachWrong)

/- THE SECOND FORM. 'bulk': how many values and letters a reading holds, each counted each time it is reached (what is shared counts as often as it is met; a slice's spare places count too). A statement '..UptoSaid' is the law's where the arguments, and the package variables that the reading takes, are together of bulk at most 1048576: NARROWER than '..Said'. Prove '..Said' where nothing that the law and all that it calls make is longer than what came in: it says more and counts as full. Else prove '..UptoSaid'. A law counts once. -/
mutual
def uptoBulk {H : Type} : DataW H → Nat
  | .lit (.string bytes) => bytes.length + 1
  | .lit _ => 1
  | .nil => 1
  | .ptr d => uptoBulk d + 1
  | .slice elems spare => uptoBulkAll elems + uptoBulkAll spare + 1
  | .agg parts => uptoBulkAll parts + 1
  | .iface _ d => uptoBulk d + 1
  | .map entries => uptoBulkEntries entries + 1
  | .held _ => 1
def uptoBulkAll {H : Type} : List (DataW H) → Nat
  | [] => 0
  | d :: r => uptoBulk d + uptoBulkAll r
def uptoBulkEntries {H : Type} : List (Lit × DataW H) → Nat
  | [] => 0
  | x :: r => uptoBulkEntry x + uptoBulkEntries r
def uptoBulkEntry {H : Type} : Lit × DataW H → Nat
  | (.string bytes, d) => bytes.length + uptoBulk d + 1
  | (_, d) => uptoBulk d + 1
 end
def uptoSmall : (H : Type) → List (DataW H) → Bool := fun _ ds => decide (uptoBulkAll ds ≤ 1048576)
def OpenSpec.upto (s : _root_.Go.ChangeSpec) : _root_.Go.OpenSpec := { _root_.Go.OpenSpec.ofChange s with cond := some uptoSmall }

/-- 'refmeshlaw59.PathsShortest', WHERE WHAT IT READS IS OF BULK AT MOST 1048576: true; the input reads as it did. -/
def pathsShortestUptoRow : OpenClaim := { program := "ytpkfenlfgdbkcaagreatdoor", sum := "4f116572d6be34ed1c80162b258b2c4e8e52a1e6219f2aecaac0bbd3e6da9d29", func := "refmesh/refmeshlaw59.PathsShortest", spec := "pathsShortest", unfollowed := true, recurses := true, named := ["internal/strconv.uint64pow10", "math/bits.deBruijn32tab", "math/bits.deBruijn64tab"], plainKeys := false, apart := false, laid := [("math/bits.deBruijn32tab", laid_math_bits_deBruijn32tab), ("math/bits.deBruijn64tab", laid_math_bits_deBruijn64tab), ("internal/strconv.uint64pow10", laid_internal_strconv_uint64pow10)], narrowed := true }
def PathsShortestUptoSaid : Prop := pathsShortestUptoRow.holds Tryz.pinned (OpenSpec.upto pathsShortestSpec)

/-- 'refmeshlaw59.PathsHolders', WHERE WHAT IT READS IS OF BULK AT MOST 1048576: true; the input reads as it did. -/
def pathsHoldersUptoRow : OpenClaim := { program := "ytpkfenlfgdbkcaagreatdoor", sum := "4f116572d6be34ed1c80162b258b2c4e8e52a1e6219f2aecaac0bbd3e6da9d29", func := "refmesh/refmeshlaw59.PathsHolders", spec := "pathsHolders", unfollowed := true, recurses := true, named := ["internal/strconv.uint64pow10", "math/bits.deBruijn32tab", "math/bits.deBruijn64tab"], plainKeys := false, apart := false, laid := [("math/bits.deBruijn32tab", laid_math_bits_deBruijn32tab), ("math/bits.deBruijn64tab", laid_math_bits_deBruijn64tab), ("internal/strconv.uint64pow10", laid_internal_strconv_uint64pow10)], narrowed := true }
def PathsHoldersUptoSaid : Prop := pathsHoldersUptoRow.holds Tryz.pinned (OpenSpec.upto pathsHoldersSpec)

/-- 'refmeshlaw59.PathsBegin', WHERE WHAT IT READS IS OF BULK AT MOST 1048576: true; the input reads as it did. -/
def pathsBeginUptoRow : OpenClaim := { program := "ytpkfenlfgdbkcaagreatdoor", sum := "4f116572d6be34ed1c80162b258b2c4e8e52a1e6219f2aecaac0bbd3e6da9d29", func := "refmesh/refmeshlaw59.PathsBegin", spec := "pathsBegin", unfollowed := true, recurses := true, named := ["internal/strconv.uint64pow10", "math/bits.deBruijn32tab", "math/bits.deBruijn64tab"], plainKeys := false, apart := false, laid := [("math/bits.deBruijn32tab", laid_math_bits_deBruijn32tab), ("math/bits.deBruijn64tab", laid_math_bits_deBruijn64tab), ("internal/strconv.uint64pow10", laid_internal_strconv_uint64pow10)], narrowed := true }
def PathsBeginUptoSaid : Prop := pathsBeginUptoRow.holds Tryz.pinned (OpenSpec.upto pathsBeginSpec)

/-- 'refmeshlaw59.PathsNear', WHERE WHAT IT READS IS OF BULK AT MOST 1048576: true; the input reads as it did. -/
def pathsNearUptoRow : OpenClaim := { program := "ytpkfenlfgdbkcaagreatdoor", sum := "4f116572d6be34ed1c80162b258b2c4e8e52a1e6219f2aecaac0bbd3e6da9d29", func := "refmesh/refmeshlaw59.PathsNear", spec := "pathsNear", unfollowed := true, recurses := true, named := ["internal/strconv.uint64pow10", "math/bits.deBruijn32tab", "math/bits.deBruijn64tab"], plainKeys := false, apart := false, laid := [("math/bits.deBruijn32tab", laid_math_bits_deBruijn32tab), ("math/bits.deBruijn64tab", laid_math_bits_deBruijn64tab), ("internal/strconv.uint64pow10", laid_internal_strconv_uint64pow10)], narrowed := true }
def PathsNearUptoSaid : Prop := pathsNearUptoRow.holds Tryz.pinned (OpenSpec.upto pathsNearSpec)

/-- 'refmeshlaw59.PathsSpoilt', WHERE WHAT IT READS IS OF BULK AT MOST 1048576: true; the input reads as it did. -/
def pathsSpoiltUptoRow : OpenClaim := { program := "ytpkfenlfgdbkcaagreatdoor", sum := "4f116572d6be34ed1c80162b258b2c4e8e52a1e6219f2aecaac0bbd3e6da9d29", func := "refmesh/refmeshlaw59.PathsSpoilt", spec := "pathsSpoilt", unfollowed := true, recurses := true, named := ["internal/strconv.uint64pow10", "math/bits.deBruijn32tab", "math/bits.deBruijn64tab"], plainKeys := false, apart := false, laid := [("math/bits.deBruijn32tab", laid_math_bits_deBruijn32tab), ("math/bits.deBruijn64tab", laid_math_bits_deBruijn64tab), ("internal/strconv.uint64pow10", laid_internal_strconv_uint64pow10)], narrowed := true }
def PathsSpoiltUptoSaid : Prop := pathsSpoiltUptoRow.holds Tryz.pinned (OpenSpec.upto pathsSpoiltSpec)

/-- 'refmeshlaw59.PathsReach', WHERE WHAT IT READS IS OF BULK AT MOST 1048576: true; the input reads as it did. -/
def pathsReachUptoRow : OpenClaim := { program := "ytpkfenlfgdbkcaagreatdoor", sum := "4f116572d6be34ed1c80162b258b2c4e8e52a1e6219f2aecaac0bbd3e6da9d29", func := "refmesh/refmeshlaw59.PathsReach", spec := "pathsReach", unfollowed := true, recurses := true, named := ["internal/strconv.uint64pow10", "math/bits.deBruijn32tab", "math/bits.deBruijn64tab"], plainKeys := false, apart := false, laid := [("math/bits.deBruijn32tab", laid_math_bits_deBruijn32tab), ("math/bits.deBruijn64tab", laid_math_bits_deBruijn64tab), ("internal/strconv.uint64pow10", laid_internal_strconv_uint64pow10)], narrowed := true }
def PathsReachUptoSaid : Prop := pathsReachUptoRow.holds Tryz.pinned (OpenSpec.upto pathsReachSpec)

end Rows
end Go.Proofs.YtpkfenlfgdbkcaaGreatDoor
