/-
  Contracts of the functions of this seat that each theorem names: what a call returns, and that it writes nothing that was there before. The conditions stand in each theorem.
-/
import Derived.Test.YtgddapgdeaeggaaC23Open
import Derived.Test.YtgddapgdeaeggaaGrpC
namespace Go.Proofs.Ytgddapgdeaeggaa
open Go.RowKit Go.WideShapes Go.ChangeShapes
theorem cellsOf_55 : Try.prog.cellsOf 55 = 1 := by kernel_rfl
set_option maxRecDepth 100000 in
theorem open_bytes {H : Type} {enc : TypeId × Value → H} {w : World} {v : Value} {d : DataW H} {p : List MemPlace} {r : Reach} {b0 : Nat} (hv : Value.okWide Try.prog w r b0 55 v) (h : DataW.Trod enc Try.prog w 0 (fun _ => true) true 55 v d p)
    (hw : ∀ n ∈ d.weights Try.prog 55, n ≤ reachBytes) : ∃ (A : Option Addr) (c : Nat) (l : List Int), v = .slice A l.length c ∧ SlIn U8.cells 1 1 (fun _ n => (Lit.int .u8 n).wf = true) w A c l :=
  open_sl (f := U8.cells) (G := fun _ n => (Lit.int .u8 n).wf = true) Try.underlying55 (opens_slice (f := U8.cells) Try.underlying55 (by kernel_rfl : Try.prog.cellsOf 5 = 1) (by kernel_rfl : Try.prog.bytesOf 5 = 1) (opens_int Try.underlying5) (by decide) (fun _ => rfl)) hv h hw
theorem bytes_wf {l : List Int} (h : ∀ n ∈ l, (Lit.int .u8 n).wf = true) : ∀ x ∈ l, 0 ≤ x ∧ x < 256 := fun x hx => by have := wf_u8 (h x hx); omega
end Go.Proofs.Ytgddapgdeaeggaa
