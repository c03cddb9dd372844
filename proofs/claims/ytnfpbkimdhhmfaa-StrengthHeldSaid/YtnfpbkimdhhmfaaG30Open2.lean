/-
  Contracts of the functions of this seat that each theorem names: what a call returns, and that it writes nothing that was there before. The conditions stand in each theorem.
-/
import Derived.Test.YtnfpbkimdhhmfaaG30Open
namespace Go.Proofs.Ytnfpbkimdhhmfaa
open Go.RowKit Go.WideShapes Go.ChangeShapes
set_option maxRecDepth 100000 in
theorem open_stub {H : Type} {enc : TypeId × Value → H} {w : World} {v : Value} {d : DataW H} {p : List MemPlace} {r : Go.Reach} {b0 : Nat} (hv : Value.okWide Try.prog w r b0 61 v) (h : DataW.Trod enc Try.prog w 0 (fun _ => true) true 61 v d p)
    (hw : ∀ n ∈ d.weights Try.prog 61, n ≤ reachBytes) : ∃ e : StubE, v = e.v ∧ True := by
  obtain ⟨cs, rfl, _⟩ := okWide_struct Try.underlying61 hv
  obtain ⟨x, e, _⟩ := StubE.opens.arg h hw
  exact ⟨x, agg_of e, trivial⟩
end Go.Proofs.Ytnfpbkimdhhmfaa
