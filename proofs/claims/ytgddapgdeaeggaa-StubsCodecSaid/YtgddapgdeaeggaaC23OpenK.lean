/-
  Contracts of the functions of this seat that each theorem names: what a call returns, and that it writes nothing that was there before. The conditions stand in each theorem.
-/
import Derived.Test.YtgddapgdeaeggaaC23Open
import Derived.Test.YtgddapgdeaeggaaC23LawK
namespace Go.Proofs.Ytgddapgdeaeggaa
open Go.RowKit Go.WideShapes Go.ChangeShapes
theorem rngC_wf {c : CallE} (h : c.wf) : RngC c := by
  obtain ⟨h0, h1, h2, h3, h4, h5, h6, h7, h8, h9, h10⟩ := h
  have a2 := wf_u64 h2
  have a6 := wf_i64 h6
  have a7 := wf_i64 h7
  have a9 := wf_i64 h9
  have a10 := wf_i64 h10
  unfold RngC RngE CallE.ent
  simp only
  omega
end Go.Proofs.Ytgddapgdeaeggaa
