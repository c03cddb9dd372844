/-
  Contracts of the functions of this seat that each theorem names: what a call returns, and that it writes nothing that was there before. The conditions stand in each theorem.
-/
import Derived.Test.YtgddapgdeaeggaaGrpC
import Derived.Laws.BytesString
import Derived.Laws.Cells
namespace Go.Proofs.Ytgddapgdeaeggaa
open Go.RowKit
def strB (q : List Int) : ByteArray := q.foldl (fun r n => r.push (UInt8.ofNat n.toNat)) ByteArray.empty
theorem flat_u8 : ∀ (q : List Int), q.flatMap U8.cells = q.map (Value.int .u8)
  | [] => rfl
  | x :: q => by rw [List.flatMap_cons, flat_u8 q]; rfl
theorem conv_bytes (A : Option Addr) (c : Nat) (q : List Int) (w : World) (hs : SlAt U8.cells 1 w A q) : (convert 55 9 (.slice A q.length c)).run Try.prog w = .ok (.string (strB q)) w := by
  rw [run_convert_bytes_string w 55 9 5 A q.length c Try.underlying55 Try.underlying5 Try.underlying9]
  cases A with
  | none =>
    have hq : q = [] := by
      by_cases h : q = []
      · exact h
      · obtain ⟨b, off, e, _⟩ := hs h; cases e
    subst hq; rfl
  | some a =>
    refine run_bytesToString w a q.length c q ?_
    have hc : ∀ j v, (q.map (Value.int .u8))[j]? = some v → w.cell? (a.add j) = some v := by
      intro j v hv
      have hne : q ≠ [] := by rintro rfl; simp at hv
      obtain ⟨b, off, e, _, h⟩ := U8.enc.flat hs hne
      injection e with e
      rw [e]
      exact h j v (by rw [flat_u8]; exact hv)
    have := run_loadCells_list (P := Try.prog) (w := w) a (q.map (Value.int .u8)) hc
    rw [List.length_map] at this
    exact this
end Go.Proofs.Ytgddapgdeaeggaa
