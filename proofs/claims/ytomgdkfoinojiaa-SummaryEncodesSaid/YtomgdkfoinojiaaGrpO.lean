/-
  Small texts of this seat, put into one. Conditions stand in each theorem.
-/
import Derived.Test.YtomgdkfoinojiaaGrpC
import Derived.Laws.BytesString
import Derived.Laws.Cells
set_option linter.unusedSimpArgs false
set_option linter.unusedVariables false
namespace Go.Proofs.Ytomgdkfoinojiaa
open Go.RowKit
def strB (q : List Int) : ByteArray := q.foldl (fun r n => r.push (UInt8.ofNat n.toNat)) ByteArray.empty
theorem flat_u8 : ∀ (q : List Int), q.flatMap U8.cells = q.map (Value.int .u8)
  | [] => rfl
  | x :: q => by rw [List.flatMap_cons, flat_u8 q]; rfl
theorem conv_bytes (A : Option Addr) (c : Nat) (q : List Int) (w : World) (hs : SlAt U8.cells 1 w A q) : (convert 71 9 (.slice A q.length c)).run Try.prog w = .ok (.string (strB q)) w := by
  rw [run_convert_bytes_string w 71 9 5 A q.length c Try.underlying71 Try.underlying5 Try.underlying9]
  cases A with
  | none =>
    have hq : q = [] := by
      by_cases h : q = []
      · exact h
      · obtain ⟨b, off, e, _⟩ := hs h; cases e
    subst hq; rfl
  | some a =>
    refine run_bytesToString w a q.length c q ?_
    have hc : ∀ j v, (q.map (Value.int .u8))[j]? = some v → w.cell? (a.add j) = some v := by
      intro j v hv
      have hne : q ≠ [] := by rintro rfl; simp at hv
      obtain ⟨b, off, e, _, h⟩ := U8.enc.flat hs hne
      injection e with e
      rw [e]
      exact h j v (by rw [flat_u8]; exact hv)
    have := run_loadCells_list (P := Try.prog) (w := w) a (q.map (Value.int .u8)) hc
    rw [List.length_map] at this
    exact this
end Go.Proofs.Ytomgdkfoinojiaa

namespace Go.Proofs.Ytomgdkfoinojiaa
open Go.RowKit
def EncP (E : List Int) (w : World) (r : Ending) (w' : World) : Prop := ∃ q B d, Hid (q = E) ∧ r = .returned (.slice B q.length d) ∧ SlAt U8.cells 1 w' B q ∧ Below w.heap.size w w'
theorem conv_to (A : Option Addr) (c : Nat) (q p E : List Int) (u : World) (hs : SlAt U8.cells 1 u A q) (h1 : Hid (q = E)) (h2 : Hid (p = E)) : (convert 71 9 (.slice A q.length c)).run Try.prog u = .ok (.string (strB p)) u := (conv_bytes A c q u hs).trans (by rw [h1.out, h2.out])
end Go.Proofs.Ytomgdkfoinojiaa
