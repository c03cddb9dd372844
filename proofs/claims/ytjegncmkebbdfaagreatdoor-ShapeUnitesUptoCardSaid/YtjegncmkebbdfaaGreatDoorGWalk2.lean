/-
  Contracts of the functions of this seat that each theorem names: what a call returns, and that it writes nothing that was there before. The conditions stand in each theorem.
-/
import Derived.Test.YtjegncmkebbdfaaGreatDoorGWalk1
import Derived.Deep.RegionHeld3
set_option linter.unusedSimpArgs false
set_option linter.unusedVariables false
namespace Go.Proofs.YtjegncmkebbdfaaGreatDoor
open Go.RowKit
attribute [local go_sem ↓] run_eql_id run_neq_id
attribute [local simp] heap_drew
/-- What putID gives: the list itself, or a new one. -/
def PutPost (A0 : Option Addr) (c0 : Nat) (es s : List IDE) (w : World) (r : Ending) (w' : World) : Prop := ∃ q A c, Hid (q = s) ∧ r = .returned (.slice A q.length c) ∧ ((A = A0 ∧ c = c0 ∧ q = es) ∨ Own IDE.cells 2 44 w.heap.size w' (.slice A q.length c) q) ∧ Below w.heap.size w w'
theorem Own.cap_le {α : Type} {f : α → List Value} {s : Nat} {e : TypeId} {base : Nat} {w : World} {A : Option Addr} {n c : Nat} {l : List α} (h : Own f s e base w (.slice A n c) l) : c ≤ maxLen := by
  rcases h.form with ⟨h0, _⟩ | ⟨g, cap, hv, _, _, _, hm⟩
  · injection h0 with _ _ h; rw [h]; simp
  · injection hv with _ _ h; rw [h]; exact hm
end Go.Proofs.YtjegncmkebbdfaaGreatDoor
