/-
  Contracts of the functions of this seat that each theorem names: what a call returns, and that it writes nothing that was there before. The conditions stand in each theorem.
-/
import Derived.Test.YtjegncmkebbdfaaGreatDoorGWalk2
import Derived.Test.YtjegncmkebbdfaaGreatDoorGFind
import Derived.Test.YtjegncmkebbdfaaGreatDoorOwnLib
import Derived.Deep.RegionHeld3
set_option linter.unusedSimpArgs false
set_option linter.unusedVariables false
namespace Go.Proofs.YtjegncmkebbdfaaGreatDoor
open Go.RowKit
attribute [local go_sem ↓] run_eql_id run_neq_id
attribute [local simp] heap_drew
def lenV (v : Value) : Nat := match v with | .slice _ n _ => n | _ => 0
/-- What the first k fields of a node refer to. -/
def refsTo (n : List ValE) (k : Nat) : List IDE := ((n.take k).filter fun v => v.kind == 2).map ValE.ref
theorem refsTo_succ {n : List ValE} {k : Nat} {v : ValE} (h : n[k]? = some v) : refsTo n (k + 1) = refsTo n k ++ (if v.kind = 2 then [v.ref] else []) := by
  unfold refsTo
  rw [take_snoc_get h, List.filter_append, List.map_append]
  by_cases hk : v.kind = 2 <;> simp [hk]
theorem refsTo_len (n : List ValE) (k : Nat) : (refsTo n k).length ≤ k := by
  unfold refsTo
  rw [List.length_map]
  exact Nat.le_trans (List.length_filter_le _ _) (by rw [List.length_take]; omega)
theorem refsTo_all {n : NodeC} (h : n.kind ≠ 2) : refsTo n.fields n.fields.length = refsOf n := by
  unfold refsTo refsOf
  rw [if_neg h, List.take_length]
/-- What a search gives: the reached identities, in a slice of the call's own. -/
def ReachPost (L : List NodeC) (roots : List IDE) (w : World) (r : Ending) (w' : World) : Prop := ∃ q A c, ReachL L roots q ∧ r = .returned (.slice A q.length c) ∧ Own IDE.cells 2 44 w.heap.size w' (.slice A q.length c) q ∧ Below w.heap.size w w'
theorem reach_in {L : List NodeC} {roots O T : List IDE} (h : DInv L roots O T) : ∀ x ∈ O, x ∈ ids L := fun x hx => firstN_ids.1 (h.sound x hx).node
theorem putI_new {l : List IDE} {x : IDE} (h : x ∉ l) : (putI l x).length = l.length + 1 := by
  unfold putI
  have := cntI_le x l
  rw [if_neg (fun e => h (List.mem_of_getElem? e))]
  simp only [List.length_append, List.length_take, List.length_drop, List.length_singleton]; omega
theorem drop_app {α : Type} {T R : List α} {i : Nat} (h : i ≤ T.length) (y : α) : y ∈ (T ++ R).drop i ↔ y ∈ T.drop i ∨ y ∈ R := by
  rw [List.drop_append_of_le_length h, List.mem_append]
theorem refsTo_zero (n : List ValE) : refsTo n 0 = [] := rfl
/-! The visit is over. -/
/-! The search visits x (node m), whose box is g; w8 the world. -/
end Go.Proofs.YtjegncmkebbdfaaGreatDoor
