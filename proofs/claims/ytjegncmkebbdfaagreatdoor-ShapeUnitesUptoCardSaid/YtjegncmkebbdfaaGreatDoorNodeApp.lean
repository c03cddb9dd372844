/-
  Contracts of the functions of this seat that each theorem names: what a call returns, and that it writes nothing that was there before. The conditions stand in each theorem.
-/
import Derived.Test.YtjegncmkebbdfaaGreatDoorInvAp
import Derived.Test.YtjegncmkebbdfaaGreatDoorGFind2
set_option linter.unusedSimpArgs false
set_option linter.unusedVariables false
namespace Go.Proofs.YtjegncmkebbdfaaGreatDoor
open Go.RowKit
theorem nodeT : ElemT Tryz.prog 25 51 5 56 := ElemT.mk' (z := .agg #[.int .i64 0, .int .i64 0, .int .i64 0, .int .i64 0, .slice none 0 0]) Tryz.underlying25 (by kernel_rfl) rfl
abbrev nodeArr (n : NodeE) (A : Option Addr) (c : Nat) : Array Value := #[.int .i64 n.iDMachine, .int .i64 n.iDSerial, .int .i64 n.kind, .int .i64 n.clas, .slice A n.fields.length c]
/-- A node whose fields were copied to A. -/
abbrev nodeAt (n : NodeE) (A : Option Addr) (c : Nat) : NodeE := ⟨n.iDMachine, n.iDSerial, n.kind, n.clas, A, c, n.fields⟩
def SpecA.nodeBlk {B : Nat} {row : Option Nat} (hrow : ∀ k, row = some k → k < B) (n : NodeE) : SpecA B row :=
  ⟨fun v w => ∃ A c g, B ≤ g ∧ v = .slice (some ⟨g, 0, none⟩) 1 1 ∧ w.heap[g]? = some (.cells (nodeArr n A c) 51 (0, 0)) ∧ n.fields.length ≤ c ∧ c ≤ maxLen ∧ Own ValE.cells 4 46 B w (.slice A n.fields.length c) n.fields,
    fun v w w' hB hg ⟨A, c, g, h0, h1, h2, h3, h4, h5⟩ => ⟨A, c, g, h0, h1, grown_blk hrow h0 h2 hg, h3, h4, h5.kept hg (by
      cases hv : (Value.slice A n.fields.length c).ownBlock with
      | none => exact .inl rfl
      | some k => exact .inr fun e1 => absurd (hrow k e1.symm) (Nat.not_lt.2 (World.ownsRow.lt h5 k hv).1))⟩⟩
/-- The own list of nodes before and behind the append. -/
def appJ (base : Nat) (o : List NodeE) (n : NodeE) (OA : Option Addr) (OC : Nat) (b : Bool) (v : Value) (u : World) : Prop :=
  match b with
  | true => ∃ A c A' c', v = .slice A' (o.length + 1) c' ∧ Own NodeE.cells 5 51 base u (.slice A' (o.length + 1) c') (o ++ [nodeAt n A c]) ∧ (∀ m ∈ o ++ [nodeAt n A c], Own ValE.cells 4 46 base u (.slice m.A m.fields.length m.c) m.fields) ∧ n.fields.length ≤ c ∧ c ≤ maxLen
  | false => Own NodeE.cells 5 51 base u (.slice OA o.length OC) o ∧ ∀ m ∈ o, Own ValE.cells 4 46 base u (.slice m.A m.fields.length m.c) m.fields
theorem appJ_mono (base : Nat) (o : List NodeE) (n : NodeE) (OA : Option Addr) (OC : Nat) : ∀ b v w w', Later w w' → appJ base o n OA OC b v w → appJ base o n OA OC b v w' := fun b v w w' l h => by
  cases b with
  | true =>
    obtain ⟨A, c, A', c', h1, h2, h3, h4⟩ := h
    exact ⟨A, c, A', c', h1, h2.below l.below, fun m hm => (h3 m hm).below l.below, h4⟩
  | false => exact ⟨h.1.below l.below, fun m hm => (h.2 m hm).below l.below⟩
theorem appJ_start {base : Nat} {o : List NodeE} {n : NodeE} {OA : Option Addr} {OC : Nat} {w w' : World} (h1 : Own NodeE.cells 5 51 base w (.slice OA o.length OC) o) (h2 : ∀ m ∈ o, Own ValE.cells 4 46 base w (.slice m.A m.fields.length m.c) m.fields) (hb : Below w.heap.size w w') {v : Value} :
    appJ base o n OA OC false v w' := ⟨h1.below hb, fun m hm => (h2 m hm).below hb⟩
theorem appJ_done {base B : Nat} {o : List NodeE} {n : NodeE} {OA A A' : Option Addr} {OC c c' : Nat} {u u' : World} (h1 : Own NodeE.cells 5 51 base u (.slice OA o.length OC) o) (h2 : ∀ m ∈ o, Own ValE.cells 4 46 base u (.slice m.A m.fields.length m.c) m.fields)
    (h3 : Own ValE.cells 4 46 B u (.slice A n.fields.length c) n.fields) (hc1 : n.fields.length ≤ c) (hc2 : c ≤ maxLen) (hB : base ≤ B) (ho : Own NodeE.cells 5 51 base u' (.slice A' (o.length + 1) c') (o ++ [nodeAt n A c])) (hst : Step u u' (.slice OA o.length OC) (.slice A' (o.length + 1) c')) :
    appJ base o n OA OC true (.slice A' (o.length + 1) c') u' := by
  have hne : (51 : TypeId) ≠ 46 := by decide
  refine ⟨A, c, A', c', rfl, ho, fun m hm => ?_, hc1, hc2⟩
  rcases List.mem_append.1 hm with hm | hm
  · exact (hst.own (h2 m hm) (own_apart h1 (h2 m hm) hne)).1
  · rw [List.mem_singleton] at hm
    subst hm
    have h4 := h3.mono hB
    exact (hst.own h4 (own_apart h1 h4 hne)).1
end Go.Proofs.YtjegncmkebbdfaaGreatDoor
