/-
  Contracts of the functions of this seat that each theorem names: what a call returns, and that it writes nothing that was there before. The conditions stand in each theorem.
-/
import Derived.Test.YtjegncmkebbdfaaGreatDoorGrp66
import Derived.Test.YtjegncmkebbdfaaGreatDoorGSet
set_option linter.unusedSimpArgs false
set_option linter.unusedVariables false
namespace Go.Proofs.YtjegncmkebbdfaaGreatDoor
open Go.RowKit
attribute [local go_sem ↓] run_eql_id run_neq_id
attribute [local simp] heap_drew
/-- A graph of the call's own: nodes and their fields. -/
structure OwnG (base : Nat) (w : World) (A : Option Addr) (c : Nat) (o : List NodeE) : Prop where
  s : Own NodeE.cells 5 51 base w (.slice A o.length c) o
  f : ∀ m ∈ o, Own ValE.cells 4 46 base w (.slice m.A m.fields.length m.c) m.fields
  c : ∀ m ∈ o, m.fields.length ≤ m.c ∧ m.c ≤ maxLen
theorem OwnG.below {base : Nat} {w w' : World} {A : Option Addr} {c : Nat} {o : List NodeE} (h : OwnG base w A c o) (hb : Below w.heap.size w w') : OwnG base w' A c o := ⟨h.s.below hb, fun m hm => (h.f m hm).below hb, h.c⟩
theorem OwnG.nil {base : Nat} {w : World} : OwnG base w none 0 [] := ⟨Own.nil, (fun m hm => by cases hm), (fun m hm => by cases hm)⟩
theorem OwnG.nodes {base : Nat} {w : World} {A : Option Addr} {c : Nat} {o : List NodeE} (h : OwnG base w A c o) : NodesAt w A o := ⟨(h.s.at_ NodeE.enc).2.2, fun m hm => ((h.f m hm).at_ ValE.enc).2.2, h.c⟩
/-- A store into a block of another type. -/
theorem OwnG.set {base : Nat} {w : World} {A : Option Addr} {c : Nat} {o : List NodeE} (h : OwnG base w A c o) {g : Nat} {cs : Array Value} {fr : Nat × Nat} (hg : w.heap[g]? = some (.cells cs 27 fr)) (i : Nat) (v : Value) : OwnG base (w.setCell ⟨g, i, none⟩ v) A c o :=
  ⟨h.s.far (p := ⟨g, i, none⟩) (own_off h.s hg (by decide)) v, fun m hm => (h.f m hm).far (p := ⟨g, i, none⟩) (own_off (h.f m hm) hg (by decide)) v, h.c⟩
theorem OwnG.putMap {base : Nat} {w : World} {A : Option Addr} {c : Nat} {o : List NodeE} (h : OwnG base w A c o) {g : Nat} {O : Obj} (hg : g < base) : OwnG base (putAt w g O) A c o :=
  ⟨h.s.putAt (fun e => absurd (World.ownsRow.lt h.s g e).1 (by omega)), fun m hm => (h.f m hm).putAt (fun e => absurd (World.ownsRow.lt (h.f m hm) g e).1 (by omega)), h.c⟩
theorem con_at (n : NodeE) (A : Option Addr) (c : Nat) : (nodeAt n A c).con = n.con := rfl
theorem conL_snoc (o : List NodeE) (n : NodeE) (A : Option Addr) (c : Nat) : conL (o ++ [nodeAt n A c]) = conL o ++ [n.con] := by unfold conL; rw [List.map_append]; rfl
def RestrSPost (l : List NodeE) (ks : List IDE) (w : World) (r : Ending) (w' : World) : Prop := ∃ o OA OC, Hid (conL o = restr (conL l) ks) ∧ r = .returned (.agg #[.slice OA o.length OC]) ∧ OwnG w.heap.size w' OA OC o ∧ Below w.heap.size w w'
end Go.Proofs.YtjegncmkebbdfaaGreatDoor
