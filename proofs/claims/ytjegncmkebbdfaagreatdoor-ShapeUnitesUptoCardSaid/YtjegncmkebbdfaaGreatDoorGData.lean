/-
  Contracts of the functions of this seat that each theorem names: what a call returns, and that it writes nothing that was there before. The conditions stand in each theorem.
-/
import Derived.Test.YtjegncmkebbdfaaGreatDoorGrpA
import Derived.Test.YtjegncmkebbdfaaGreatDoorRows
set_option linter.unusedSimpArgs false
set_option linter.unusedVariables false
namespace Go.Proofs.YtjegncmkebbdfaaGreatDoor
open Go.RowKit
@[ext] structure IDE where
  machine : Int
  serial : Int
def IDE.cells (e : IDE) : List Value := [.int .i64 e.machine, .int .i64 e.serial]
theorem IDE.cells_length (e : IDE) : e.cells.length = 2 := rfl
abbrev IDE.v (e : IDE) : Value := .agg #[.int .i64 e.machine, .int .i64 e.serial]
abbrev IDE.arr (e : IDE) : Array Value := #[.int .i64 e.machine, .int .i64 e.serial]
theorem IDE.facts {e : IDE} {w : World} {b off k : Nat} (h : ∀ j u, e.cells[j]? = some u → w.cell? ⟨b, off + k * 2 + j, none⟩ = some u) : w.cell? ⟨b, off + k * 2, none⟩ = some (.int .i64 e.machine) ∧ w.cell? ⟨b, off + k * 2 + 1, none⟩ = some (.int .i64 e.serial) :=
  ⟨by simpa using h 0 _ rfl, by simpa using h 1 _ rfl⟩
/-- The element lies there, in each later world. -/
abbrev IDE.Has (w : World) (b off k : Nat) (e : IDE) : Prop := ∀ (u : World) [Later w u], u.cell? ⟨b, off + k * 2, none⟩ = some (.int .i64 e.machine) ∧ u.cell? ⟨b, off + k * 2 + 1, none⟩ = some (.int .i64 e.serial)
theorem IDE.has {e : IDE} {w : World} {b off k : Nat} (hb : b < w.heap.size) (h : ∀ j u, e.cells[j]? = some u → w.cell? ⟨b, off + k * 2 + j, none⟩ = some u) : IDE.Has w b off k e := fun u i => IDE.facts fun j v hv => (i.below.cell (p := ⟨b, _, none⟩) hb).trans (h j v hv)
theorem IDE.get {w : World} {A : Option Addr} {l : List IDE} (h : SlAt IDE.cells 2 w A l) {k : Nat} (hk : k < l.length) : ∃ b off x, A = some ⟨b, off, none⟩ ∧ l[k]? = some x ∧ IDE.Has w b off k x := by
  obtain ⟨b, off, x, hA, hb, hx, hc⟩ := h.at_ hk
  exact ⟨b, off, x, hA, hx, IDE.has hb hc⟩
def IDE.beq (x y : IDE) : Bool := x.machine == y.machine && x.serial == y.serial
theorem IDE.beq_iff {x y : IDE} : x.beq y = true ↔ x = y := by
  cases x; cases y; simp [IDE.beq, Bool.and_eq_true, and_assoc]
theorem IDE.enc : Enc IDE.cells 2 := ⟨fun _ => rfl, fun x u hu => by simp only [IDE.cells, List.mem_cons, List.not_mem_nil, or_false] at hu; rcases hu with rfl | rfl <;> rfl, by decide⟩
@[ext] structure ValE where
  kind : Int
  int : Int
  refMachine : Int
  refSerial : Int
def ValE.cells (e : ValE) : List Value := [.int .i64 e.kind, .int .i64 e.int, .int .i64 e.refMachine, .int .i64 e.refSerial]
theorem ValE.cells_length (e : ValE) : e.cells.length = 4 := rfl
abbrev ValE.v (e : ValE) : Value := .agg #[.int .i64 e.kind, .int .i64 e.int, .int .i64 e.refMachine, .int .i64 e.refSerial]
abbrev ValE.arr (e : ValE) : Array Value := #[.int .i64 e.kind, .int .i64 e.int, .int .i64 e.refMachine, .int .i64 e.refSerial]
theorem ValE.facts {e : ValE} {w : World} {b off k : Nat} (h : ∀ j u, e.cells[j]? = some u → w.cell? ⟨b, off + k * 4 + j, none⟩ = some u) : w.cell? ⟨b, off + k * 4, none⟩ = some (.int .i64 e.kind) ∧ w.cell? ⟨b, off + k * 4 + 1, none⟩ = some (.int .i64 e.int) ∧ w.cell? ⟨b, off + k * 4 + 2, none⟩ = some (.int .i64 e.refMachine) ∧ w.cell? ⟨b, off + k * 4 + 3, none⟩ = some (.int .i64 e.refSerial) :=
  ⟨by simpa using h 0 _ rfl, by simpa using h 1 _ rfl, by simpa using h 2 _ rfl, by simpa using h 3 _ rfl⟩
/-- The element lies there, in each later world. -/
abbrev ValE.Has (w : World) (b off k : Nat) (e : ValE) : Prop := ∀ (u : World) [Later w u], u.cell? ⟨b, off + k * 4, none⟩ = some (.int .i64 e.kind) ∧ u.cell? ⟨b, off + k * 4 + 1, none⟩ = some (.int .i64 e.int) ∧ u.cell? ⟨b, off + k * 4 + 2, none⟩ = some (.int .i64 e.refMachine) ∧ u.cell? ⟨b, off + k * 4 + 3, none⟩ = some (.int .i64 e.refSerial)
theorem ValE.has {e : ValE} {w : World} {b off k : Nat} (hb : b < w.heap.size) (h : ∀ j u, e.cells[j]? = some u → w.cell? ⟨b, off + k * 4 + j, none⟩ = some u) : ValE.Has w b off k e := fun u i => ValE.facts fun j v hv => (i.below.cell (p := ⟨b, _, none⟩) hb).trans (h j v hv)
theorem ValE.get {w : World} {A : Option Addr} {l : List ValE} (h : SlAt ValE.cells 4 w A l) {k : Nat} (hk : k < l.length) : ∃ b off x, A = some ⟨b, off, none⟩ ∧ l[k]? = some x ∧ ValE.Has w b off k x := by
  obtain ⟨b, off, x, hA, hb, hx, hc⟩ := h.at_ hk
  exact ⟨b, off, x, hA, hx, ValE.has hb hc⟩
def ValE.beq (x y : ValE) : Bool := x.kind == y.kind && x.int == y.int && x.refMachine == y.refMachine && x.refSerial == y.refSerial
theorem ValE.beq_iff {x y : ValE} : x.beq y = true ↔ x = y := by
  cases x; cases y; simp [ValE.beq, Bool.and_eq_true, and_assoc]
theorem ValE.enc : Enc ValE.cells 4 := ⟨fun _ => rfl, fun x u hu => by simp only [ValE.cells, List.mem_cons, List.not_mem_nil, or_false] at hu; rcases hu with rfl | rfl | rfl | rfl <;> rfl, by decide⟩
instance : DecidableEq IDE := fun a b => decidable_of_iff (a.beq b = true) IDE.beq_iff
instance : DecidableEq ValE := fun a b => decidable_of_iff (a.beq b = true) ValE.beq_iff
/-- A node without its place. -/
structure NodeC where
  iDMachine : Int
  iDSerial : Int
  kind : Int
  clas : Int
  fields : List ValE
def NodeC.id (n : NodeC) : IDE := ⟨n.iDMachine, n.iDSerial⟩
/-- A node: its fields lie at A. -/
structure NodeE where
  iDMachine : Int
  iDSerial : Int
  kind : Int
  clas : Int
  A : Option Addr
  c : Nat
  fields : List ValE
def NodeE.id (n : NodeE) : IDE := ⟨n.iDMachine, n.iDSerial⟩
def NodeE.con (n : NodeE) : NodeC := ⟨n.iDMachine, n.iDSerial, n.kind, n.clas, n.fields⟩
def conL (l : List NodeE) : List NodeC := l.map NodeE.con
def ValE.ref (v : ValE) : IDE := ⟨v.refMachine, v.refSerial⟩
def NodeE.cells (n : NodeE) : List Value := [.int .i64 n.iDMachine, .int .i64 n.iDSerial, .int .i64 n.kind, .int .i64 n.clas, .slice n.A n.fields.length n.c]
abbrev NodeE.v (n : NodeE) : Value := .agg #[.int .i64 n.iDMachine, .int .i64 n.iDSerial, .int .i64 n.kind, .int .i64 n.clas, .slice n.A n.fields.length n.c]
abbrev NodeE.arr (n : NodeE) : Array Value := #[.int .i64 n.iDMachine, .int .i64 n.iDSerial, .int .i64 n.kind, .int .i64 n.clas, .slice n.A n.fields.length n.c]
theorem NodeE.enc : Enc NodeE.cells 5 := ⟨fun _ => rfl, fun x u hu => by simp only [NodeE.cells, List.mem_cons, List.not_mem_nil, or_false] at hu; rcases hu with rfl | rfl | rfl | rfl | rfl <;> rfl, by decide⟩
/-- The nodes lie at A, their fields where they say. -/
structure NodesAt (w : World) (A : Option Addr) (l : List NodeE) : Prop where
  s : SlAt NodeE.cells 5 w A l
  f : ∀ n ∈ l, SlAt ValE.cells 4 w n.A n.fields
  c : ∀ n ∈ l, n.fields.length ≤ n.c ∧ n.c ≤ maxLen
theorem NodesAt.below {w w' : World} {A : Option Addr} {l : List NodeE} (h : NodesAt w A l) (hb : Below w.heap.size w w') : NodesAt w' A l := ⟨h.s.below hb, fun n hn => (h.f n hn).below hb, h.c⟩
theorem NodesAt.later {w : World} {A : Option Addr} {l : List NodeE} (h : NodesAt w A l) : ∀ u [Later w u], NodesAt u A l := fun _ i => h.below i.below
/-- The cells of a node, in each later world. -/
theorem NodesAt.get {w : World} {A : Option Addr} {l : List NodeE} (h : NodesAt w A l) {k : Nat} (hk : k < l.length) : ∃ b o n, A = some ⟨b, o, none⟩ ∧ l[k]? = some n ∧ (∀ u [Later w u], u.cell? ⟨b, o + k * 5, none⟩ = some (.int .i64 n.iDMachine) ∧ u.cell? ⟨b, o + k * 5 + 1, none⟩ = some (.int .i64 n.iDSerial) ∧ u.cell? ⟨b, o + k * 5 + 2, none⟩ = some (.int .i64 n.kind) ∧ u.cell? ⟨b, o + k * 5 + 3, none⟩ = some (.int .i64 n.clas) ∧ u.cell? ⟨b, o + k * 5 + 4, none⟩ = some (.slice n.A n.fields.length n.c)) ∧ (∀ u [Later w u], SlAt ValE.cells 4 u n.A n.fields) ∧ n.fields.length ≤ n.c ∧ n.c ≤ maxLen := by
  obtain ⟨b, o, n, hA, _, hn, hc⟩ := h.s.at_ hk
  refine ⟨b, o, n, hA, hn, fun u i => ⟨?_, ?_, ?_, ?_, ?_⟩, fun u i => (h.f n (List.mem_of_getElem? hn)).below i.below, (h.c n (List.mem_of_getElem? hn)).1, (h.c n (List.mem_of_getElem? hn)).2⟩
  · exact cell_below (hc 0 _ rfl) i.below
  · exact cell_below (hc 1 _ rfl) i.below
  · exact cell_below (hc 2 _ rfl) i.below
  · exact cell_below (hc 3 _ rfl) i.below
  · exact cell_below (hc 4 _ rfl) i.below
end Go.Proofs.YtjegncmkebbdfaaGreatDoor
