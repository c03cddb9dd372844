/-
  The data of chapter 25 as plain Lean structures. No condition.
-/
import Derived.Test.YthigjlllhnajbaaGrpA
namespace Go.Proofs.Ythigjlllhnajbaa
open Go.RowKit
@[ext] structure IDE where
  machine : Int
  serial : Int
def IDE.cells (e : IDE) : List Value := [.int .i64 e.machine, .int .i64 e.serial]
theorem IDE.cells_length (e : IDE) : e.cells.length = 2 := rfl
abbrev IDE.v (e : IDE) : Value := .agg #[.int .i64 e.machine, .int .i64 e.serial]
abbrev IDE.arr (e : IDE) : Array Value := #[.int .i64 e.machine, .int .i64 e.serial]
theorem IDE.facts {e : IDE} {w : World} {b off k : Nat} (h : ∀ j u, e.cells[j]? = some u → w.cell? ⟨b, off + k * 2 + j, none⟩ = some u) : w.cell? ⟨b, off + k * 2, none⟩ = some (.int .i64 e.machine) ∧ w.cell? ⟨b, off + k * 2 + 1, none⟩ = some (.int .i64 e.serial) :=
  ⟨by simpa using h 0 _ rfl, by simpa using h 1 _ rfl⟩
/-- The element lies there, in each later world. -/
abbrev IDE.Has (w : World) (b off k : Nat) (e : IDE) : Prop := ∀ (u : World) [Later w u], u.cell? ⟨b, off + k * 2, none⟩ = some (.int .i64 e.machine) ∧ u.cell? ⟨b, off + k * 2 + 1, none⟩ = some (.int .i64 e.serial)
theorem IDE.has {e : IDE} {w : World} {b off k : Nat} (hb : b < w.heap.size) (h : ∀ j u, e.cells[j]? = some u → w.cell? ⟨b, off + k * 2 + j, none⟩ = some u) : IDE.Has w b off k e := fun u i => IDE.facts fun j v hv => (i.below.cell (p := ⟨b, _, none⟩) hb).trans (h j v hv)
theorem IDE.get {w : World} {A : Option Addr} {l : List IDE} (h : SlAt IDE.cells 2 w A l) {k : Nat} (hk : k < l.length) : ∃ b off x, A = some ⟨b, off, none⟩ ∧ l[k]? = some x ∧ IDE.Has w b off k x := by
  obtain ⟨b, off, x, hA, hb, hx, hc⟩ := h.at_ hk
  exact ⟨b, off, x, hA, hx, IDE.has hb hc⟩
def IDE.beq (x y : IDE) : Bool := x.machine == y.machine && x.serial == y.serial
theorem IDE.beq_iff {x y : IDE} : x.beq y = true ↔ x = y := by
  cases x; cases y; simp [IDE.beq, Bool.and_eq_true, and_assoc]
theorem IDE.enc : Enc IDE.cells 2 := ⟨fun _ => rfl, fun x u hu => by simp only [IDE.cells, List.mem_cons, List.not_mem_nil, or_false] at hu; rcases hu with rfl | rfl <;> rfl, by decide⟩
@[ext] structure ListedE where
  number : Int
  distance : Int
  weak : Bool
def ListedE.cells (e : ListedE) : List Value := [.int .u64 e.number, .int .i64 e.distance, .bool e.weak]
theorem ListedE.cells_length (e : ListedE) : e.cells.length = 3 := rfl
abbrev ListedE.v (e : ListedE) : Value := .agg #[.int .u64 e.number, .int .i64 e.distance, .bool e.weak]
abbrev ListedE.arr (e : ListedE) : Array Value := #[.int .u64 e.number, .int .i64 e.distance, .bool e.weak]
theorem ListedE.facts {e : ListedE} {w : World} {b off k : Nat} (h : ∀ j u, e.cells[j]? = some u → w.cell? ⟨b, off + k * 3 + j, none⟩ = some u) : w.cell? ⟨b, off + k * 3, none⟩ = some (.int .u64 e.number) ∧ w.cell? ⟨b, off + k * 3 + 1, none⟩ = some (.int .i64 e.distance) ∧ w.cell? ⟨b, off + k * 3 + 2, none⟩ = some (.bool e.weak) :=
  ⟨by simpa using h 0 _ rfl, by simpa using h 1 _ rfl, by simpa using h 2 _ rfl⟩
/-- The element lies there, in each later world. -/
abbrev ListedE.Has (w : World) (b off k : Nat) (e : ListedE) : Prop := ∀ (u : World) [Later w u], u.cell? ⟨b, off + k * 3, none⟩ = some (.int .u64 e.number) ∧ u.cell? ⟨b, off + k * 3 + 1, none⟩ = some (.int .i64 e.distance) ∧ u.cell? ⟨b, off + k * 3 + 2, none⟩ = some (.bool e.weak)
theorem ListedE.has {e : ListedE} {w : World} {b off k : Nat} (hb : b < w.heap.size) (h : ∀ j u, e.cells[j]? = some u → w.cell? ⟨b, off + k * 3 + j, none⟩ = some u) : ListedE.Has w b off k e := fun u i => ListedE.facts fun j v hv => (i.below.cell (p := ⟨b, _, none⟩) hb).trans (h j v hv)
theorem ListedE.get {w : World} {A : Option Addr} {l : List ListedE} (h : SlAt ListedE.cells 3 w A l) {k : Nat} (hk : k < l.length) : ∃ b off x, A = some ⟨b, off, none⟩ ∧ l[k]? = some x ∧ ListedE.Has w b off k x := by
  obtain ⟨b, off, x, hA, hb, hx, hc⟩ := h.at_ hk
  exact ⟨b, off, x, hA, hx, ListedE.has hb hc⟩
def ListedE.beq (x y : ListedE) : Bool := x.number == y.number && x.distance == y.distance && x.weak == y.weak
theorem ListedE.beq_iff {x y : ListedE} : x.beq y = true ↔ x = y := by
  cases x; cases y; simp [ListedE.beq, Bool.and_eq_true, and_assoc]
theorem ListedE.enc : Enc ListedE.cells 3 := ⟨fun _ => rfl, fun x u hu => by simp only [ListedE.cells, List.mem_cons, List.not_mem_nil, or_false] at hu; rcases hu with rfl | rfl | rfl <;> rfl, by decide⟩
@[ext] structure StubE where
  owner : Int
  number : Int
  iDMachine : Int
  iDSerial : Int
  clas : Int
  lastUse : Int
  distance : Int
  touched : Bool
  weak : Bool
  dead : Bool
  lockMachine : Int
  lockSerial : Int
def StubE.cells (e : StubE) : List Value := [.int .i64 e.owner, .int .u64 e.number, .int .i64 e.iDMachine, .int .i64 e.iDSerial, .int .i64 e.clas, .int .i64 e.lastUse, .int .i64 e.distance, .bool e.touched, .bool e.weak, .bool e.dead, .int .i64 e.lockMachine, .int .i64 e.lockSerial]
theorem StubE.cells_length (e : StubE) : e.cells.length = 12 := rfl
abbrev StubE.v (e : StubE) : Value := .agg #[.int .i64 e.owner, .int .u64 e.number, .int .i64 e.iDMachine, .int .i64 e.iDSerial, .int .i64 e.clas, .int .i64 e.lastUse, .int .i64 e.distance, .bool e.touched, .bool e.weak, .bool e.dead, .int .i64 e.lockMachine, .int .i64 e.lockSerial]
abbrev StubE.arr (e : StubE) : Array Value := #[.int .i64 e.owner, .int .u64 e.number, .int .i64 e.iDMachine, .int .i64 e.iDSerial, .int .i64 e.clas, .int .i64 e.lastUse, .int .i64 e.distance, .bool e.touched, .bool e.weak, .bool e.dead, .int .i64 e.lockMachine, .int .i64 e.lockSerial]
theorem StubE.facts {e : StubE} {w : World} {b off k : Nat} (h : ∀ j u, e.cells[j]? = some u → w.cell? ⟨b, off + k * 12 + j, none⟩ = some u) : w.cell? ⟨b, off + k * 12, none⟩ = some (.int .i64 e.owner) ∧ w.cell? ⟨b, off + k * 12 + 1, none⟩ = some (.int .u64 e.number) ∧ w.cell? ⟨b, off + k * 12 + 2, none⟩ = some (.int .i64 e.iDMachine) ∧ w.cell? ⟨b, off + k * 12 + 3, none⟩ = some (.int .i64 e.iDSerial) ∧ w.cell? ⟨b, off + k * 12 + 4, none⟩ = some (.int .i64 e.clas) ∧ w.cell? ⟨b, off + k * 12 + 5, none⟩ = some (.int .i64 e.lastUse) ∧ w.cell? ⟨b, off + k * 12 + 6, none⟩ = some (.int .i64 e.distance) ∧ w.cell? ⟨b, off + k * 12 + 7, none⟩ = some (.bool e.touched) ∧ w.cell? ⟨b, off + k * 12 + 8, none⟩ = some (.bool e.weak) ∧ w.cell? ⟨b, off + k * 12 + 9, none⟩ = some (.bool e.dead) ∧ w.cell? ⟨b, off + k * 12 + 10, none⟩ = some (.int .i64 e.lockMachine) ∧ w.cell? ⟨b, off + k * 12 + 11, none⟩ = some (.int .i64 e.lockSerial) :=
  ⟨by simpa using h 0 _ rfl, by simpa using h 1 _ rfl, by simpa using h 2 _ rfl, by simpa using h 3 _ rfl, by simpa using h 4 _ rfl, by simpa using h 5 _ rfl, by simpa using h 6 _ rfl, by simpa using h 7 _ rfl, by simpa using h 8 _ rfl, by simpa using h 9 _ rfl, by simpa using h 10 _ rfl, by simpa using h 11 _ rfl⟩
/-- The element lies there, in each later world. -/
abbrev StubE.Has (w : World) (b off k : Nat) (e : StubE) : Prop := ∀ (u : World) [Later w u], u.cell? ⟨b, off + k * 12, none⟩ = some (.int .i64 e.owner) ∧ u.cell? ⟨b, off + k * 12 + 1, none⟩ = some (.int .u64 e.number) ∧ u.cell? ⟨b, off + k * 12 + 2, none⟩ = some (.int .i64 e.iDMachine) ∧ u.cell? ⟨b, off + k * 12 + 3, none⟩ = some (.int .i64 e.iDSerial) ∧ u.cell? ⟨b, off + k * 12 + 4, none⟩ = some (.int .i64 e.clas) ∧ u.cell? ⟨b, off + k * 12 + 5, none⟩ = some (.int .i64 e.lastUse) ∧ u.cell? ⟨b, off + k * 12 + 6, none⟩ = some (.int .i64 e.distance) ∧ u.cell? ⟨b, off + k * 12 + 7, none⟩ = some (.bool e.touched) ∧ u.cell? ⟨b, off + k * 12 + 8, none⟩ = some (.bool e.weak) ∧ u.cell? ⟨b, off + k * 12 + 9, none⟩ = some (.bool e.dead) ∧ u.cell? ⟨b, off + k * 12 + 10, none⟩ = some (.int .i64 e.lockMachine) ∧ u.cell? ⟨b, off + k * 12 + 11, none⟩ = some (.int .i64 e.lockSerial)
theorem StubE.has {e : StubE} {w : World} {b off k : Nat} (hb : b < w.heap.size) (h : ∀ j u, e.cells[j]? = some u → w.cell? ⟨b, off + k * 12 + j, none⟩ = some u) : StubE.Has w b off k e := fun u i => StubE.facts fun j v hv => (i.below.cell (p := ⟨b, _, none⟩) hb).trans (h j v hv)
theorem StubE.get {w : World} {A : Option Addr} {l : List StubE} (h : SlAt StubE.cells 12 w A l) {k : Nat} (hk : k < l.length) : ∃ b off x, A = some ⟨b, off, none⟩ ∧ l[k]? = some x ∧ StubE.Has w b off k x := by
  obtain ⟨b, off, x, hA, hb, hx, hc⟩ := h.at_ hk
  exact ⟨b, off, x, hA, hx, StubE.has hb hc⟩
def StubE.beq (x y : StubE) : Bool := x.owner == y.owner && x.number == y.number && x.iDMachine == y.iDMachine && x.iDSerial == y.iDSerial && x.clas == y.clas && x.lastUse == y.lastUse && x.distance == y.distance && x.touched == y.touched && x.weak == y.weak && x.dead == y.dead && x.lockMachine == y.lockMachine && x.lockSerial == y.lockSerial
theorem StubE.beq_iff {x y : StubE} : x.beq y = true ↔ x = y := by
  cases x; cases y; simp [StubE.beq, Bool.and_eq_true, and_assoc]
theorem StubE.enc : Enc StubE.cells 12 := ⟨fun _ => rfl, fun x u hu => by simp only [StubE.cells, List.mem_cons, List.not_mem_nil, or_false] at hu; rcases hu with rfl | rfl | rfl | rfl | rfl | rfl | rfl | rfl | rfl | rfl | rfl | rfl <;> rfl, by decide⟩
@[ext] structure ScionE where
  client : Int
  number : Int
  iDMachine : Int
  iDSerial : Int
  out : Int
  inn : Int
  distance : Int
  touched : Bool
  weak : Bool
  garbage : Bool
  lockMachine : Int
  lockSerial : Int
def ScionE.cells (e : ScionE) : List Value := [.int .i64 e.client, .int .u64 e.number, .int .i64 e.iDMachine, .int .i64 e.iDSerial, .int .i64 e.out, .int .i64 e.inn, .int .i64 e.distance, .bool e.touched, .bool e.weak, .bool e.garbage, .int .i64 e.lockMachine, .int .i64 e.lockSerial]
theorem ScionE.cells_length (e : ScionE) : e.cells.length = 12 := rfl
abbrev ScionE.v (e : ScionE) : Value := .agg #[.int .i64 e.client, .int .u64 e.number, .int .i64 e.iDMachine, .int .i64 e.iDSerial, .int .i64 e.out, .int .i64 e.inn, .int .i64 e.distance, .bool e.touched, .bool e.weak, .bool e.garbage, .int .i64 e.lockMachine, .int .i64 e.lockSerial]
abbrev ScionE.arr (e : ScionE) : Array Value := #[.int .i64 e.client, .int .u64 e.number, .int .i64 e.iDMachine, .int .i64 e.iDSerial, .int .i64 e.out, .int .i64 e.inn, .int .i64 e.distance, .bool e.touched, .bool e.weak, .bool e.garbage, .int .i64 e.lockMachine, .int .i64 e.lockSerial]
theorem ScionE.facts {e : ScionE} {w : World} {b off k : Nat} (h : ∀ j u, e.cells[j]? = some u → w.cell? ⟨b, off + k * 12 + j, none⟩ = some u) : w.cell? ⟨b, off + k * 12, none⟩ = some (.int .i64 e.client) ∧ w.cell? ⟨b, off + k * 12 + 1, none⟩ = some (.int .u64 e.number) ∧ w.cell? ⟨b, off + k * 12 + 2, none⟩ = some (.int .i64 e.iDMachine) ∧ w.cell? ⟨b, off + k * 12 + 3, none⟩ = some (.int .i64 e.iDSerial) ∧ w.cell? ⟨b, off + k * 12 + 4, none⟩ = some (.int .i64 e.out) ∧ w.cell? ⟨b, off + k * 12 + 5, none⟩ = some (.int .i64 e.inn) ∧ w.cell? ⟨b, off + k * 12 + 6, none⟩ = some (.int .i64 e.distance) ∧ w.cell? ⟨b, off + k * 12 + 7, none⟩ = some (.bool e.touched) ∧ w.cell? ⟨b, off + k * 12 + 8, none⟩ = some (.bool e.weak) ∧ w.cell? ⟨b, off + k * 12 + 9, none⟩ = some (.bool e.garbage) ∧ w.cell? ⟨b, off + k * 12 + 10, none⟩ = some (.int .i64 e.lockMachine) ∧ w.cell? ⟨b, off + k * 12 + 11, none⟩ = some (.int .i64 e.lockSerial) :=
  ⟨by simpa using h 0 _ rfl, by simpa using h 1 _ rfl, by simpa using h 2 _ rfl, by simpa using h 3 _ rfl, by simpa using h 4 _ rfl, by simpa using h 5 _ rfl, by simpa using h 6 _ rfl, by simpa using h 7 _ rfl, by simpa using h 8 _ rfl, by simpa using h 9 _ rfl, by simpa using h 10 _ rfl, by simpa using h 11 _ rfl⟩
/-- The element lies there, in each later world. -/
abbrev ScionE.Has (w : World) (b off k : Nat) (e : ScionE) : Prop := ∀ (u : World) [Later w u], u.cell? ⟨b, off + k * 12, none⟩ = some (.int .i64 e.client) ∧ u.cell? ⟨b, off + k * 12 + 1, none⟩ = some (.int .u64 e.number) ∧ u.cell? ⟨b, off + k * 12 + 2, none⟩ = some (.int .i64 e.iDMachine) ∧ u.cell? ⟨b, off + k * 12 + 3, none⟩ = some (.int .i64 e.iDSerial) ∧ u.cell? ⟨b, off + k * 12 + 4, none⟩ = some (.int .i64 e.out) ∧ u.cell? ⟨b, off + k * 12 + 5, none⟩ = some (.int .i64 e.inn) ∧ u.cell? ⟨b, off + k * 12 + 6, none⟩ = some (.int .i64 e.distance) ∧ u.cell? ⟨b, off + k * 12 + 7, none⟩ = some (.bool e.touched) ∧ u.cell? ⟨b, off + k * 12 + 8, none⟩ = some (.bool e.weak) ∧ u.cell? ⟨b, off + k * 12 + 9, none⟩ = some (.bool e.garbage) ∧ u.cell? ⟨b, off + k * 12 + 10, none⟩ = some (.int .i64 e.lockMachine) ∧ u.cell? ⟨b, off + k * 12 + 11, none⟩ = some (.int .i64 e.lockSerial)
theorem ScionE.has {e : ScionE} {w : World} {b off k : Nat} (hb : b < w.heap.size) (h : ∀ j u, e.cells[j]? = some u → w.cell? ⟨b, off + k * 12 + j, none⟩ = some u) : ScionE.Has w b off k e := fun u i => ScionE.facts fun j v hv => (i.below.cell (p := ⟨b, _, none⟩) hb).trans (h j v hv)
theorem ScionE.get {w : World} {A : Option Addr} {l : List ScionE} (h : SlAt ScionE.cells 12 w A l) {k : Nat} (hk : k < l.length) : ∃ b off x, A = some ⟨b, off, none⟩ ∧ l[k]? = some x ∧ ScionE.Has w b off k x := by
  obtain ⟨b, off, x, hA, hb, hx, hc⟩ := h.at_ hk
  exact ⟨b, off, x, hA, hx, ScionE.has hb hc⟩
def ScionE.beq (x y : ScionE) : Bool := x.client == y.client && x.number == y.number && x.iDMachine == y.iDMachine && x.iDSerial == y.iDSerial && x.out == y.out && x.inn == y.inn && x.distance == y.distance && x.touched == y.touched && x.weak == y.weak && x.garbage == y.garbage && x.lockMachine == y.lockMachine && x.lockSerial == y.lockSerial
theorem ScionE.beq_iff {x y : ScionE} : x.beq y = true ↔ x = y := by
  cases x; cases y; simp [ScionE.beq, Bool.and_eq_true, and_assoc]
theorem ScionE.enc : Enc ScionE.cells 12 := ⟨fun _ => rfl, fun x u hu => by simp only [ScionE.cells, List.mem_cons, List.not_mem_nil, or_false] at hu; rcases hu with rfl | rfl | rfl | rfl | rfl | rfl | rfl | rfl | rfl | rfl | rfl | rfl <;> rfl, by decide⟩
/-- A list: three numbers and its entries. -/
structure ListV where
  round : Int
  sent : Int
  received : Int
  A : Option Addr
  c : Nat
  entries : List ListedE
abbrev ListV.v (x : ListV) : Value := .agg #[.int .i64 x.round, .int .i64 x.sent, .int .i64 x.received, .slice x.A x.entries.length x.c]
abbrev ListV.arr (x : ListV) : Array Value := #[.int .i64 x.round, .int .i64 x.sent, .int .i64 x.received, .slice x.A x.entries.length x.c]
structure ListV.at_ (x : ListV) (w : World) : Prop where
  s : SlAt ListedE.cells 3 w x.A x.entries
  sl : x.entries.length ≤ 1000000000000000
theorem ListV.at_.below {x : ListV} {w w' : World} (h : x.at_ w) (hb : Below w.heap.size w w') : x.at_ w' := ⟨h.s.below hb, h.sl⟩
theorem ListV.at_.later {x : ListV} {w : World} (h : x.at_ w) : ∀ u [Later w u], x.at_ u := fun _ i => h.below i.below
end Go.Proofs.Ythigjlllhnajbaa
