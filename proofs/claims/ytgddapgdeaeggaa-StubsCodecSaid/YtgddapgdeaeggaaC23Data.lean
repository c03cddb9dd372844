/-
  The data of chapter 23 as plain Lean structures; the key's type; what the functions compute. No condition.
-/
import Derived.Test.YtgddapgdeaeggaaGrpB
import Derived.Test.YtgddapgdeaeggaaGrpA
import Derived.Test.YtgddapgdeaeggaaRows
namespace Go.Proofs.Ytgddapgdeaeggaa
open Go.RowKit
@[ext] structure IDE where
  machine : Int
  serial : Int
def IDE.cells (e : IDE) : List Value := [.int .i64 e.machine, .int .i64 e.serial]
theorem IDE.cells_length (e : IDE) : e.cells.length = 2 := rfl
abbrev IDE.v (e : IDE) : Value := .agg #[.int .i64 e.machine, .int .i64 e.serial]
abbrev IDE.arr (e : IDE) : Array Value := #[.int .i64 e.machine, .int .i64 e.serial]
theorem IDE.facts {e : IDE} {w : World} {b off k : Nat} (h : ∀ j u, e.cells[j]? = some u → w.cell? ⟨b, off + k * 2 + j, none⟩ = some u) : w.cell? ⟨b, off + k * 2, none⟩ = some (.int .i64 e.machine) ∧ w.cell? ⟨b, off + k * 2 + 1, none⟩ = some (.int .i64 e.serial) :=
  ⟨by simpa using h 0 _ rfl, by simpa using h 1 _ rfl⟩
/-- The element lies there, in each later world. -/
abbrev IDE.Has (w : World) (b off k : Nat) (e : IDE) : Prop := ∀ (u : World) [Later w u], u.cell? ⟨b, off + k * 2, none⟩ = some (.int .i64 e.machine) ∧ u.cell? ⟨b, off + k * 2 + 1, none⟩ = some (.int .i64 e.serial)
theorem IDE.has {e : IDE} {w : World} {b off k : Nat} (hb : b < w.heap.size) (h : ∀ j u, e.cells[j]? = some u → w.cell? ⟨b, off + k * 2 + j, none⟩ = some u) : IDE.Has w b off k e := fun u i => IDE.facts fun j v hv => (i.below.cell (p := ⟨b, _, none⟩) hb).trans (h j v hv)
theorem IDE.get {w : World} {A : Option Addr} {l : List IDE} (h : SlAt IDE.cells 2 w A l) {k : Nat} (hk : k < l.length) : ∃ b off x, A = some ⟨b, off, none⟩ ∧ l[k]? = some x ∧ IDE.Has w b off k x := by
  obtain ⟨b, off, x, hA, hb, hx, hc⟩ := h.at_ hk
  exact ⟨b, off, x, hA, hx, IDE.has hb hc⟩
def IDE.beq (x y : IDE) : Bool := x.machine == y.machine && x.serial == y.serial
theorem IDE.beq_iff {x y : IDE} : x.beq y = true ↔ x = y := by
  cases x; cases y; simp [IDE.beq, Bool.and_eq_true, and_assoc]
theorem IDE.enc : Enc IDE.cells 2 := ⟨fun _ => rfl, fun x u hu => by simp only [IDE.cells, List.mem_cons, List.not_mem_nil, or_false] at hu; rcases hu with rfl | rfl <;> rfl, by decide⟩
@[ext] structure TraceE where
  machine : Int
  serial : Int
def TraceE.cells (e : TraceE) : List Value := [.int .i64 e.machine, .int .i64 e.serial]
theorem TraceE.cells_length (e : TraceE) : e.cells.length = 2 := rfl
abbrev TraceE.v (e : TraceE) : Value := .agg #[.int .i64 e.machine, .int .i64 e.serial]
abbrev TraceE.arr (e : TraceE) : Array Value := #[.int .i64 e.machine, .int .i64 e.serial]
theorem TraceE.facts {e : TraceE} {w : World} {b off k : Nat} (h : ∀ j u, e.cells[j]? = some u → w.cell? ⟨b, off + k * 2 + j, none⟩ = some u) : w.cell? ⟨b, off + k * 2, none⟩ = some (.int .i64 e.machine) ∧ w.cell? ⟨b, off + k * 2 + 1, none⟩ = some (.int .i64 e.serial) :=
  ⟨by simpa using h 0 _ rfl, by simpa using h 1 _ rfl⟩
/-- The element lies there, in each later world. -/
abbrev TraceE.Has (w : World) (b off k : Nat) (e : TraceE) : Prop := ∀ (u : World) [Later w u], u.cell? ⟨b, off + k * 2, none⟩ = some (.int .i64 e.machine) ∧ u.cell? ⟨b, off + k * 2 + 1, none⟩ = some (.int .i64 e.serial)
theorem TraceE.has {e : TraceE} {w : World} {b off k : Nat} (hb : b < w.heap.size) (h : ∀ j u, e.cells[j]? = some u → w.cell? ⟨b, off + k * 2 + j, none⟩ = some u) : TraceE.Has w b off k e := fun u i => TraceE.facts fun j v hv => (i.below.cell (p := ⟨b, _, none⟩) hb).trans (h j v hv)
theorem TraceE.get {w : World} {A : Option Addr} {l : List TraceE} (h : SlAt TraceE.cells 2 w A l) {k : Nat} (hk : k < l.length) : ∃ b off x, A = some ⟨b, off, none⟩ ∧ l[k]? = some x ∧ TraceE.Has w b off k x := by
  obtain ⟨b, off, x, hA, hb, hx, hc⟩ := h.at_ hk
  exact ⟨b, off, x, hA, hx, TraceE.has hb hc⟩
def TraceE.beq (x y : TraceE) : Bool := x.machine == y.machine && x.serial == y.serial
theorem TraceE.beq_iff {x y : TraceE} : x.beq y = true ↔ x = y := by
  cases x; cases y; simp [TraceE.beq, Bool.and_eq_true, and_assoc]
theorem TraceE.enc : Enc TraceE.cells 2 := ⟨fun _ => rfl, fun x u hu => by simp only [TraceE.cells, List.mem_cons, List.not_mem_nil, or_false] at hu; rcases hu with rfl | rfl <;> rfl, by decide⟩
@[ext] structure StubE where
  owner : Int
  number : Int
  iDMachine : Int
  iDSerial : Int
  clas : Int
  lastUse : Int
  distance : Int
  touched : Bool
  weak : Bool
  dead : Bool
  lockMachine : Int
  lockSerial : Int
def StubE.cells (e : StubE) : List Value := [.int .i64 e.owner, .int .u64 e.number, .int .i64 e.iDMachine, .int .i64 e.iDSerial, .int .i64 e.clas, .int .i64 e.lastUse, .int .i64 e.distance, .bool e.touched, .bool e.weak, .bool e.dead, .int .i64 e.lockMachine, .int .i64 e.lockSerial]
theorem StubE.cells_length (e : StubE) : e.cells.length = 12 := rfl
abbrev StubE.v (e : StubE) : Value := .agg #[.int .i64 e.owner, .int .u64 e.number, .int .i64 e.iDMachine, .int .i64 e.iDSerial, .int .i64 e.clas, .int .i64 e.lastUse, .int .i64 e.distance, .bool e.touched, .bool e.weak, .bool e.dead, .int .i64 e.lockMachine, .int .i64 e.lockSerial]
abbrev StubE.arr (e : StubE) : Array Value := #[.int .i64 e.owner, .int .u64 e.number, .int .i64 e.iDMachine, .int .i64 e.iDSerial, .int .i64 e.clas, .int .i64 e.lastUse, .int .i64 e.distance, .bool e.touched, .bool e.weak, .bool e.dead, .int .i64 e.lockMachine, .int .i64 e.lockSerial]
theorem StubE.facts {e : StubE} {w : World} {b off k : Nat} (h : ∀ j u, e.cells[j]? = some u → w.cell? ⟨b, off + k * 12 + j, none⟩ = some u) : w.cell? ⟨b, off + k * 12, none⟩ = some (.int .i64 e.owner) ∧ w.cell? ⟨b, off + k * 12 + 1, none⟩ = some (.int .u64 e.number) ∧ w.cell? ⟨b, off + k * 12 + 2, none⟩ = some (.int .i64 e.iDMachine) ∧ w.cell? ⟨b, off + k * 12 + 3, none⟩ = some (.int .i64 e.iDSerial) ∧ w.cell? ⟨b, off + k * 12 + 4, none⟩ = some (.int .i64 e.clas) ∧ w.cell? ⟨b, off + k * 12 + 5, none⟩ = some (.int .i64 e.lastUse) ∧ w.cell? ⟨b, off + k * 12 + 6, none⟩ = some (.int .i64 e.distance) ∧ w.cell? ⟨b, off + k * 12 + 7, none⟩ = some (.bool e.touched) ∧ w.cell? ⟨b, off + k * 12 + 8, none⟩ = some (.bool e.weak) ∧ w.cell? ⟨b, off + k * 12 + 9, none⟩ = some (.bool e.dead) ∧ w.cell? ⟨b, off + k * 12 + 10, none⟩ = some (.int .i64 e.lockMachine) ∧ w.cell? ⟨b, off + k * 12 + 11, none⟩ = some (.int .i64 e.lockSerial) :=
  ⟨by simpa using h 0 _ rfl, by simpa using h 1 _ rfl, by simpa using h 2 _ rfl, by simpa using h 3 _ rfl, by simpa using h 4 _ rfl, by simpa using h 5 _ rfl, by simpa using h 6 _ rfl, by simpa using h 7 _ rfl, by simpa using h 8 _ rfl, by simpa using h 9 _ rfl, by simpa using h 10 _ rfl, by simpa using h 11 _ rfl⟩
/-- The element lies there, in each later world. -/
abbrev StubE.Has (w : World) (b off k : Nat) (e : StubE) : Prop := ∀ (u : World) [Later w u], u.cell? ⟨b, off + k * 12, none⟩ = some (.int .i64 e.owner) ∧ u.cell? ⟨b, off + k * 12 + 1, none⟩ = some (.int .u64 e.number) ∧ u.cell? ⟨b, off + k * 12 + 2, none⟩ = some (.int .i64 e.iDMachine) ∧ u.cell? ⟨b, off + k * 12 + 3, none⟩ = some (.int .i64 e.iDSerial) ∧ u.cell? ⟨b, off + k * 12 + 4, none⟩ = some (.int .i64 e.clas) ∧ u.cell? ⟨b, off + k * 12 + 5, none⟩ = some (.int .i64 e.lastUse) ∧ u.cell? ⟨b, off + k * 12 + 6, none⟩ = some (.int .i64 e.distance) ∧ u.cell? ⟨b, off + k * 12 + 7, none⟩ = some (.bool e.touched) ∧ u.cell? ⟨b, off + k * 12 + 8, none⟩ = some (.bool e.weak) ∧ u.cell? ⟨b, off + k * 12 + 9, none⟩ = some (.bool e.dead) ∧ u.cell? ⟨b, off + k * 12 + 10, none⟩ = some (.int .i64 e.lockMachine) ∧ u.cell? ⟨b, off + k * 12 + 11, none⟩ = some (.int .i64 e.lockSerial)
theorem StubE.has {e : StubE} {w : World} {b off k : Nat} (hb : b < w.heap.size) (h : ∀ j u, e.cells[j]? = some u → w.cell? ⟨b, off + k * 12 + j, none⟩ = some u) : StubE.Has w b off k e := fun u i => StubE.facts fun j v hv => (i.below.cell (p := ⟨b, _, none⟩) hb).trans (h j v hv)
theorem StubE.get {w : World} {A : Option Addr} {l : List StubE} (h : SlAt StubE.cells 12 w A l) {k : Nat} (hk : k < l.length) : ∃ b off x, A = some ⟨b, off, none⟩ ∧ l[k]? = some x ∧ StubE.Has w b off k x := by
  obtain ⟨b, off, x, hA, hb, hx, hc⟩ := h.at_ hk
  exact ⟨b, off, x, hA, hx, StubE.has hb hc⟩
def StubE.beq (x y : StubE) : Bool := x.owner == y.owner && x.number == y.number && x.iDMachine == y.iDMachine && x.iDSerial == y.iDSerial && x.clas == y.clas && x.lastUse == y.lastUse && x.distance == y.distance && x.touched == y.touched && x.weak == y.weak && x.dead == y.dead && x.lockMachine == y.lockMachine && x.lockSerial == y.lockSerial
theorem StubE.beq_iff {x y : StubE} : x.beq y = true ↔ x = y := by
  cases x; cases y; simp [StubE.beq, Bool.and_eq_true, and_assoc]
theorem StubE.enc : Enc StubE.cells 12 := ⟨fun _ => rfl, fun x u hu => by simp only [StubE.cells, List.mem_cons, List.not_mem_nil, or_false] at hu; rcases hu with rfl | rfl | rfl | rfl | rfl | rfl | rfl | rfl | rfl | rfl | rfl | rfl <;> rfl, by decide⟩
@[ext] structure KeyE where
  owner : Int
  number : Int
def KeyE.cells (e : KeyE) : List Value := [.int .i64 e.owner, .int .u64 e.number]
theorem KeyE.cells_length (e : KeyE) : e.cells.length = 2 := rfl
abbrev KeyE.v (e : KeyE) : Value := .agg #[.int .i64 e.owner, .int .u64 e.number]
abbrev KeyE.arr (e : KeyE) : Array Value := #[.int .i64 e.owner, .int .u64 e.number]
theorem KeyE.facts {e : KeyE} {w : World} {b off k : Nat} (h : ∀ j u, e.cells[j]? = some u → w.cell? ⟨b, off + k * 2 + j, none⟩ = some u) : w.cell? ⟨b, off + k * 2, none⟩ = some (.int .i64 e.owner) ∧ w.cell? ⟨b, off + k * 2 + 1, none⟩ = some (.int .u64 e.number) :=
  ⟨by simpa using h 0 _ rfl, by simpa using h 1 _ rfl⟩
/-- The element lies there, in each later world. -/
abbrev KeyE.Has (w : World) (b off k : Nat) (e : KeyE) : Prop := ∀ (u : World) [Later w u], u.cell? ⟨b, off + k * 2, none⟩ = some (.int .i64 e.owner) ∧ u.cell? ⟨b, off + k * 2 + 1, none⟩ = some (.int .u64 e.number)
theorem KeyE.has {e : KeyE} {w : World} {b off k : Nat} (hb : b < w.heap.size) (h : ∀ j u, e.cells[j]? = some u → w.cell? ⟨b, off + k * 2 + j, none⟩ = some u) : KeyE.Has w b off k e := fun u i => KeyE.facts fun j v hv => (i.below.cell (p := ⟨b, _, none⟩) hb).trans (h j v hv)
theorem KeyE.get {w : World} {A : Option Addr} {l : List KeyE} (h : SlAt KeyE.cells 2 w A l) {k : Nat} (hk : k < l.length) : ∃ b off x, A = some ⟨b, off, none⟩ ∧ l[k]? = some x ∧ KeyE.Has w b off k x := by
  obtain ⟨b, off, x, hA, hb, hx, hc⟩ := h.at_ hk
  exact ⟨b, off, x, hA, hx, KeyE.has hb hc⟩
def KeyE.beq (x y : KeyE) : Bool := x.owner == y.owner && x.number == y.number
theorem KeyE.beq_iff {x y : KeyE} : x.beq y = true ↔ x = y := by
  cases x; cases y; simp [KeyE.beq, Bool.and_eq_true, and_assoc]
theorem KeyE.enc : Enc KeyE.cells 2 := ⟨fun _ => rfl, fun x u hu => by simp only [KeyE.cells, List.mem_cons, List.not_mem_nil, or_false] at hu; rcases hu with rfl | rfl <;> rfl, by decide⟩
@[ext] structure CallE where
  kind : Int
  eOwner : Int
  eNumber : Int
  eIDMachine : Int
  eIDSerial : Int
  eClass : Int
  eLastUse : Int
  eDistance : Int
  eTouched : Bool
  eWeak : Bool
  eDead : Bool
  eLockMachine : Int
  eLockSerial : Int
  n : Int
def CallE.cells (e : CallE) : List Value := [.int .i64 e.kind, .int .i64 e.eOwner, .int .u64 e.eNumber, .int .i64 e.eIDMachine, .int .i64 e.eIDSerial, .int .i64 e.eClass, .int .i64 e.eLastUse, .int .i64 e.eDistance, .bool e.eTouched, .bool e.eWeak, .bool e.eDead, .int .i64 e.eLockMachine, .int .i64 e.eLockSerial, .int .i64 e.n]
theorem CallE.cells_length (e : CallE) : e.cells.length = 14 := rfl
abbrev CallE.v (e : CallE) : Value := .agg #[.int .i64 e.kind, .int .i64 e.eOwner, .int .u64 e.eNumber, .int .i64 e.eIDMachine, .int .i64 e.eIDSerial, .int .i64 e.eClass, .int .i64 e.eLastUse, .int .i64 e.eDistance, .bool e.eTouched, .bool e.eWeak, .bool e.eDead, .int .i64 e.eLockMachine, .int .i64 e.eLockSerial, .int .i64 e.n]
abbrev CallE.arr (e : CallE) : Array Value := #[.int .i64 e.kind, .int .i64 e.eOwner, .int .u64 e.eNumber, .int .i64 e.eIDMachine, .int .i64 e.eIDSerial, .int .i64 e.eClass, .int .i64 e.eLastUse, .int .i64 e.eDistance, .bool e.eTouched, .bool e.eWeak, .bool e.eDead, .int .i64 e.eLockMachine, .int .i64 e.eLockSerial, .int .i64 e.n]
theorem CallE.facts {e : CallE} {w : World} {b off k : Nat} (h : ∀ j u, e.cells[j]? = some u → w.cell? ⟨b, off + k * 14 + j, none⟩ = some u) : w.cell? ⟨b, off + k * 14, none⟩ = some (.int .i64 e.kind) ∧ w.cell? ⟨b, off + k * 14 + 1, none⟩ = some (.int .i64 e.eOwner) ∧ w.cell? ⟨b, off + k * 14 + 2, none⟩ = some (.int .u64 e.eNumber) ∧ w.cell? ⟨b, off + k * 14 + 3, none⟩ = some (.int .i64 e.eIDMachine) ∧ w.cell? ⟨b, off + k * 14 + 4, none⟩ = some (.int .i64 e.eIDSerial) ∧ w.cell? ⟨b, off + k * 14 + 5, none⟩ = some (.int .i64 e.eClass) ∧ w.cell? ⟨b, off + k * 14 + 6, none⟩ = some (.int .i64 e.eLastUse) ∧ w.cell? ⟨b, off + k * 14 + 7, none⟩ = some (.int .i64 e.eDistance) ∧ w.cell? ⟨b, off + k * 14 + 8, none⟩ = some (.bool e.eTouched) ∧ w.cell? ⟨b, off + k * 14 + 9, none⟩ = some (.bool e.eWeak) ∧ w.cell? ⟨b, off + k * 14 + 10, none⟩ = some (.bool e.eDead) ∧ w.cell? ⟨b, off + k * 14 + 11, none⟩ = some (.int .i64 e.eLockMachine) ∧ w.cell? ⟨b, off + k * 14 + 12, none⟩ = some (.int .i64 e.eLockSerial) ∧ w.cell? ⟨b, off + k * 14 + 13, none⟩ = some (.int .i64 e.n) :=
  ⟨by simpa using h 0 _ rfl, by simpa using h 1 _ rfl, by simpa using h 2 _ rfl, by simpa using h 3 _ rfl, by simpa using h 4 _ rfl, by simpa using h 5 _ rfl, by simpa using h 6 _ rfl, by simpa using h 7 _ rfl, by simpa using h 8 _ rfl, by simpa using h 9 _ rfl, by simpa using h 10 _ rfl, by simpa using h 11 _ rfl, by simpa using h 12 _ rfl, by simpa using h 13 _ rfl⟩
/-- The element lies there, in each later world. -/
abbrev CallE.Has (w : World) (b off k : Nat) (e : CallE) : Prop := ∀ (u : World) [Later w u], u.cell? ⟨b, off + k * 14, none⟩ = some (.int .i64 e.kind) ∧ u.cell? ⟨b, off + k * 14 + 1, none⟩ = some (.int .i64 e.eOwner) ∧ u.cell? ⟨b, off + k * 14 + 2, none⟩ = some (.int .u64 e.eNumber) ∧ u.cell? ⟨b, off + k * 14 + 3, none⟩ = some (.int .i64 e.eIDMachine) ∧ u.cell? ⟨b, off + k * 14 + 4, none⟩ = some (.int .i64 e.eIDSerial) ∧ u.cell? ⟨b, off + k * 14 + 5, none⟩ = some (.int .i64 e.eClass) ∧ u.cell? ⟨b, off + k * 14 + 6, none⟩ = some (.int .i64 e.eLastUse) ∧ u.cell? ⟨b, off + k * 14 + 7, none⟩ = some (.int .i64 e.eDistance) ∧ u.cell? ⟨b, off + k * 14 + 8, none⟩ = some (.bool e.eTouched) ∧ u.cell? ⟨b, off + k * 14 + 9, none⟩ = some (.bool e.eWeak) ∧ u.cell? ⟨b, off + k * 14 + 10, none⟩ = some (.bool e.eDead) ∧ u.cell? ⟨b, off + k * 14 + 11, none⟩ = some (.int .i64 e.eLockMachine) ∧ u.cell? ⟨b, off + k * 14 + 12, none⟩ = some (.int .i64 e.eLockSerial) ∧ u.cell? ⟨b, off + k * 14 + 13, none⟩ = some (.int .i64 e.n)
theorem CallE.has {e : CallE} {w : World} {b off k : Nat} (hb : b < w.heap.size) (h : ∀ j u, e.cells[j]? = some u → w.cell? ⟨b, off + k * 14 + j, none⟩ = some u) : CallE.Has w b off k e := fun u i => CallE.facts fun j v hv => (i.below.cell (p := ⟨b, _, none⟩) hb).trans (h j v hv)
theorem CallE.get {w : World} {A : Option Addr} {l : List CallE} (h : SlAt CallE.cells 14 w A l) {k : Nat} (hk : k < l.length) : ∃ b off x, A = some ⟨b, off, none⟩ ∧ l[k]? = some x ∧ CallE.Has w b off k x := by
  obtain ⟨b, off, x, hA, hb, hx, hc⟩ := h.at_ hk
  exact ⟨b, off, x, hA, hx, CallE.has hb hc⟩
def CallE.beq (x y : CallE) : Bool := x.kind == y.kind && x.eOwner == y.eOwner && x.eNumber == y.eNumber && x.eIDMachine == y.eIDMachine && x.eIDSerial == y.eIDSerial && x.eClass == y.eClass && x.eLastUse == y.eLastUse && x.eDistance == y.eDistance && x.eTouched == y.eTouched && x.eWeak == y.eWeak && x.eDead == y.eDead && x.eLockMachine == y.eLockMachine && x.eLockSerial == y.eLockSerial && x.n == y.n
theorem CallE.beq_iff {x y : CallE} : x.beq y = true ↔ x = y := by
  cases x; cases y; simp [CallE.beq, Bool.and_eq_true, and_assoc]
theorem CallE.enc : Enc CallE.cells 14 := ⟨fun _ => rfl, fun x u hu => by simp only [CallE.cells, List.mem_cons, List.not_mem_nil, or_false] at hu; rcases hu with rfl | rfl | rfl | rfl | rfl | rfl | rfl | rfl | rfl | rfl | rfl | rfl | rfl | rfl <;> rfl, by decide⟩
instance : DecidableEq KeyE := fun a b => decidable_of_iff (a.beq b = true) KeyE.beq_iff
instance : DecidableEq IDE := fun a b => decidable_of_iff (a.beq b = true) IDE.beq_iff
instance : DecidableEq StubE := fun a b => decidable_of_iff (a.beq b = true) StubE.beq_iff
def keyE (e : StubE) : KeyE := ⟨e.owner, e.number⟩
def idE (e : StubE) : IDE := ⟨e.iDMachine, e.iDSerial⟩
def CallE.ent (c : CallE) : StubE := ⟨c.eOwner, c.eNumber, c.eIDMachine, c.eIDSerial, c.eClass, c.eLastUse, c.eDistance, c.eTouched, c.eWeak, c.eDead, c.eLockMachine, c.eLockSerial⟩
abbrev KeyE.vv (k : KeyE) : Value := .agg #[.int .i64 k.owner, .int .u64 k.number]
abbrev StubE.vv (e : StubE) : Value := e.v
theorem key_agg (x y : KeyE) (w : World) : (Op.equal 69 x.vv y.vv).run Try.prog w = .ok (decide (x = y)) w := by
  have ht : Try.prog.underlying 69 = some (.struct (Try.prog.fieldsOf 69)) := by kernel_rfl
  have hp : Try.prog.stoodInHeld 69 = false := by kernel_rfl
  have hu := Try.underlying69
  have hd : decide (x = y) = x.beq y := by rw [Bool.eq_iff_iff, decide_eq_true_eq]; exact KeyE.beq_iff.symm
  rw [hd]
  unfold Op.equal Op.maxDepth
  rw [run_equalIn_struct w 9999 69 _ _ ht hp]
  obtain ⟨fs, hfs⟩ : ∃ fs, Try.prog.fieldsOf 69 = fs := ⟨_, rfl⟩
  rw [hfs] at ht ⊢
  rw [hu] at ht
  have ht2 := TypeDesc.struct.inj (Option.some.inj ht)
  subst ht2
  simp only [Op.eqFields, ne_eq]
  simp [go_sem, KeyE.beq]
  clear hfs hu ht hp
  by_cases h0 : x.owner = y.owner
  · rw [if_pos h0]
    by_cases h1 : x.number = y.number <;> simp [h0, h1]
  · rw [if_neg h0]; simp [beq_eq_false_iff_ne.2 h0]
theorem keyL : KeyL Try.prog 69 KeyE.vv :=
  keyL_struct Try.underlying69 (fun a b h => by
    simp only [Value.agg.injEq, Array.mk.injEq, List.cons.injEq, Value.int.injEq, true_and, and_true] at h
    cases a; cases b; simp_all) (fun a => ⟨_, rfl⟩) (fun w em a => by cases em <;> kernel_rfl) (fun w a b => key_agg a b w) (fun a => by simp [Instr.sameBits])
/-- A table: its pointer's block, its map's block, its entries (in whatever order). -/
def TabAt (w : World) (p g : Nat) (l : List StubE) : Prop := w.heap[p]? = some (.cells #[.map (some g)] 63 (0, 0)) ∧ MapL KeyE.vv StubE.vv keyE w g l
theorem TabAt.below {w w' : World} {p g : Nat} {l : List StubE} (h : TabAt w p g l) (hb : Below w.heap.size w w') : TabAt w' p g l := ⟨blk_below h.1 hb, h.2.below hb⟩
theorem TabAt.later {w : World} {p g : Nat} {l : List StubE} (h : TabAt w p g l) : ∀ u [Later w u], TabAt u p g l := fun _ i => h.below i.below
theorem TabAt.ne {w : World} {p g : Nat} {l : List StubE} (h : TabAt w p g l) : p ≠ g := fun e => by
  obtain ⟨h1, bs, c, h2, _⟩ := h
  rw [e, h2] at h1; cases h1
theorem TabAt.cell {w : World} {p g : Nat} {l : List StubE} (h : TabAt w p g l) : ∀ u [Later w u], u.cell? ⟨p, 0, none⟩ = some (.map (some g)) := fun u i => (blk_cell (h.later u).1 0).trans rfl
end Go.Proofs.Ytgddapgdeaeggaa
