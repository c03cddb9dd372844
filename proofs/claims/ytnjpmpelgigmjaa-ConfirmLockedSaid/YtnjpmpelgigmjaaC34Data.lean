/-
  The data of chapter 34 as plain Lean structures, and what the functions compute, as plain Lean functions. No condition.
-/
import Derived.Test.YtnjpmpelgigmjaaLib2
namespace Go.Proofs.Ytnjpmpelgigmjaa
open Go.RowKit
@[ext] structure StubE where
  owner : Int
  number : Int
  iDMachine : Int
  iDSerial : Int
  clas : Int
  lastUse : Int
  distance : Int
  touched : Bool
  weak : Bool
  dead : Bool
  lockMachine : Int
  lockSerial : Int
def StubE.cells (e : StubE) : List Value := [.int .i64 e.owner, .int .u64 e.number, .int .i64 e.iDMachine, .int .i64 e.iDSerial, .int .i64 e.clas, .int .i64 e.lastUse, .int .i64 e.distance, .bool e.touched, .bool e.weak, .bool e.dead, .int .i64 e.lockMachine, .int .i64 e.lockSerial]
theorem StubE.cells_length (e : StubE) : e.cells.length = 12 := rfl
abbrev StubE.v (e : StubE) : Value := .agg #[.int .i64 e.owner, .int .u64 e.number, .int .i64 e.iDMachine, .int .i64 e.iDSerial, .int .i64 e.clas, .int .i64 e.lastUse, .int .i64 e.distance, .bool e.touched, .bool e.weak, .bool e.dead, .int .i64 e.lockMachine, .int .i64 e.lockSerial]
abbrev StubE.arr (e : StubE) : Array Value := #[.int .i64 e.owner, .int .u64 e.number, .int .i64 e.iDMachine, .int .i64 e.iDSerial, .int .i64 e.clas, .int .i64 e.lastUse, .int .i64 e.distance, .bool e.touched, .bool e.weak, .bool e.dead, .int .i64 e.lockMachine, .int .i64 e.lockSerial]
theorem StubE.facts {e : StubE} {w : World} {b off k : Nat} (h : ∀ j u, e.cells[j]? = some u → w.cell? ⟨b, off + k * 12 + j, none⟩ = some u) : w.cell? ⟨b, off + k * 12, none⟩ = some (.int .i64 e.owner) ∧ w.cell? ⟨b, off + k * 12 + 1, none⟩ = some (.int .u64 e.number) ∧ w.cell? ⟨b, off + k * 12 + 2, none⟩ = some (.int .i64 e.iDMachine) ∧ w.cell? ⟨b, off + k * 12 + 3, none⟩ = some (.int .i64 e.iDSerial) ∧ w.cell? ⟨b, off + k * 12 + 4, none⟩ = some (.int .i64 e.clas) ∧ w.cell? ⟨b, off + k * 12 + 5, none⟩ = some (.int .i64 e.lastUse) ∧ w.cell? ⟨b, off + k * 12 + 6, none⟩ = some (.int .i64 e.distance) ∧ w.cell? ⟨b, off + k * 12 + 7, none⟩ = some (.bool e.touched) ∧ w.cell? ⟨b, off + k * 12 + 8, none⟩ = some (.bool e.weak) ∧ w.cell? ⟨b, off + k * 12 + 9, none⟩ = some (.bool e.dead) ∧ w.cell? ⟨b, off + k * 12 + 10, none⟩ = some (.int .i64 e.lockMachine) ∧ w.cell? ⟨b, off + k * 12 + 11, none⟩ = some (.int .i64 e.lockSerial) :=
  ⟨by simpa using h 0 _ rfl, by simpa using h 1 _ rfl, by simpa using h 2 _ rfl, by simpa using h 3 _ rfl, by simpa using h 4 _ rfl, by simpa using h 5 _ rfl, by simpa using h 6 _ rfl, by simpa using h 7 _ rfl, by simpa using h 8 _ rfl, by simpa using h 9 _ rfl, by simpa using h 10 _ rfl, by simpa using h 11 _ rfl⟩
def StubE.beq (x y : StubE) : Bool := x.owner == y.owner && x.number == y.number && x.iDMachine == y.iDMachine && x.iDSerial == y.iDSerial && x.clas == y.clas && x.lastUse == y.lastUse && x.distance == y.distance && x.touched == y.touched && x.weak == y.weak && x.dead == y.dead && x.lockMachine == y.lockMachine && x.lockSerial == y.lockSerial
theorem StubE.beq_iff {x y : StubE} : x.beq y = true ↔ x = y := by
  cases x; cases y; simp [StubE.beq, Bool.and_eq_true, and_assoc]
theorem StubE.enc : Enc StubE.cells 12 := ⟨fun _ => rfl, fun x u hu => by simp only [StubE.cells, List.mem_cons, List.not_mem_nil, or_false] at hu; rcases hu with rfl | rfl | rfl | rfl | rfl | rfl | rfl | rfl | rfl | rfl | rfl | rfl <;> rfl, by decide⟩
@[ext] structure ScionE where
  client : Int
  number : Int
  iDMachine : Int
  iDSerial : Int
  out : Int
  inn : Int
  distance : Int
  touched : Bool
  weak : Bool
  garbage : Bool
  lockMachine : Int
  lockSerial : Int
def ScionE.cells (e : ScionE) : List Value := [.int .i64 e.client, .int .u64 e.number, .int .i64 e.iDMachine, .int .i64 e.iDSerial, .int .i64 e.out, .int .i64 e.inn, .int .i64 e.distance, .bool e.touched, .bool e.weak, .bool e.garbage, .int .i64 e.lockMachine, .int .i64 e.lockSerial]
theorem ScionE.cells_length (e : ScionE) : e.cells.length = 12 := rfl
abbrev ScionE.v (e : ScionE) : Value := .agg #[.int .i64 e.client, .int .u64 e.number, .int .i64 e.iDMachine, .int .i64 e.iDSerial, .int .i64 e.out, .int .i64 e.inn, .int .i64 e.distance, .bool e.touched, .bool e.weak, .bool e.garbage, .int .i64 e.lockMachine, .int .i64 e.lockSerial]
abbrev ScionE.arr (e : ScionE) : Array Value := #[.int .i64 e.client, .int .u64 e.number, .int .i64 e.iDMachine, .int .i64 e.iDSerial, .int .i64 e.out, .int .i64 e.inn, .int .i64 e.distance, .bool e.touched, .bool e.weak, .bool e.garbage, .int .i64 e.lockMachine, .int .i64 e.lockSerial]
theorem ScionE.facts {e : ScionE} {w : World} {b off k : Nat} (h : ∀ j u, e.cells[j]? = some u → w.cell? ⟨b, off + k * 12 + j, none⟩ = some u) : w.cell? ⟨b, off + k * 12, none⟩ = some (.int .i64 e.client) ∧ w.cell? ⟨b, off + k * 12 + 1, none⟩ = some (.int .u64 e.number) ∧ w.cell? ⟨b, off + k * 12 + 2, none⟩ = some (.int .i64 e.iDMachine) ∧ w.cell? ⟨b, off + k * 12 + 3, none⟩ = some (.int .i64 e.iDSerial) ∧ w.cell? ⟨b, off + k * 12 + 4, none⟩ = some (.int .i64 e.out) ∧ w.cell? ⟨b, off + k * 12 + 5, none⟩ = some (.int .i64 e.inn) ∧ w.cell? ⟨b, off + k * 12 + 6, none⟩ = some (.int .i64 e.distance) ∧ w.cell? ⟨b, off + k * 12 + 7, none⟩ = some (.bool e.touched) ∧ w.cell? ⟨b, off + k * 12 + 8, none⟩ = some (.bool e.weak) ∧ w.cell? ⟨b, off + k * 12 + 9, none⟩ = some (.bool e.garbage) ∧ w.cell? ⟨b, off + k * 12 + 10, none⟩ = some (.int .i64 e.lockMachine) ∧ w.cell? ⟨b, off + k * 12 + 11, none⟩ = some (.int .i64 e.lockSerial) :=
  ⟨by simpa using h 0 _ rfl, by simpa using h 1 _ rfl, by simpa using h 2 _ rfl, by simpa using h 3 _ rfl, by simpa using h 4 _ rfl, by simpa using h 5 _ rfl, by simpa using h 6 _ rfl, by simpa using h 7 _ rfl, by simpa using h 8 _ rfl, by simpa using h 9 _ rfl, by simpa using h 10 _ rfl, by simpa using h 11 _ rfl⟩
def ScionE.beq (x y : ScionE) : Bool := x.client == y.client && x.number == y.number && x.iDMachine == y.iDMachine && x.iDSerial == y.iDSerial && x.out == y.out && x.inn == y.inn && x.distance == y.distance && x.touched == y.touched && x.weak == y.weak && x.garbage == y.garbage && x.lockMachine == y.lockMachine && x.lockSerial == y.lockSerial
theorem ScionE.beq_iff {x y : ScionE} : x.beq y = true ↔ x = y := by
  cases x; cases y; simp [ScionE.beq, Bool.and_eq_true, and_assoc]
theorem ScionE.enc : Enc ScionE.cells 12 := ⟨fun _ => rfl, fun x u hu => by simp only [ScionE.cells, List.mem_cons, List.not_mem_nil, or_false] at hu; rcases hu with rfl | rfl | rfl | rfl | rfl | rfl | rfl | rfl | rfl | rfl | rfl | rfl <;> rfl, by decide⟩
@[ext] structure NeedE where
  peer : Int
  number : Int
  stamp : Int
def NeedE.cells (e : NeedE) : List Value := [.int .i64 e.peer, .int .u64 e.number, .int .i64 e.stamp]
theorem NeedE.cells_length (e : NeedE) : e.cells.length = 3 := rfl
abbrev NeedE.v (e : NeedE) : Value := .agg #[.int .i64 e.peer, .int .u64 e.number, .int .i64 e.stamp]
abbrev NeedE.arr (e : NeedE) : Array Value := #[.int .i64 e.peer, .int .u64 e.number, .int .i64 e.stamp]
theorem NeedE.facts {e : NeedE} {w : World} {b off k : Nat} (h : ∀ j u, e.cells[j]? = some u → w.cell? ⟨b, off + k * 3 + j, none⟩ = some u) : w.cell? ⟨b, off + k * 3, none⟩ = some (.int .i64 e.peer) ∧ w.cell? ⟨b, off + k * 3 + 1, none⟩ = some (.int .u64 e.number) ∧ w.cell? ⟨b, off + k * 3 + 2, none⟩ = some (.int .i64 e.stamp) :=
  ⟨by simpa using h 0 _ rfl, by simpa using h 1 _ rfl, by simpa using h 2 _ rfl⟩
def NeedE.beq (x y : NeedE) : Bool := x.peer == y.peer && x.number == y.number && x.stamp == y.stamp
theorem NeedE.beq_iff {x y : NeedE} : x.beq y = true ↔ x = y := by
  cases x; cases y; simp [NeedE.beq, Bool.and_eq_true, and_assoc]
theorem NeedE.enc : Enc NeedE.cells 3 := ⟨fun _ => rfl, fun x u hu => by simp only [NeedE.cells, List.mem_cons, List.not_mem_nil, or_false] at hu; rcases hu with rfl | rfl | rfl <;> rfl, by decide⟩
@[ext] structure TraceE where
  machine : Int
  serial : Int
def TraceE.cells (e : TraceE) : List Value := [.int .i64 e.machine, .int .i64 e.serial]
theorem TraceE.cells_length (e : TraceE) : e.cells.length = 2 := rfl
abbrev TraceE.v (e : TraceE) : Value := .agg #[.int .i64 e.machine, .int .i64 e.serial]
abbrev TraceE.arr (e : TraceE) : Array Value := #[.int .i64 e.machine, .int .i64 e.serial]
theorem TraceE.facts {e : TraceE} {w : World} {b off k : Nat} (h : ∀ j u, e.cells[j]? = some u → w.cell? ⟨b, off + k * 2 + j, none⟩ = some u) : w.cell? ⟨b, off + k * 2, none⟩ = some (.int .i64 e.machine) ∧ w.cell? ⟨b, off + k * 2 + 1, none⟩ = some (.int .i64 e.serial) :=
  ⟨by simpa using h 0 _ rfl, by simpa using h 1 _ rfl⟩
def TraceE.beq (x y : TraceE) : Bool := x.machine == y.machine && x.serial == y.serial
theorem TraceE.beq_iff {x y : TraceE} : x.beq y = true ↔ x = y := by
  cases x; cases y; simp [TraceE.beq, Bool.and_eq_true, and_assoc]
theorem TraceE.enc : Enc TraceE.cells 2 := ⟨fun _ => rfl, fun x u hu => by simp only [TraceE.cells, List.mem_cons, List.not_mem_nil, or_false] at hu; rcases hu with rfl | rfl <;> rfl, by decide⟩

def teq (a b c d : Int) : Bool := a == c && b == d
def freeB (lm ls tm ts : Int) : Bool := teq lm ls 0 0 || teq lm ls tm ts
def isStub (p q : Int) (e : StubE) : Bool := e.owner == p && e.number == q
def isScion (p q : Int) (e : ScionE) : Bool := e.client == p && e.number == q
def have_ (p : Int) (received : List Int) : Int := if 1 ≤ p ∧ p ≤ received.length then received.getD (p - 1).toNat 0 else 0
def arrivedB (p s : Int) (received : List Int) : Bool := decide (s ≤ have_ p received)
def quietE (t : TraceE) (e : StubE) : Bool := !e.touched && (!e.dead && freeB e.lockMachine e.lockSerial t.machine t.serial)
def quietB (n : NeedE) (t : TraceE) (stubs : List StubE) : Bool := match stubs.find? (isStub n.peer n.number) with | some e => quietE t e | none => false
def scionE (t : TraceE) (e : ScionE) : Bool := !e.touched && (!e.garbage && freeB e.lockMachine e.lockSerial t.machine t.serial)
def scionB (n : NeedE) (t : TraceE) (scions : List ScionE) : Bool := match scions.find? (isScion n.peer n.number) with | some e => scionE t e | none => false
def setAt {α : Type} (p : α → Bool) (g : α → α) (l : List α) : List α := match l.findIdx? p with | some k => (match l[k]? with | some x => l.set k (g x) | none => l) | none => l
theorem setAt_hit {α : Type} {p : α → Bool} {g : α → α} {l : List α} {k : Nat} {x : α} (hx : l[k]? = some x) (hf : p x = true) (hno : NoneTo p l k) : setAt p g l = l.set k (g x) := by
  have h := idxOf_hit hx hf hno
  unfold idxOf at h
  unfold setAt
  cases hi : l.findIdx? p with
  | none => rw [hi] at h; simp only at h; omega
  | some i =>
    rw [hi] at h
    have : i = k := by simp only at h; omega
    subst this
    simp only [hx]
theorem setAt_miss {α : Type} {p : α → Bool} {g : α → α} {l : List α} (hno : NoneTo p l l.length) : setAt p g l = l := by
  have h := idxOf_miss hno
  unfold idxOf at h
  unfold setAt
  cases hi : l.findIdx? p with
  | none => rfl
  | some i => rw [hi] at h; simp only at h; omega
theorem setAt_length {α : Type} (p : α → Bool) (g : α → α) (l : List α) : (setAt p g l).length = l.length := by
  unfold setAt; split <;> (try split) <;> simp
def StubE.setLock (t : TraceE) (e : StubE) : StubE := { e with lockMachine := t.machine, lockSerial := t.serial }
def ScionE.setLock (t : TraceE) (e : ScionE) : ScionE := { e with lockMachine := t.machine, lockSerial := t.serial }
def lockStubs (t : TraceE) (ns : List NeedE) (l : List StubE) : List StubE := ns.foldl (fun l n => setAt (isStub n.peer n.number) (StubE.setLock t) l) l
def lockScions (t : TraceE) (ns : List NeedE) (l : List ScionE) : List ScionE := ns.foldl (fun l n => setAt (isScion n.peer n.number) (ScionE.setLock t) l) l
structure ClaimV where
  machine : Int
  epoch : Int
  sA : Option Addr
  sC : Nat
  stubs : List NeedE
  nA : Option Addr
  nC : Nat
  scions : List NeedE
  kA : Option Addr
  kC : Nat
  checks : List NeedE
abbrev ClaimV.v (c : ClaimV) : Value := .agg #[.int .i64 c.machine, .int .i64 c.epoch, .slice c.sA c.stubs.length c.sC, .slice c.nA c.scions.length c.nC, .slice c.kA c.checks.length c.kC]
structure ClaimV.at_ (c : ClaimV) (w : World) : Prop where
  s : SlAt NeedE.cells 3 w c.sA c.stubs
  n : SlAt NeedE.cells 3 w c.nA c.scions
  k : SlAt NeedE.cells 3 w c.kA c.checks
  sl : c.stubs.length ≤ 9223372036854775807
  nl : c.scions.length ≤ 9223372036854775807
  kl : c.checks.length ≤ 9223372036854775807
  tot : c.stubs.length + c.scions.length + c.checks.length ≤ 1000000000000000
theorem ClaimV.at_.below {c : ClaimV} {w w' : World} (h : c.at_ w) (hb : Below w.heap.size w w') : c.at_ w' := ⟨h.s.below hb, h.n.below hb, h.k.below hb, h.sl, h.nl, h.kl, h.tot⟩
structure TablesV where
  sA : Option Addr
  sC : Nat
  stubs : List StubE
  nA : Option Addr
  nC : Nat
  scions : List ScionE
  epoch : Int
  rA : Option Addr
  rC : Nat
  received : List Int
abbrev TablesV.v (x : TablesV) : Value := .agg #[.slice x.sA x.stubs.length x.sC, .slice x.nA x.scions.length x.nC, .int .i64 x.epoch, .slice x.rA x.received.length x.rC]
structure TablesV.at_ (x : TablesV) (w : World) : Prop where
  s : SlAt StubE.cells 12 w x.sA x.stubs
  n : SlAt ScionE.cells 12 w x.nA x.scions
  r : SlAt I64.cells 1 w x.rA x.received
  sl : x.stubs.length ≤ 9223372036854775807
  nl : x.scions.length ≤ 9223372036854775807
  rl : x.received.length ≤ 9223372036854775807
theorem TablesV.at_.below {x : TablesV} {w w' : World} (h : x.at_ w) (hb : Below w.heap.size w w') : x.at_ w' := ⟨h.s.below hb, h.n.below hb, h.r.below hb, h.sl, h.nl, h.rl⟩
def manyB (x : TablesV) (c : ClaimV) : Bool := decide (30 < c.stubs.length + c.scions.length + c.checks.length) || (decide (30 < x.stubs.length) || (decide (30 < x.scions.length) || decide (30 < x.received.length)))
def stubP (t : TraceE) (stubs : List StubE) (received : List Int) (n : NeedE) : Bool := quietB n t stubs && arrivedB n.peer n.stamp received
def scionP (t : TraceE) (scions : List ScionE) (received : List Int) (n : NeedE) : Bool := scionB n t scions && arrivedB n.peer n.stamp received
def checkB (c : ClaimV) (t : TraceE) (epoch : Int) (stubs : List StubE) (scions : List ScionE) (received : List Int) : Bool :=
  !teq t.machine t.serial 0 0 && (c.epoch == epoch && (c.stubs.all (stubP t stubs received) && (c.checks.all (fun n => quietB n t stubs) && c.scions.all (scionP t scions received))))
def namedB {E : Type} (is_ : Int → Int → E → Bool) (H : NeedE → E → Bool) (entries : List E) (n : NeedE) : Bool := match entries.find? (is_ n.peer n.number) with | some e => H n e | none => false
theorem checkB_named (c : ClaimV) (t : TraceE) (epoch : Int) (stubs : List StubE) (scions : List ScionE) (received : List Int) :
    checkB c t epoch stubs scions received = (!teq t.machine t.serial 0 0 && (c.epoch == epoch && (c.stubs.all (namedB isStub (fun n e => quietE t e && arrivedB n.peer n.stamp received) stubs) &&
      (c.checks.all (namedB isStub (fun _ e => quietE t e) stubs) && c.scions.all (namedB isScion (fun n e => scionE t e && arrivedB n.peer n.stamp received) scions))))) := by
  have h1 : stubP t stubs received = namedB isStub (fun n e => quietE t e && arrivedB n.peer n.stamp received) stubs := by
    funext n; simp only [stubP, quietB, namedB]; cases stubs.find? (isStub n.peer n.number) <;> simp
  have h2 : (fun n => quietB n t stubs) = namedB isStub (fun _ e => quietE t e) stubs := by
    funext n; simp only [quietB, namedB]; cases stubs.find? (isStub n.peer n.number) <;> simp
  have h3 : scionP t scions received = namedB isScion (fun n e => scionE t e && arrivedB n.peer n.stamp received) scions := by
    funext n; simp only [scionP, scionB, namedB]; cases scions.find? (isScion n.peer n.number) <;> simp
  unfold checkB
  rw [h1, h2, h3]
end Go.Proofs.Ytnjpmpelgigmjaa
