/-
  Views of a fleet, as they lie in memory: what each struct's cells are, and what is known of them in later worlds. No condition.
-/
import Derived.Test.YtpkfenlfgdbkcaaGreatDoorGrp30
import Derived.Laws.Tables
import Derived.Laws.Rows
set_option linter.unusedSimpArgs false
set_option linter.unusedVariables false
namespace Go.Proofs.YtpkfenlfgdbkcaaGreatDoor
open Go.RowKit
@[ext] structure RefE where
  kind : Int
  int : Int
  owner : Int
  number : Int
  iDMachine : Int
  iDSerial : Int
  clas : Int
  weak : Bool
def RefE.cells (e : RefE) : List Value := [.int .i64 e.kind, .int .i64 e.int, .int .i64 e.owner, .int .u64 e.number, .int .i64 e.iDMachine, .int .i64 e.iDSerial, .int .i64 e.clas, .bool e.weak]
theorem RefE.cells_length (e : RefE) : e.cells.length = 8 := rfl
abbrev RefE.v (e : RefE) : Value := .agg #[.int .i64 e.kind, .int .i64 e.int, .int .i64 e.owner, .int .u64 e.number, .int .i64 e.iDMachine, .int .i64 e.iDSerial, .int .i64 e.clas, .bool e.weak]
abbrev RefE.arr (e : RefE) : Array Value := #[.int .i64 e.kind, .int .i64 e.int, .int .i64 e.owner, .int .u64 e.number, .int .i64 e.iDMachine, .int .i64 e.iDSerial, .int .i64 e.clas, .bool e.weak]
theorem RefE.facts {e : RefE} {w : World} {b off k : Nat} (h : ∀ j u, e.cells[j]? = some u → w.cell? ⟨b, off + k * 8 + j, none⟩ = some u) : w.cell? ⟨b, off + k * 8, none⟩ = some (.int .i64 e.kind) ∧ w.cell? ⟨b, off + k * 8 + 1, none⟩ = some (.int .i64 e.int) ∧ w.cell? ⟨b, off + k * 8 + 2, none⟩ = some (.int .i64 e.owner) ∧ w.cell? ⟨b, off + k * 8 + 3, none⟩ = some (.int .u64 e.number) ∧ w.cell? ⟨b, off + k * 8 + 4, none⟩ = some (.int .i64 e.iDMachine) ∧ w.cell? ⟨b, off + k * 8 + 5, none⟩ = some (.int .i64 e.iDSerial) ∧ w.cell? ⟨b, off + k * 8 + 6, none⟩ = some (.int .i64 e.clas) ∧ w.cell? ⟨b, off + k * 8 + 7, none⟩ = some (.bool e.weak) :=
  ⟨by simpa using h 0 _ rfl, by simpa using h 1 _ rfl, by simpa using h 2 _ rfl, by simpa using h 3 _ rfl, by simpa using h 4 _ rfl, by simpa using h 5 _ rfl, by simpa using h 6 _ rfl, by simpa using h 7 _ rfl⟩
/-- The element lies there, in each later world. -/
abbrev RefE.Has (w : World) (b off k : Nat) (e : RefE) : Prop := ∀ (u : World) [Later w u], u.cell? ⟨b, off + k * 8, none⟩ = some (.int .i64 e.kind) ∧ u.cell? ⟨b, off + k * 8 + 1, none⟩ = some (.int .i64 e.int) ∧ u.cell? ⟨b, off + k * 8 + 2, none⟩ = some (.int .i64 e.owner) ∧ u.cell? ⟨b, off + k * 8 + 3, none⟩ = some (.int .u64 e.number) ∧ u.cell? ⟨b, off + k * 8 + 4, none⟩ = some (.int .i64 e.iDMachine) ∧ u.cell? ⟨b, off + k * 8 + 5, none⟩ = some (.int .i64 e.iDSerial) ∧ u.cell? ⟨b, off + k * 8 + 6, none⟩ = some (.int .i64 e.clas) ∧ u.cell? ⟨b, off + k * 8 + 7, none⟩ = some (.bool e.weak)
theorem RefE.has {e : RefE} {w : World} {b off k : Nat} (hb : b < w.heap.size) (h : ∀ j u, e.cells[j]? = some u → w.cell? ⟨b, off + k * 8 + j, none⟩ = some u) : RefE.Has w b off k e := fun u i => RefE.facts fun j v hv => (i.below.cell (p := ⟨b, _, none⟩) hb).trans (h j v hv)
theorem RefE.get {w : World} {A : Option Addr} {l : List RefE} (h : SlAt RefE.cells 8 w A l) {k : Nat} (hk : k < l.length) : ∃ b off x, A = some ⟨b, off, none⟩ ∧ l[k]? = some x ∧ RefE.Has w b off k x := by
  obtain ⟨b, off, x, hA, hb, hx, hc⟩ := h.at_ hk
  exact ⟨b, off, x, hA, hx, RefE.has hb hc⟩
def RefE.beq (x y : RefE) : Bool := x.kind == y.kind && x.int == y.int && x.owner == y.owner && x.number == y.number && x.iDMachine == y.iDMachine && x.iDSerial == y.iDSerial && x.clas == y.clas && x.weak == y.weak
theorem RefE.beq_iff {x y : RefE} : x.beq y = true ↔ x = y := by
  cases x; cases y; simp [RefE.beq, Bool.and_eq_true, and_assoc]
theorem RefE.enc : Enc RefE.cells 8 := ⟨fun _ => rfl, fun x u hu => by simp only [RefE.cells, List.mem_cons, List.not_mem_nil, or_false] at hu; rcases hu with rfl | rfl | rfl | rfl | rfl | rfl | rfl | rfl <;> rfl, by decide⟩
@[ext] structure ScionE where
  client : Int
  number : Int
  iDMachine : Int
  iDSerial : Int
  out : Int
  inn : Int
  distance : Int
  touched : Bool
  weak : Bool
  garbage : Bool
  lockMachine : Int
  lockSerial : Int
def ScionE.cells (e : ScionE) : List Value := [.int .i64 e.client, .int .u64 e.number, .int .i64 e.iDMachine, .int .i64 e.iDSerial, .int .i64 e.out, .int .i64 e.inn, .int .i64 e.distance, .bool e.touched, .bool e.weak, .bool e.garbage, .int .i64 e.lockMachine, .int .i64 e.lockSerial]
theorem ScionE.cells_length (e : ScionE) : e.cells.length = 12 := rfl
abbrev ScionE.v (e : ScionE) : Value := .agg #[.int .i64 e.client, .int .u64 e.number, .int .i64 e.iDMachine, .int .i64 e.iDSerial, .int .i64 e.out, .int .i64 e.inn, .int .i64 e.distance, .bool e.touched, .bool e.weak, .bool e.garbage, .int .i64 e.lockMachine, .int .i64 e.lockSerial]
abbrev ScionE.arr (e : ScionE) : Array Value := #[.int .i64 e.client, .int .u64 e.number, .int .i64 e.iDMachine, .int .i64 e.iDSerial, .int .i64 e.out, .int .i64 e.inn, .int .i64 e.distance, .bool e.touched, .bool e.weak, .bool e.garbage, .int .i64 e.lockMachine, .int .i64 e.lockSerial]
theorem ScionE.facts {e : ScionE} {w : World} {b off k : Nat} (h : ∀ j u, e.cells[j]? = some u → w.cell? ⟨b, off + k * 12 + j, none⟩ = some u) : w.cell? ⟨b, off + k * 12, none⟩ = some (.int .i64 e.client) ∧ w.cell? ⟨b, off + k * 12 + 1, none⟩ = some (.int .u64 e.number) ∧ w.cell? ⟨b, off + k * 12 + 2, none⟩ = some (.int .i64 e.iDMachine) ∧ w.cell? ⟨b, off + k * 12 + 3, none⟩ = some (.int .i64 e.iDSerial) ∧ w.cell? ⟨b, off + k * 12 + 4, none⟩ = some (.int .i64 e.out) ∧ w.cell? ⟨b, off + k * 12 + 5, none⟩ = some (.int .i64 e.inn) ∧ w.cell? ⟨b, off + k * 12 + 6, none⟩ = some (.int .i64 e.distance) ∧ w.cell? ⟨b, off + k * 12 + 7, none⟩ = some (.bool e.touched) ∧ w.cell? ⟨b, off + k * 12 + 8, none⟩ = some (.bool e.weak) ∧ w.cell? ⟨b, off + k * 12 + 9, none⟩ = some (.bool e.garbage) ∧ w.cell? ⟨b, off + k * 12 + 10, none⟩ = some (.int .i64 e.lockMachine) ∧ w.cell? ⟨b, off + k * 12 + 11, none⟩ = some (.int .i64 e.lockSerial) :=
  ⟨by simpa using h 0 _ rfl, by simpa using h 1 _ rfl, by simpa using h 2 _ rfl, by simpa using h 3 _ rfl, by simpa using h 4 _ rfl, by simpa using h 5 _ rfl, by simpa using h 6 _ rfl, by simpa using h 7 _ rfl, by simpa using h 8 _ rfl, by simpa using h 9 _ rfl, by simpa using h 10 _ rfl, by simpa using h 11 _ rfl⟩
/-- The element lies there, in each later world. -/
abbrev ScionE.Has (w : World) (b off k : Nat) (e : ScionE) : Prop := ∀ (u : World) [Later w u], u.cell? ⟨b, off + k * 12, none⟩ = some (.int .i64 e.client) ∧ u.cell? ⟨b, off + k * 12 + 1, none⟩ = some (.int .u64 e.number) ∧ u.cell? ⟨b, off + k * 12 + 2, none⟩ = some (.int .i64 e.iDMachine) ∧ u.cell? ⟨b, off + k * 12 + 3, none⟩ = some (.int .i64 e.iDSerial) ∧ u.cell? ⟨b, off + k * 12 + 4, none⟩ = some (.int .i64 e.out) ∧ u.cell? ⟨b, off + k * 12 + 5, none⟩ = some (.int .i64 e.inn) ∧ u.cell? ⟨b, off + k * 12 + 6, none⟩ = some (.int .i64 e.distance) ∧ u.cell? ⟨b, off + k * 12 + 7, none⟩ = some (.bool e.touched) ∧ u.cell? ⟨b, off + k * 12 + 8, none⟩ = some (.bool e.weak) ∧ u.cell? ⟨b, off + k * 12 + 9, none⟩ = some (.bool e.garbage) ∧ u.cell? ⟨b, off + k * 12 + 10, none⟩ = some (.int .i64 e.lockMachine) ∧ u.cell? ⟨b, off + k * 12 + 11, none⟩ = some (.int .i64 e.lockSerial)
theorem ScionE.has {e : ScionE} {w : World} {b off k : Nat} (hb : b < w.heap.size) (h : ∀ j u, e.cells[j]? = some u → w.cell? ⟨b, off + k * 12 + j, none⟩ = some u) : ScionE.Has w b off k e := fun u i => ScionE.facts fun j v hv => (i.below.cell (p := ⟨b, _, none⟩) hb).trans (h j v hv)
theorem ScionE.get {w : World} {A : Option Addr} {l : List ScionE} (h : SlAt ScionE.cells 12 w A l) {k : Nat} (hk : k < l.length) : ∃ b off x, A = some ⟨b, off, none⟩ ∧ l[k]? = some x ∧ ScionE.Has w b off k x := by
  obtain ⟨b, off, x, hA, hb, hx, hc⟩ := h.at_ hk
  exact ⟨b, off, x, hA, hx, ScionE.has hb hc⟩
def ScionE.beq (x y : ScionE) : Bool := x.client == y.client && x.number == y.number && x.iDMachine == y.iDMachine && x.iDSerial == y.iDSerial && x.out == y.out && x.inn == y.inn && x.distance == y.distance && x.touched == y.touched && x.weak == y.weak && x.garbage == y.garbage && x.lockMachine == y.lockMachine && x.lockSerial == y.lockSerial
theorem ScionE.beq_iff {x y : ScionE} : x.beq y = true ↔ x = y := by
  cases x; cases y; simp [ScionE.beq, Bool.and_eq_true, and_assoc]
theorem ScionE.enc : Enc ScionE.cells 12 := ⟨fun _ => rfl, fun x u hu => by simp only [ScionE.cells, List.mem_cons, List.not_mem_nil, or_false] at hu; rcases hu with rfl | rfl | rfl | rfl | rfl | rfl | rfl | rfl | rfl | rfl | rfl | rfl <;> rfl, by decide⟩
theorem refT : ElemT Tryz.prog 70 69 8 64 := ElemT.mk' (z := .agg #[.int .i64 0, .int .i64 0, .int .i64 0, .int .u64 0, .int .i64 0, .int .i64 0, .int .i64 0, .bool false]) Tryz.underlying70 (by kernel_rfl) rfl
abbrev BsE := ByteArray
/-- A name. -/
structure NamedE where
  name : ByteArray
  rM : Int
  rS : Int
def NamedE.cells (x : NamedE) : List Value := [.string x.name, .int .i64 x.rM, .int .i64 x.rS]
abbrev NamedE.v (x : NamedE) : Value := .agg #[.string x.name, .int .i64 x.rM, .int .i64 x.rS]
abbrev NamedE.arr (x : NamedE) : Array Value := #[.string x.name, .int .i64 x.rM, .int .i64 x.rS]
def NamedE.ref (x : NamedE) : IDE := ⟨x.rM, x.rS⟩
instance : Inhabited NamedE := ⟨⟨ByteArray.empty, 0, 0⟩⟩
/-- A message in a mailbox: its arguments lie at A. -/
structure MailE where
  iM : Int
  iS : Int
  tM : Int
  tS : Int
  method : ByteArray
  A : Option Addr
  c : Nat
  args : List ValE
def MailE.cells (x : MailE) : List Value := [.int .i64 x.iM, .int .i64 x.iS, .int .i64 x.tM, .int .i64 x.tS, .string x.method, .slice x.A x.args.length x.c]
abbrev MailE.v (x : MailE) : Value := .agg #[.int .i64 x.iM, .int .i64 x.iS, .int .i64 x.tM, .int .i64 x.tS, .string x.method, .slice x.A x.args.length x.c]
abbrev MailE.arr (x : MailE) : Array Value := #[.int .i64 x.iM, .int .i64 x.iS, .int .i64 x.tM, .int .i64 x.tS, .string x.method, .slice x.A x.args.length x.c]
def MailE.dst (x : MailE) : IDE := ⟨x.tM, x.tS⟩
/-- A letter on its way: its arguments lie at A. -/
structure LetterE where
  iM : Int
  iS : Int
  method : ByteArray
  A : Option Addr
  c : Nat
  args : List RefE
def LetterE.cells (x : LetterE) : List Value := [.int .i64 x.iM, .int .i64 x.iS, .string x.method, .slice x.A x.args.length x.c]
abbrev LetterE.v (x : LetterE) : Value := .agg #[.int .i64 x.iM, .int .i64 x.iS, .string x.method, .slice x.A x.args.length x.c]
abbrev LetterE.arr (x : LetterE) : Array Value := #[.int .i64 x.iM, .int .i64 x.iS, .string x.method, .slice x.A x.args.length x.c]
/-- A parcel. -/
structure ParcelE where
  number : Int
  iM : Int
  iS : Int
  kind : Int
  clas : Int
  fA : Option Addr
  fc : Nat
  fields : List RefE
  mA : Option Addr
  mc : Nat
  mail : List LetterE
  wA : Option Addr
  wn : Nat
  wc : Nat
def ParcelE.id (x : ParcelE) : IDE := ⟨x.iM, x.iS⟩
def ParcelE.cells (x : ParcelE) : List Value := [.int .u64 x.number, .int .i64 x.iM, .int .i64 x.iS, .int .i64 x.kind, .int .i64 x.clas, .slice x.fA x.fields.length x.fc, .slice x.mA x.mail.length x.mc, .slice x.wA x.wn x.wc]
abbrev ParcelE.arr (x : ParcelE) : Array Value := #[.int .u64 x.number, .int .i64 x.iM, .int .i64 x.iS, .int .i64 x.kind, .int .i64 x.clas, .slice x.fA x.fields.length x.fc, .slice x.mA x.mail.length x.mc, .slice x.wA x.wn x.wc]
abbrev ParcelE.v (x : ParcelE) : Value := .agg #[.int .u64 x.number, .int .i64 x.iM, .int .i64 x.iS, .int .i64 x.kind, .int .i64 x.clas, .slice x.fA x.fields.length x.fc, .slice x.mA x.mail.length x.mc, .slice x.wA x.wn x.wc]
/-- A message between machines: the cells that no function here reads are kept as they are. -/
structure MsgE where
  kind : Int
  number : Int
  asker : Int
  name : ByteArray
  ref : RefE
  letter : LetterE
  parcel : ParcelE
  tail : List Value
def MsgE.cells (x : MsgE) : List Value := [.int .i64 x.kind, .int .u64 x.number, .int .i64 x.asker, .string x.name] ++ x.ref.cells ++ x.letter.cells ++ x.parcel.cells ++ x.tail
/-- A flight. -/
structure FlightE where
  dst : Int
  seq : Int
  msg : MsgE
def FlightE.cells (x : FlightE) : List Value := [.int .i64 x.dst, .int .i64 x.seq] ++ x.msg.cells
def MsgE.arr (x : MsgE) : Array Value := x.cells.toArray
def FlightE.arr (x : FlightE) : Array Value := x.cells.toArray
abbrev MsgE.v (x : MsgE) : Value := .agg x.arr
abbrev FlightE.v (x : FlightE) : Value := .agg x.arr
/-- A view. -/
structure ViewE where
  machine : Int
  mode : Int
  oA : Option Addr
  oc : Nat
  objects : List NodeE
  tA : Option Addr
  tn : Nat
  tc : Nat
  sA : Option Addr
  sc : Nat
  scions : List ScionE
  nA : Option Addr
  nc : Nat
  names : List NamedE
  mA : Option Addr
  mc : Nat
  mail : List MailE
  wA : Option Addr
  wn : Nat
  wc : Nat
  pA : Option Addr
  pn : Nat
  pc : Nat
  fA : Option Addr
  fc : Nat
  flights : List FlightE
  rA : Option Addr
  rc : Nat
  received : List Int
  clock : Int
  epoch : Int
def ViewE.cells (x : ViewE) : List Value := [.int .i64 x.machine, .int .i64 x.mode, .slice x.oA x.objects.length x.oc, .slice x.tA x.tn x.tc, .slice x.sA x.scions.length x.sc, .slice x.nA x.names.length x.nc, .slice x.mA x.mail.length x.mc, .slice x.wA x.wn x.wc, .slice x.pA x.pn x.pc, .slice x.fA x.flights.length x.fc, .slice x.rA x.received.length x.rc, .int .i64 x.clock, .int .i64 x.epoch]
def ViewE.arr (x : ViewE) : Array Value := x.cells.toArray
abbrev ViewE.v (x : ViewE) : Value := .agg x.arr
def zeroView : ViewE := ⟨0, 0, none, 0, [], none, 0, 0, none, 0, [], none, 0, [], none, 0, [], none, 0, 0, none, 0, 0, none, 0, [], none, 0, [], 0, 0⟩
instance : Inhabited ViewE := ⟨zeroView⟩
/-! ### What is known of them -/
def LetterOk (w : World) (x : LetterE) : Prop := SlAt RefE.cells 8 w x.A x.args
structure ParcelOk (w : World) (x : ParcelE) : Prop where
  f : SlAt RefE.cells 8 w x.fA x.fields
  m : SlAt LetterE.cells 4 w x.mA x.mail
  l : ∀ y ∈ x.mail, LetterOk w y
structure FlightOk (w : World) (x : FlightE) : Prop where
  t : x.msg.tail.length = 15
  o : ∀ v ∈ x.msg.tail, v.oneCell' = true
  l : LetterOk w x.msg.letter
  p : ParcelOk w x.msg.parcel
structure ViewOk (w : World) (x : ViewE) : Prop where
  o : NodesAt w x.oA x.objects
  s : SlAt ScionE.cells 12 w x.sA x.scions
  n : SlAt NamedE.cells 3 w x.nA x.names
  m : SlAt MailE.cells 6 w x.mA x.mail
  a : ∀ y ∈ x.mail, SlAt ValE.cells 4 w y.A y.args
  f : SlAt FlightE.cells 41 w x.fA x.flights
  g : ∀ y ∈ x.flights, FlightOk w y
  r : SlAt I64.cells 1 w x.rA x.received
structure ViewsAt (w : World) (A : Option Addr) (V : List ViewE) : Prop where
  s : SlAt ViewE.cells 13 w A V
  v : ∀ x ∈ V, ViewOk w x
theorem LetterOk.below {w w' : World} {x : LetterE} (h : LetterOk w x) (hb : Below w.heap.size w w') : LetterOk w' x := SlAt.below h hb
theorem ParcelOk.below {w w' : World} {x : ParcelE} (h : ParcelOk w x) (hb : Below w.heap.size w w') : ParcelOk w' x := ⟨h.f.below hb, h.m.below hb, fun y hy => (h.l y hy).below hb⟩
theorem FlightOk.below {w w' : World} {x : FlightE} (h : FlightOk w x) (hb : Below w.heap.size w w') : FlightOk w' x := ⟨h.t, h.o, h.l.below hb, h.p.below hb⟩
theorem ViewOk.below {w w' : World} {x : ViewE} (h : ViewOk w x) (hb : Below w.heap.size w w') : ViewOk w' x := ⟨h.o.below hb, h.s.below hb, h.n.below hb, h.m.below hb, fun y hy => (h.a y hy).below hb, h.f.below hb, fun y hy => (h.g y hy).below hb, h.r.below hb⟩
theorem ViewsAt.below {w w' : World} {A : Option Addr} {V : List ViewE} (h : ViewsAt w A V) (hb : Below w.heap.size w w') : ViewsAt w' A V := ⟨h.s.below hb, fun x hx => (h.v x hx).below hb⟩
theorem ViewsAt.later {w : World} {A : Option Addr} {V : List ViewE} (h : ViewsAt w A V) : ∀ u [Later w u], ViewsAt u A V := fun _ i => h.below i.below
theorem ViewOk.later {w : World} {x : ViewE} (h : ViewOk w x) : ∀ u [Later w u], ViewOk u x := fun _ i => h.below i.below
theorem FlightOk.later {w : World} {x : FlightE} (h : FlightOk w x) : ∀ u [Later w u], FlightOk u x := fun _ i => h.below i.below
theorem zeroView_ok (w : World) : ViewOk w zeroView := ⟨⟨SlAt.nil, fun n hn => (by cases hn), fun n hn => (by cases hn)⟩, SlAt.nil, SlAt.nil, SlAt.nil, fun n hn => (by cases hn), SlAt.nil, fun n hn => (by cases hn), SlAt.nil⟩
/-! ### Cells -/
theorem FlightE.cells_length {w : World} {x : FlightE} (h : FlightOk w x) : x.cells.length = 41 := by
  unfold FlightE.cells MsgE.cells
  simp [h.t, RefE.cells, LetterE.cells, ParcelE.cells]
theorem FlightE.arr_size {w : World} {x : FlightE} (h : FlightOk w x) : x.arr.size = 41 := by unfold FlightE.arr; rw [List.size_toArray]; exact FlightE.cells_length h
theorem MsgE.arr_size {w : World} {x : FlightE} (h : FlightOk w x) : x.msg.arr.size = 39 := by
  unfold MsgE.arr MsgE.cells
  simp [h.t, RefE.cells, LetterE.cells, ParcelE.cells]
theorem ViewE.arr_size (x : ViewE) : x.arr.size = 13 := rfl
theorem ViewE.one (x : ViewE) : x.arr.all (·.oneCell') = true := by
  rw [Array.all_eq_true_iff_forall_mem]
  intro v hv
  have hv : v ∈ x.cells := by simpa [ViewE.arr] using hv
  simp only [ViewE.cells, List.mem_cons, List.not_mem_nil, or_false] at hv
  rcases hv with rfl | rfl | rfl | rfl | rfl | rfl | rfl | rfl | rfl | rfl | rfl | rfl | rfl <;> rfl
theorem MsgE.one' {w : World} {x : FlightE} (h : FlightOk w x) : ∀ v ∈ x.msg.cells, v.oneCell' = true := by
  intro v hv
  unfold MsgE.cells at hv
  simp only [List.mem_append, RefE.cells, LetterE.cells, ParcelE.cells, List.mem_cons, List.not_mem_nil, or_false] at hv
  rcases hv with (((h0 | h0) | h0) | h0) | h0
  · rcases h0 with rfl | rfl | rfl | rfl <;> rfl
  · rcases h0 with rfl | rfl | rfl | rfl | rfl | rfl | rfl | rfl <;> rfl
  · rcases h0 with rfl | rfl | rfl | rfl <;> rfl
  · rcases h0 with rfl | rfl | rfl | rfl | rfl | rfl | rfl | rfl <;> rfl
  · exact h.o v h0
theorem FlightE.one {w : World} {x : FlightE} (h : FlightOk w x) : x.arr.all (·.oneCell') = true := by
  rw [Array.all_eq_true_iff_forall_mem]
  intro v hv
  have hv : v ∈ x.cells := by simpa [FlightE.arr] using hv
  unfold FlightE.cells at hv
  rcases List.mem_append.1 hv with h0 | h0
  · simp only [List.mem_cons, List.not_mem_nil, or_false] at h0
    rcases h0 with rfl | rfl <;> rfl
  · exact MsgE.one' h v h0
theorem MsgE.one {w : World} {x : FlightE} (h : FlightOk w x) : x.msg.arr.all (·.oneCell') = true := by
  rw [Array.all_eq_true_iff_forall_mem]
  intro v hv
  exact MsgE.one' h v (by simpa [MsgE.arr] using hv)
theorem flightRow : Tryz.prog.underlying 87 = some (.struct (Tryz.prog.fieldsOf 87)) := by kernel_rfl
theorem msgRow : Tryz.prog.underlying 85 = some (.struct (Tryz.prog.fieldsOf 85)) := by kernel_rfl
theorem viewRow : Tryz.prog.underlying 64 = some (.struct (Tryz.prog.fieldsOf 64)) := by kernel_rfl
theorem flightN : (Tryz.prog.info? 87).map (·.size) = some 41 := by kernel_rfl
theorem msgN : (Tryz.prog.info? 85).map (·.size) = some 39 := by kernel_rfl
theorem viewN : (Tryz.prog.info? 64).map (·.size) = some 13 := by kernel_rfl
/-- A struct by value out of the middle of a block: its cells a variable. -/
theorem load_row {P : Program} {ty : TypeId} {fs : Array Field} {n : Nat} {cs : Array Value} (hu : P.underlying ty = some (.struct fs)) (hi : (P.info? ty).map (·.size) = some n) (hn : cs.size = n) {w : World} {b o : Nat} (hc : ∀ j v, cs[j]? = some v → w.cell? ⟨b, o + j, none⟩ = some v) :
    (Instr.loadAt ty (.pointer (some ⟨b, o, none⟩))).run P w = .ok (.agg cs) w := by
  have hl : (loadCells ⟨b, o, none⟩ cs.toList.length).run P w = .ok cs.toList.toArray w :=
    run_loadCells_list (P := P) w ⟨b, o, none⟩ cs.toList (fun j v hv => by
      have hadd : (⟨b, o, none⟩ : Addr).add j = ⟨b, o + j, none⟩ := by unfold Addr.add; split <;> simp_all
      rw [hadd]; exact hc j v (by simpa using hv))
  cases hq : P.info? ty with
  | none => simp [hq] at hi
  | some i =>
    have hs : i.size = cs.size := by simp [hq] at hi; omega
    have hagg : (isAgg ty).run P w = .ok true w := by
      unfold isAgg
      rw [Sem.run_bind, run_underlying hu w]
      simp
    simp only [Array.length_toList, Array.toArray_toList] at hl
    simp [Instr.loadAt, Instr.sureAddr, loadVar, Sem.run_bind, hagg, sizeOf, typeInfo, hq, hs, hl]
/-- .. out of a block that is known whole. -/
theorem load_box {P : Program} {ty : TypeId} {fs : Array Field} {n : Nat} {cs : Array Value} {t : TypeId} (hu : P.underlying ty = some (.struct fs)) (hi : (P.info? ty).map (·.size) = some n) (hn : cs.size = n) {w0 : World} {g : Nat} (hB : Boxed w0 g cs t) :
    ∀ u [Later w0 u], (Instr.loadAt ty (.pointer (some ⟨g, 0, none⟩))).run P u = .ok (.agg cs) u := fun u i => load_row hu hi hn fun j v hv => by rw [Nat.zero_add, ((hB u).2 j).1]; exact hv
theorem loadVar_row {P : Program} {ty : TypeId} {fs : Array Field} {n : Nat} {cs : Array Value} (hu : P.underlying ty = some (.struct fs)) (hi : (P.info? ty).map (·.size) = some n) (hn : cs.size = n) {w : World} {g : Nat} {t : TypeId} (hb : w.heap[g]? = some (.cells cs t (0, 0))) :
    (loadVar ty ⟨g, 0, none⟩).run P w = .ok (.agg cs) w := run_loadVar_row w g t ty cs (0, 0) _ hb hu rfl (by rw [hi, hn])
/-- Results out of cells. -/
theorem results_cell {P : Program} {fn : Func} {a : Tmp} {ty : TypeId} (h : fn.results = #[.cell a ty]) {tmps : Array Value} {w : World} {p : Addr} {v : Value} (ha : tmps.getD a undef = .pointer (some p)) (hl : (loadVar ty p).run P w = .ok v w) :
    (results fn tmps).run P w = .ok v w := by
  simp only [Array.getD_eq_getD_getElem?] at ha
  simp [results, h, ha, asAddr, hl]
theorem results_cell_tmp {P : Program} {fn : Func} {a b : Tmp} {ty : TypeId} (h : fn.results = #[.cell a ty, .tmp b]) {tmps : Array Value} {w : World} {p : Addr} {v x : Value} (ha : tmps.getD a undef = .pointer (some p)) (hx : tmps.getD b undef = x) (hl : (loadVar ty p).run P w = .ok v w) :
    (results fn tmps).run P w = .ok (.tuple #[v, x]) w := by
  simp only [Array.getD_eq_getD_getElem?] at ha hx
  simp [results, h, ha, hx, asAddr, hl]
theorem results_cell2 {P : Program} {fn : Func} {a b : Tmp} {ty tz : TypeId} (h : fn.results = #[.cell a ty, .cell b tz]) {tmps : Array Value} {w : World} {p q : Addr} {v x : Value} (ha : tmps.getD a undef = .pointer (some p)) (hb : tmps.getD b undef = .pointer (some q)) (hl : (loadVar ty p).run P w = .ok v w) (hm : (loadVar tz q).run P w = .ok x w) :
    (results fn tmps).run P w = .ok (.tuple #[v, x]) w := by
  simp only [Array.getD_eq_getD_getElem?] at ha hb
  simp [results, h, ha, hb, asAddr, hl, hm]
theorem setRow_alloc {w : World} {c c' : Array Value} {t : TypeId} : (w.alloc (.cells c t)).setRow w.heap.size c' = w.alloc (.cells c' t) := by
  simp only [World.setRow, World.alloc]
  congr 1
  apply Array.ext_getElem?
  intro i
  rw [Array.getElem?_modify]
  by_cases h : w.heap.size = i
  · subst h
    simp
  · have h' : ¬ i = w.heap.size := fun e => h e.symm
    simp [h, h', Array.getElem?_push]
/-- A struct by value into a block that is known whole. -/
theorem store_row {P : Program} {ty t : TypeId} {n : Nat} {old cs : Array Value} (hi : (P.info? ty).map (·.size) = some n) (hn : cs.size = n) (ho : old.size = n) (h1 : cs.all (·.oneCell') = true) {w : World} {g : Nat} (hg : w.heap[g]? = some (.cells old t (0, 0))) :
    (Instr.storeAt ty (.pointer (some ⟨g, 0, none⟩)) (.agg cs)).run P w = .ok () (w.setRow g cs) := by
  have := run_storeVar_row (P := P) w g t ty old cs hg (by rw [hi, hn]) (by omega) h1
  simp only [Instr.storeAt, Instr.sureAddr, Sem.run_bind, Sem.run_pure, Result.andThen_ok, this]
/-- .. into the block made last. -/
theorem store_new {P : Program} {ty : TypeId} {n : Nat} {cs : Array Value} (hi : (P.info? ty).map (·.size) = some n) (hn : cs.size = n) (h1 : cs.all (·.oneCell') = true) (w : World) (old : Array Value) (t : TypeId) (ho : old.size = n) :
    (Instr.storeAt ty (.pointer (some ⟨w.heap.size, 0, none⟩)) (.agg cs)).run P (w.alloc (.cells old t)) = .ok () (w.alloc (.cells cs t)) := by
  rw [store_row hi hn ho h1 (heap_alloc_new w _), setRow_alloc]
theorem below_setRow {B : Nat} {a w : World} {g : Nat} {cs : Array Value} (h : Below B a w) (hg : B ≤ g) : Below B a (w.setRow g cs) := by
  refine ⟨h.os, h.tape, h.output, by rw [setRow_size]; exact h.size, fun k hk => ?_⟩
  rw [setRow_other w g k cs (by omega)]
  exact h.block k hk
/-! ### Structs by value in a walk: whole rows, never opened -/
open Classical in
/-- The n cells from an offset on, if they are there. -/
noncomputable def rowOf (u : World) (g o n : Nat) : Option (Array Value) := if h : ∃ cs : Array Value, cs.size = n ∧ ∀ j v, cs[j]? = some v → u.cell? ⟨g, o + j, none⟩ = some v then some (Classical.choose h) else none
theorem rowOf_some {u : World} {g o n : Nat} {cs : Array Value} (h : rowOf u g o n = some cs) : cs.size = n ∧ ∀ j v, cs[j]? = some v → u.cell? ⟨g, o + j, none⟩ = some v := by
  unfold rowOf at h
  split at h
  · next hx => injection h with h; rw [← h]; exact Classical.choose_spec hx
  · cases h
theorem rowOf_eq {u : World} {g o n : Nat} {cs : Array Value} (hn : cs.size = n) (hc : ∀ j v, cs[j]? = some v → u.cell? ⟨g, o + j, none⟩ = some v) : rowOf u g o n = some cs := by
  have hx : ∃ cs : Array Value, cs.size = n ∧ ∀ j v, cs[j]? = some v → u.cell? ⟨g, o + j, none⟩ = some v := ⟨cs, hn, hc⟩
  cases h : rowOf u g o n with
  | none => unfold rowOf at h; rw [dif_pos hx] at h; cases h
  | some c =>
    obtain ⟨h1, h2⟩ := rowOf_some h
    congr 1
    apply Array.ext_getElem?
    intro j
    rcases Nat.lt_or_ge j n with hj | hj
    · have e1 : c[j]? = some (c[j]'(by omega)) := Array.getElem?_eq_getElem (by omega)
      have e2 : cs[j]? = some (cs[j]'(by omega)) := Array.getElem?_eq_getElem (by omega)
      have := (h2 j _ e1).symm.trans (hc j _ e2)
      injection this with this
      rw [e1, e2, this]
    · rw [Array.getElem?_eq_none (by omega), Array.getElem?_eq_none (by omega)]
open Classical in
/-- A block of n cells that may be written. -/
noncomputable def rowFree (u : World) (g n : Nat) : Bool := decide (∃ old t, u.heap[g]? = some (.cells old t (0, 0)) ∧ old.size = n)
def isRow (cs : Array Value) (n : Nat) : Bool := decide (cs.size = n) && cs.all (·.oneCell')
theorem rowFree_of {u : World} {g n : Nat} {old : Array Value} {t : TypeId} (h : u.heap[g]? = some (.cells old t (0, 0))) (hn : old.size = n) : rowFree u g n = true := @decide_eq_true _ (Classical.propDecidable _) ⟨old, t, h, hn⟩
theorem rowFree_box {w0 : World} {g n : Nat} {old : Array Value} {t : TypeId} (h : Boxed w0 g old t) (hn : old.size = n) : ∀ u [Later w0 u], rowFree u g n = true := fun u i => rowFree_of (h u).1 hn
theorem rowFree_new {w : World} {g n : Nat} {old : Array Value} {t : TypeId} (hg : g = w.heap.size) (hn : old.size = n) : rowFree (w.alloc (.cells old t)) g n = true := by subst hg; exact rowFree_of (heap_alloc_new w _) hn
theorem setRow_new {w : World} {g : Nat} {c c' : Array Value} {t : TypeId} (hg : g = w.heap.size) : (w.alloc (.cells c t)).setRow g c' = w.alloc (.cells c' t) := by subst hg; exact setRow_alloc
/-- A load, a store, kept closed till its operands are values. -/
def loadBy (ty : TypeId) (p : Value) : Sem Value := Instr.loadAt ty p
def storeBy (ty : TypeId) (p v : Value) : Sem Unit := Instr.storeAt ty p v
def origLoad (P : Program) (ty : TypeId) (p : Addr) (u : World) : Result Value := (Instr.loadAt ty (.pointer (some p))).run P u
def origStore (P : Program) (ty : TypeId) (p : Addr) (v : Value) (u : World) : Result Unit := (Instr.storeAt ty (.pointer (some p)) v).run P u
theorem load_rule {P : Program} {ty : TypeId} {fs : Array Field} {n : Nat} (hu : P.underlying ty = some (.struct fs)) (hi : (P.info? ty).map (·.size) = some n) (u : World) (g o : Nat) :
    (Instr.loadAt ty (.pointer (some ⟨g, o, none⟩))).run P u = match rowOf u g o n with | some cs => .ok (.agg cs) u | none => origLoad P ty ⟨g, o, none⟩ u := by
  cases h : rowOf u g o n with
  | none => rfl
  | some cs => exact load_row hu hi (rowOf_some h).1 (rowOf_some h).2
theorem store_rule {P : Program} {ty : TypeId} {n : Nat} (hi : (P.info? ty).map (·.size) = some n) (u : World) (g : Nat) (cs : Array Value) :
    (Instr.storeAt ty (.pointer (some ⟨g, 0, none⟩)) (.agg cs)).run P u = match rowFree u g n && isRow cs n with | true => .ok () (u.setRow g cs) | false => origStore P ty ⟨g, 0, none⟩ (.agg cs) u := by
  cases h : rowFree u g n && isRow cs n with
  | false => rfl
  | true =>
    simp only [Bool.and_eq_true] at h
    obtain ⟨h1, h2⟩ := h
    obtain ⟨old, t, ho, hn⟩ := @of_decide_eq_true _ (Classical.propDecidable _) h1
    unfold isRow at h2
    simp only [Bool.and_eq_true, decide_eq_true_eq] at h2
    exact store_row hi h2.1 hn h2.2 ho
theorem load_view_pre (p : Value) : Instr.loadAt 64 p = loadBy 64 p := rfl
theorem load_view (u : World) (g o : Nat) : (loadBy 64 (.pointer (some ⟨g, o, none⟩))).run Tryz.prog u = match rowOf u g o 13 with | some cs => .ok (.agg cs) u | none => origLoad Tryz.prog 64 ⟨g, o, none⟩ u := load_rule viewRow viewN u g o
theorem load_flight_pre (p : Value) : Instr.loadAt 87 p = loadBy 87 p := rfl
theorem load_flight (u : World) (g o : Nat) : (loadBy 87 (.pointer (some ⟨g, o, none⟩))).run Tryz.prog u = match rowOf u g o 41 with | some cs => .ok (.agg cs) u | none => origLoad Tryz.prog 87 ⟨g, o, none⟩ u := load_rule flightRow flightN u g o
theorem load_msg_pre (p : Value) : Instr.loadAt 85 p = loadBy 85 p := rfl
theorem load_msg (u : World) (g o : Nat) : (loadBy 85 (.pointer (some ⟨g, o, none⟩))).run Tryz.prog u = match rowOf u g o 39 with | some cs => .ok (.agg cs) u | none => origLoad Tryz.prog 85 ⟨g, o, none⟩ u := load_rule msgRow msgN u g o
theorem store_view_pre (p v : Value) : Instr.storeAt 64 p v = storeBy 64 p v := rfl
theorem store_view (u : World) (g : Nat) (cs : Array Value) : (storeBy 64 (.pointer (some ⟨g, 0, none⟩)) (.agg cs)).run Tryz.prog u = match rowFree u g 13 && isRow cs 13 with | true => .ok () (u.setRow g cs) | false => origStore Tryz.prog 64 ⟨g, 0, none⟩ (.agg cs) u := store_rule viewN u g cs
theorem store_flight_pre (p v : Value) : Instr.storeAt 87 p v = storeBy 87 p v := rfl
theorem store_flight (u : World) (g : Nat) (cs : Array Value) : (storeBy 87 (.pointer (some ⟨g, 0, none⟩)) (.agg cs)).run Tryz.prog u = match rowFree u g 41 && isRow cs 41 with | true => .ok () (u.setRow g cs) | false => origStore Tryz.prog 87 ⟨g, 0, none⟩ (.agg cs) u := store_rule flightN u g cs
theorem store_msg_pre (p v : Value) : Instr.storeAt 85 p v = storeBy 85 p v := rfl
theorem store_msg (u : World) (g : Nat) (cs : Array Value) : (storeBy 85 (.pointer (some ⟨g, 0, none⟩)) (.agg cs)).run Tryz.prog u = match rowFree u g 39 && isRow cs 39 with | true => .ok () (u.setRow g cs) | false => origStore Tryz.prog 85 ⟨g, 0, none⟩ (.agg cs) u := store_rule msgN u g cs
theorem view_isRow (v : ViewE) : isRow v.arr 13 = true := by unfold isRow; rw [v.one]; rfl
theorem flight_isRow {w : World} {x : FlightE} (h : FlightOk w x) : isRow x.arr 41 = true := by unfold isRow; rw [FlightE.one h, FlightE.arr_size h]; rfl
theorem msg_isRow {w : World} {x : FlightE} (h : FlightOk w x) : isRow x.msg.arr 39 = true := by unfold isRow; rw [MsgE.one h, MsgE.arr_size h]; rfl
theorem zero_isRow : isRow #[.int .i64 0, .int .i64 0, .slice none 0 0, .slice none 0 0, .slice none 0 0, .slice none 0 0, .slice none 0 0, .slice none 0 0, .slice none 0 0, .slice none 0 0, .slice none 0 0, .int .i64 0, .int .i64 0] 13 = true := view_isRow zeroView
theorem scionRow : Tryz.prog.underlying 122 = some (.struct (Tryz.prog.fieldsOf 122)) := by kernel_rfl
theorem scionN : (Tryz.prog.info? 122).map (·.size) = some 12 := by kernel_rfl
theorem load_scion_pre (p : Value) : Instr.loadAt 122 p = loadBy 122 p := rfl
theorem load_scion (u : World) (g o : Nat) : (loadBy 122 (.pointer (some ⟨g, o, none⟩))).run Tryz.prog u = match rowOf u g o 12 with | some cs => .ok (.agg cs) u | none => origLoad Tryz.prog 122 ⟨g, o, none⟩ u := load_rule scionRow scionN u g o
theorem store_scion_pre (p v : Value) : Instr.storeAt 122 p v = storeBy 122 p v := rfl
theorem store_scion (u : World) (g : Nat) (cs : Array Value) : (storeBy 122 (.pointer (some ⟨g, 0, none⟩)) (.agg cs)).run Tryz.prog u = match rowFree u g 12 && isRow cs 12 with | true => .ok () (u.setRow g cs) | false => origStore Tryz.prog 122 ⟨g, 0, none⟩ (.agg cs) u := store_rule scionN u g cs
def ScionE.row (e : ScionE) : Array Value := e.arr
abbrev ScionE.w (e : ScionE) : Value := .agg e.row
theorem scion_isRow (e : ScionE) : isRow e.row 12 = true := by
  unfold isRow
  have h : e.row.all (·.oneCell') = true := by
    rw [Array.all_eq_true_iff_forall_mem]
    intro v hv
    simp only [ScionE.row, ScionE.arr, List.mem_toArray, List.mem_cons, List.not_mem_nil, or_false] at hv
    rcases hv with rfl | rfl | rfl | rfl | rfl | rfl | rfl | rfl | rfl | rfl | rfl | rfl <;> rfl
  rw [h]; rfl
def zeroScion : ScionE := ⟨0, 0, 0, 0, 0, 0, 0, false, false, false, 0, 0⟩
theorem zeroS_isRow : isRow #[.int .i64 0, .int .u64 0, .int .i64 0, .int .i64 0, .int .i64 0, .int .i64 0, .int .i64 0, .bool false, .bool false, .bool false, .int .i64 0, .int .i64 0] 12 = true := scion_isRow zeroScion
theorem ScionE.row_size (e : ScionE) : e.row.size = 12 := rfl
theorem view_arr0 (x : ViewE) : x.arr[0]? = some (.int .i64 x.machine) := rfl
theorem view_arr2 (x : ViewE) : x.arr[2]? = some (.slice x.oA x.objects.length x.oc) := rfl
theorem view_arr3 (x : ViewE) : x.arr[3]? = some (.slice x.tA x.tn x.tc) := rfl
theorem view_arr4 (x : ViewE) : x.arr[4]? = some (.slice x.sA x.scions.length x.sc) := rfl
theorem view_arr5 (x : ViewE) : x.arr[5]? = some (.slice x.nA x.names.length x.nc) := rfl
theorem view_arr6 (x : ViewE) : x.arr[6]? = some (.slice x.mA x.mail.length x.mc) := rfl
theorem view_arr9 (x : ViewE) : x.arr[9]? = some (.slice x.fA x.flights.length x.fc) := rfl
theorem view_arr10 (x : ViewE) : x.arr[10]? = some (.slice x.rA x.received.length x.rc) := rfl
theorem flight_arr0 (x : FlightE) : x.arr[0]? = some (.int .i64 x.dst) := rfl
theorem flight_arr1 (x : FlightE) : x.arr[1]? = some (.int .i64 x.seq) := rfl
theorem flight_arr2 (x : FlightE) : x.arr[2]? = some (.int .i64 x.msg.kind) := rfl
theorem flight_arr3 (x : FlightE) : x.arr[3]? = some (.int .u64 x.msg.number) := rfl
theorem flight_arr6 (x : FlightE) : x.arr[6]? = some (.int .i64 x.msg.ref.kind) := rfl
theorem flight_arr7 (x : FlightE) : x.arr[7]? = some (.int .i64 x.msg.ref.int) := rfl
theorem flight_arr8 (x : FlightE) : x.arr[8]? = some (.int .i64 x.msg.ref.owner) := rfl
theorem flight_arr9 (x : FlightE) : x.arr[9]? = some (.int .u64 x.msg.ref.number) := rfl
theorem flight_arr10 (x : FlightE) : x.arr[10]? = some (.int .i64 x.msg.ref.iDMachine) := rfl
theorem flight_arr11 (x : FlightE) : x.arr[11]? = some (.int .i64 x.msg.ref.iDSerial) := rfl
theorem flight_arr12 (x : FlightE) : x.arr[12]? = some (.int .i64 x.msg.ref.clas) := rfl
theorem flight_arr13 (x : FlightE) : x.arr[13]? = some (.bool x.msg.ref.weak) := rfl
theorem flight_arr17 (x : FlightE) : x.arr[17]? = some (.slice x.msg.letter.A x.msg.letter.args.length x.msg.letter.c) := rfl
theorem flight_arr18 (x : FlightE) : x.arr[18]? = some (.int .u64 x.msg.parcel.number) := rfl
theorem flight_arr19 (x : FlightE) : x.arr[19]? = some (.int .i64 x.msg.parcel.iM) := rfl
theorem flight_arr20 (x : FlightE) : x.arr[20]? = some (.int .i64 x.msg.parcel.iS) := rfl
theorem flight_arr21 (x : FlightE) : x.arr[21]? = some (.int .i64 x.msg.parcel.kind) := rfl
theorem flight_arr22 (x : FlightE) : x.arr[22]? = some (.int .i64 x.msg.parcel.clas) := rfl
theorem flight_arr23 (x : FlightE) : x.arr[23]? = some (.slice x.msg.parcel.fA x.msg.parcel.fields.length x.msg.parcel.fc) := rfl
theorem flight_arr24 (x : FlightE) : x.arr[24]? = some (.slice x.msg.parcel.mA x.msg.parcel.mail.length x.msg.parcel.mc) := rfl
theorem flight_arr25 (x : FlightE) : x.arr[25]? = some (.slice x.msg.parcel.wA x.msg.parcel.wn x.msg.parcel.wc) := rfl
theorem msg_arr0 (x : MsgE) : x.arr[0]? = some (.int .i64 x.kind) := rfl
theorem msg_arr1 (x : MsgE) : x.arr[1]? = some (.int .u64 x.number) := rfl
theorem msg_arr4 (x : MsgE) : x.arr[4]? = some (.int .i64 x.ref.kind) := rfl
theorem msg_arr5 (x : MsgE) : x.arr[5]? = some (.int .i64 x.ref.int) := rfl
theorem msg_arr6 (x : MsgE) : x.arr[6]? = some (.int .i64 x.ref.owner) := rfl
theorem msg_arr7 (x : MsgE) : x.arr[7]? = some (.int .u64 x.ref.number) := rfl
theorem msg_arr8 (x : MsgE) : x.arr[8]? = some (.int .i64 x.ref.iDMachine) := rfl
theorem msg_arr9 (x : MsgE) : x.arr[9]? = some (.int .i64 x.ref.iDSerial) := rfl
theorem msg_arr10 (x : MsgE) : x.arr[10]? = some (.int .i64 x.ref.clas) := rfl
theorem msg_arr11 (x : MsgE) : x.arr[11]? = some (.bool x.ref.weak) := rfl
theorem msg_arr15 (x : MsgE) : x.arr[15]? = some (.slice x.letter.A x.letter.args.length x.letter.c) := rfl
theorem msg_arr16 (x : MsgE) : x.arr[16]? = some (.int .u64 x.parcel.number) := rfl
theorem msg_arr17 (x : MsgE) : x.arr[17]? = some (.int .i64 x.parcel.iM) := rfl
theorem msg_arr18 (x : MsgE) : x.arr[18]? = some (.int .i64 x.parcel.iS) := rfl
theorem msg_arr19 (x : MsgE) : x.arr[19]? = some (.int .i64 x.parcel.kind) := rfl
theorem msg_arr20 (x : MsgE) : x.arr[20]? = some (.int .i64 x.parcel.clas) := rfl
theorem msg_arr21 (x : MsgE) : x.arr[21]? = some (.slice x.parcel.fA x.parcel.fields.length x.parcel.fc) := rfl
theorem msg_arr22 (x : MsgE) : x.arr[22]? = some (.slice x.parcel.mA x.parcel.mail.length x.parcel.mc) := rfl
theorem msg_arr23 (x : MsgE) : x.arr[23]? = some (.slice x.parcel.wA x.parcel.wn x.parcel.wc) := rfl
end Go.Proofs.YtpkfenlfgdbkcaaGreatDoor
