/-
  Contracts of the functions of this seat that each theorem names: what a call returns, and that it writes nothing that was there before. The conditions stand in each theorem.
-/
import Derived.Test.YtnfpbkimdhhmfaaLibOpen2
import Derived.Test.YtnfpbkimdhhmfaaG30Law1
import Derived.Test.YtnfpbkimdhhmfaaRows
namespace Go.Proofs.Ytnfpbkimdhhmfaa
open Go.RowKit Go.WideShapes Go.ChangeShapes
instance : Inhabited ValE := ⟨⟨0, 0, 0, 0⟩⟩
instance : Inhabited NodeE := ⟨⟨0, 0, 0, 0, none, 0, []⟩⟩
instance : Inhabited StubE := ⟨⟨0, 0, 0, 0, 0, 0, 0, false, false, false, 0, 0⟩⟩
instance : Inhabited ScionE := ⟨⟨0, 0, 0, 0, 0, 0, 0, false, false, false, 0, 0⟩⟩
@[ext] structure TraceE where
  machine : Int
  serial : Int
def TraceE.cells (e : TraceE) : List Value := [.int .i64 e.machine, .int .i64 e.serial]
theorem TraceE.cells_length (e : TraceE) : e.cells.length = 2 := rfl
abbrev TraceE.v (e : TraceE) : Value := .agg #[.int .i64 e.machine, .int .i64 e.serial]
abbrev TraceE.arr (e : TraceE) : Array Value := #[.int .i64 e.machine, .int .i64 e.serial]
theorem TraceE.facts {e : TraceE} {w : World} {b off k : Nat} (h : ∀ j u, e.cells[j]? = some u → w.cell? ⟨b, off + k * 2 + j, none⟩ = some u) : w.cell? ⟨b, off + k * 2, none⟩ = some (.int .i64 e.machine) ∧ w.cell? ⟨b, off + k * 2 + 1, none⟩ = some (.int .i64 e.serial) :=
  ⟨by simpa using h 0 _ rfl, by simpa using h 1 _ rfl⟩
/-- The element lies there, in each later world. -/
abbrev TraceE.Has (w : World) (b off k : Nat) (e : TraceE) : Prop := ∀ (u : World) [Later w u], u.cell? ⟨b, off + k * 2, none⟩ = some (.int .i64 e.machine) ∧ u.cell? ⟨b, off + k * 2 + 1, none⟩ = some (.int .i64 e.serial)
theorem TraceE.has {e : TraceE} {w : World} {b off k : Nat} (hb : b < w.heap.size) (h : ∀ j u, e.cells[j]? = some u → w.cell? ⟨b, off + k * 2 + j, none⟩ = some u) : TraceE.Has w b off k e := fun u i => TraceE.facts fun j v hv => (i.below.cell (p := ⟨b, _, none⟩) hb).trans (h j v hv)
theorem TraceE.get {w : World} {A : Option Addr} {l : List TraceE} (h : SlAt TraceE.cells 2 w A l) {k : Nat} (hk : k < l.length) : ∃ b off x, A = some ⟨b, off, none⟩ ∧ l[k]? = some x ∧ TraceE.Has w b off k x := by
  obtain ⟨b, off, x, hA, hb, hx, hc⟩ := h.at_ hk
  exact ⟨b, off, x, hA, hx, TraceE.has hb hc⟩
def TraceE.beq (x y : TraceE) : Bool := x.machine == y.machine && x.serial == y.serial
theorem TraceE.beq_iff {x y : TraceE} : x.beq y = true ↔ x = y := by
  cases x; cases y; simp [TraceE.beq, Bool.and_eq_true, and_assoc]
theorem TraceE.enc : Enc TraceE.cells 2 := ⟨fun _ => rfl, fun x u hu => by simp only [TraceE.cells, List.mem_cons, List.not_mem_nil, or_false] at hu; rcases hu with rfl | rfl <;> rfl, by decide⟩
theorem cellsOf_37 : Try.prog.cellsOf 37 = 2 := by kernel_rfl
theorem cellsOf_3 : Try.prog.cellsOf 3 = 1 := by kernel_rfl
def IDE.wf (e : IDE) : Prop := (Lit.int .i64 e.machine).wf = true ∧ (Lit.int .i64 e.serial).wf = true
theorem IDE.opens : Opens Try.prog 37 IDE.cells (fun _ e => e.wf) := fun H enc w fuel cs x h hw => by
  have hlen := struct_len Try.underlying37 h
  rw [cellsOf_37] at hlen
  obtain ⟨a0, e0, g0⟩ := field_opens Try.underlying37 h hw 0 _ rfl 0 1 rfl cellsOf_3 (opens_int Try.underlying3)
  obtain ⟨a1, e1, g1⟩ := field_opens Try.underlying37 h hw 1 _ rfl 1 1 rfl cellsOf_3 (opens_int Try.underlying3)
  match cs, hlen with
  | [c0, c1], _ =>
    simp at e0
    subst e0
    simp at e1
    subst e1
    exact ⟨⟨a0, a1⟩, rfl, ⟨g0, g1⟩⟩
theorem cellsOf_47 : Try.prog.cellsOf 47 = 2 := by kernel_rfl
def TraceE.wf (e : TraceE) : Prop := (Lit.int .i64 e.machine).wf = true ∧ (Lit.int .i64 e.serial).wf = true
theorem TraceE.opens : Opens Try.prog 47 TraceE.cells (fun _ e => e.wf) := fun H enc w fuel cs x h hw => by
  have hlen := struct_len Try.underlying47 h
  rw [cellsOf_47] at hlen
  obtain ⟨a0, e0, g0⟩ := field_opens Try.underlying47 h hw 0 _ rfl 0 1 rfl cellsOf_3 (opens_int Try.underlying3)
  obtain ⟨a1, e1, g1⟩ := field_opens Try.underlying47 h hw 1 _ rfl 1 1 rfl cellsOf_3 (opens_int Try.underlying3)
  match cs, hlen with
  | [c0, c1], _ =>
    simp at e0
    subst e0
    simp at e1
    subst e1
    exact ⟨⟨a0, a1⟩, rfl, ⟨g0, g1⟩⟩
theorem cellsOf_73 : Try.prog.cellsOf 73 = 4 := by kernel_rfl
theorem cellsOf_2 : Try.prog.cellsOf 2 = 1 := by kernel_rfl
def ValE.wf (e : ValE) : Prop := (Lit.int .i64 e.kind).wf = true ∧ (Lit.int .i64 e.int).wf = true ∧ (Lit.int .i64 e.refMachine).wf = true ∧ (Lit.int .i64 e.refSerial).wf = true
theorem ValE.opens : Opens Try.prog 73 ValE.cells (fun _ e => e.wf) := fun H enc w fuel cs x h hw => by
  have hlen := struct_len Try.underlying73 h
  rw [cellsOf_73] at hlen
  obtain ⟨a0, e0, g0⟩ := field_opens Try.underlying73 h hw 0 _ rfl 0 1 rfl cellsOf_3 (opens_int Try.underlying3)
  obtain ⟨a1, e1, g1⟩ := field_opens Try.underlying73 h hw 1 _ rfl 1 1 rfl cellsOf_2 (opens_int Try.underlying2)
  obtain ⟨a2, e2, g2⟩ := field_opens Try.underlying73 h hw 2 _ rfl 2 2 rfl cellsOf_37 IDE.opens
  match cs, hlen with
  | [c0, c1, c2, c3], _ =>
    simp at e0
    subst e0
    simp at e1
    subst e1
    simp [IDE.cells] at e2
    obtain ⟨rfl, rfl⟩ := e2
    exact ⟨⟨a0, a1, a2.machine, a2.serial⟩, rfl, ⟨g0, g1, g2.1, g2.2⟩⟩
theorem cellsOf_61 : Try.prog.cellsOf 61 = 12 := by kernel_rfl
theorem cellsOf_35 : Try.prog.cellsOf 35 = 1 := by kernel_rfl
theorem cellsOf_4 : Try.prog.cellsOf 4 = 1 := by kernel_rfl
def StubE.wf (e : StubE) : Prop := (Lit.int .i64 e.owner).wf = true ∧ (Lit.int .u64 e.number).wf = true ∧ (Lit.int .i64 e.iDMachine).wf = true ∧ (Lit.int .i64 e.iDSerial).wf = true ∧ (Lit.int .i64 e.clas).wf = true ∧ (Lit.int .i64 e.lastUse).wf = true ∧ (Lit.int .i64 e.distance).wf = true ∧ (Lit.int .i64 e.lockMachine).wf = true ∧ (Lit.int .i64 e.lockSerial).wf = true
theorem StubE.opens : Opens Try.prog 61 StubE.cells (fun _ e => e.wf) := fun H enc w fuel cs x h hw => by
  have hlen := struct_len Try.underlying61 h
  rw [cellsOf_61] at hlen
  obtain ⟨a0, e0, g0⟩ := field_opens Try.underlying61 h hw 0 _ rfl 0 1 rfl cellsOf_3 (opens_int Try.underlying3)
  obtain ⟨a1, e1, g1⟩ := field_opens Try.underlying61 h hw 1 _ rfl 1 1 rfl cellsOf_35 (opens_int Try.underlying35)
  obtain ⟨a2, e2, g2⟩ := field_opens Try.underlying61 h hw 2 _ rfl 2 2 rfl cellsOf_37 IDE.opens
  obtain ⟨a3, e3, g3⟩ := field_opens Try.underlying61 h hw 3 _ rfl 4 1 rfl cellsOf_3 (opens_int Try.underlying3)
  obtain ⟨a4, e4, g4⟩ := field_opens Try.underlying61 h hw 4 _ rfl 5 1 rfl cellsOf_3 (opens_int Try.underlying3)
  obtain ⟨a5, e5, g5⟩ := field_opens Try.underlying61 h hw 5 _ rfl 6 1 rfl cellsOf_3 (opens_int Try.underlying3)
  obtain ⟨a6, e6, g6⟩ := field_opens Try.underlying61 h hw 6 _ rfl 7 1 rfl cellsOf_4 (opens_bool Try.underlying4)
  obtain ⟨a7, e7, g7⟩ := field_opens Try.underlying61 h hw 7 _ rfl 8 1 rfl cellsOf_4 (opens_bool Try.underlying4)
  obtain ⟨a8, e8, g8⟩ := field_opens Try.underlying61 h hw 8 _ rfl 9 1 rfl cellsOf_4 (opens_bool Try.underlying4)
  obtain ⟨a9, e9, g9⟩ := field_opens Try.underlying61 h hw 9 _ rfl 10 2 rfl cellsOf_47 TraceE.opens
  match cs, hlen with
  | [c0, c1, c2, c3, c4, c5, c6, c7, c8, c9, c10, c11], _ =>
    simp at e0
    subst e0
    simp at e1
    subst e1
    simp [IDE.cells] at e2
    obtain ⟨rfl, rfl⟩ := e2
    simp at e3
    subst e3
    simp at e4
    subst e4
    simp at e5
    subst e5
    simp at e6
    subst e6
    simp at e7
    subst e7
    simp at e8
    subst e8
    simp [TraceE.cells] at e9
    obtain ⟨rfl, rfl⟩ := e9
    exact ⟨⟨a0, a1, a2.machine, a2.serial, a3, a4, a5, a6, a7, a8, a9.machine, a9.serial⟩, rfl, ⟨g0, g1, g2.1, g2.2, g3, g4, g5, g9.1, g9.2⟩⟩
theorem cellsOf_76 : Try.prog.cellsOf 76 = 12 := by kernel_rfl
def ScionE.wf (e : ScionE) : Prop := (Lit.int .i64 e.client).wf = true ∧ (Lit.int .u64 e.number).wf = true ∧ (Lit.int .i64 e.iDMachine).wf = true ∧ (Lit.int .i64 e.iDSerial).wf = true ∧ (Lit.int .i64 e.out).wf = true ∧ (Lit.int .i64 e.inn).wf = true ∧ (Lit.int .i64 e.distance).wf = true ∧ (Lit.int .i64 e.lockMachine).wf = true ∧ (Lit.int .i64 e.lockSerial).wf = true
theorem ScionE.opens : Opens Try.prog 76 ScionE.cells (fun _ e => e.wf) := fun H enc w fuel cs x h hw => by
  have hlen := struct_len Try.underlying76 h
  rw [cellsOf_76] at hlen
  obtain ⟨a0, e0, g0⟩ := field_opens Try.underlying76 h hw 0 _ rfl 0 1 rfl cellsOf_3 (opens_int Try.underlying3)
  obtain ⟨a1, e1, g1⟩ := field_opens Try.underlying76 h hw 1 _ rfl 1 1 rfl cellsOf_35 (opens_int Try.underlying35)
  obtain ⟨a2, e2, g2⟩ := field_opens Try.underlying76 h hw 2 _ rfl 2 2 rfl cellsOf_37 IDE.opens
  obtain ⟨a3, e3, g3⟩ := field_opens Try.underlying76 h hw 3 _ rfl 4 1 rfl cellsOf_3 (opens_int Try.underlying3)
  obtain ⟨a4, e4, g4⟩ := field_opens Try.underlying76 h hw 4 _ rfl 5 1 rfl cellsOf_3 (opens_int Try.underlying3)
  obtain ⟨a5, e5, g5⟩ := field_opens Try.underlying76 h hw 5 _ rfl 6 1 rfl cellsOf_3 (opens_int Try.underlying3)
  obtain ⟨a6, e6, g6⟩ := field_opens Try.underlying76 h hw 6 _ rfl 7 1 rfl cellsOf_4 (opens_bool Try.underlying4)
  obtain ⟨a7, e7, g7⟩ := field_opens Try.underlying76 h hw 7 _ rfl 8 1 rfl cellsOf_4 (opens_bool Try.underlying4)
  obtain ⟨a8, e8, g8⟩ := field_opens Try.underlying76 h hw 8 _ rfl 9 1 rfl cellsOf_4 (opens_bool Try.underlying4)
  obtain ⟨a9, e9, g9⟩ := field_opens Try.underlying76 h hw 9 _ rfl 10 2 rfl cellsOf_47 TraceE.opens
  match cs, hlen with
  | [c0, c1, c2, c3, c4, c5, c6, c7, c8, c9, c10, c11], _ =>
    simp at e0
    subst e0
    simp at e1
    subst e1
    simp [IDE.cells] at e2
    obtain ⟨rfl, rfl⟩ := e2
    simp at e3
    subst e3
    simp at e4
    subst e4
    simp at e5
    subst e5
    simp at e6
    subst e6
    simp at e7
    subst e7
    simp at e8
    subst e8
    simp [TraceE.cells] at e9
    obtain ⟨rfl, rfl⟩ := e9
    exact ⟨⟨a0, a1, a2.machine, a2.serial, a3, a4, a5, a6, a7, a8, a9.machine, a9.serial⟩, rfl, ⟨g0, g1, g2.1, g2.2, g3, g4, g5, g9.1, g9.2⟩⟩
theorem cellsOf_62 : Try.prog.cellsOf 62 = 1 := by kernel_rfl
theorem cellsOf_25 : Try.prog.cellsOf 25 = 1 := by kernel_rfl
theorem cellsOf_22 : Try.prog.cellsOf 22 = 1 := by kernel_rfl
theorem cellsOf_26 : Try.prog.cellsOf 26 = 1 := by kernel_rfl
theorem cellsOf_32 : Try.prog.cellsOf 32 = 1 := by kernel_rfl
theorem cellsOf_64 : Try.prog.cellsOf 64 = 5 := by kernel_rfl
theorem bytesOf_64 : Try.prog.bytesOf 64 = 56 := by kernel_rfl
theorem cellsOf_24 : Try.prog.cellsOf 24 = 1 := by kernel_rfl
theorem bytesOf_24 : Try.prog.bytesOf 24 = 24 := by kernel_rfl
theorem reach_eq : reachBytes = 140737488351232 := rfl
theorem agg_of {cs : Array Value} {l : List Value} (h : (Value.agg cs).cells.toList = l) : Value.agg cs = .agg l.toArray := by
  simp only [Value.cells] at h
  rw [← h]
theorem NodeE.cells_length (n : NodeE) : n.cells.length = 5 := rfl
theorem NodeE.opens : Opens Try.prog 64 NodeE.cells (fun w n => SlAt ValE.cells 4 w n.A n.fields ∧ n.fields.length * 32 ≤ 140737488351232 ∧ n.fields.length ≤ n.c ∧ n.c ≤ maxLen) := fun H enc w fuel cs x h hw => by
  have hlen := struct_len Try.underlying64 h
  rw [cellsOf_64] at hlen
  obtain ⟨a0, e0, g0⟩ := field_opens Try.underlying64 h hw 0 _ rfl 0 2 rfl cellsOf_37 IDE.opens
  obtain ⟨a1, e1, g1⟩ := field_opens Try.underlying64 h hw 1 _ rfl 2 1 rfl cellsOf_3 (opens_int Try.underlying3)
  obtain ⟨a2, e2, g2⟩ := field_opens Try.underlying64 h hw 2 _ rfl 3 1 rfl cellsOf_3 (opens_int Try.underlying3)
  obtain ⟨a3, e3, g3, b3, l3, m3, n3⟩ := field_opens Try.underlying64 h hw 3 _ rfl 4 1 rfl cellsOf_62 (opens_slice Try.underlying62 cellsOf_73 (by kernel_rfl : Try.prog.bytesOf 73 = 32) ValE.opens (by decide) ValE.cells_length)
  rw [reach_eq] at b3
  match cs, hlen with
  | [c0, c1, c2, c3, c4], _ =>
    simp [IDE.cells] at e0 e1 e2 e3
    obtain ⟨rfl, rfl⟩ := e0
    subst e1 e2 e3
    exact ⟨⟨a0.machine, a0.serial, a1, a2, a3.A, a3.c, a3.l⟩, rfl, g3, b3, l3, m3⟩
theorem graph_opens : Opens Try.prog 24 (fun x : SlV NodeE => [.slice x.A x.l.length x.c]) (fun w x => GraphIn w x.A x.c x.l) := fun H enc w fuel cs x h hw => by
  have hlen := struct_len Try.underlying24 h
  rw [cellsOf_24] at hlen
  obtain ⟨a0, e0, g0, b0, l0, m0, n0⟩ := field_opens Try.underlying24 h hw 0 _ rfl 0 1 rfl cellsOf_22 (opens_slice Try.underlying22 cellsOf_64 (by kernel_rfl : Try.prog.bytesOf 64 = 56) NodeE.opens (by decide) NodeE.cells_length)
  rw [reach_eq] at b0
  match cs, hlen with
  | [c0], _ =>
    simp at e0
    subst e0
    exact ⟨a0, rfl, ⟨⟨g0, fun n hn => (n0 n hn).1, fun n hn => (n0 n hn).2.2⟩, by omega, fun n hn => by have := (n0 n hn).2.1; omega⟩⟩
set_option maxRecDepth 100000 in
theorem open_graph {H : Type} {enc : TypeId × Value → H} {w : World} {v : Value} {d : DataW H} {p : List MemPlace} {r : Go.Reach} {b0 : Nat} (hv : Value.okWide Try.prog w r b0 24 v) (h : DataW.Trod enc Try.prog w 0 (fun _ => true) true 24 v d p)
    (hw : ∀ n ∈ d.weights Try.prog 24, n ≤ reachBytes) : ∃ (A : Option Addr) (c : Nat) (l : List NodeE), v = .agg #[.slice A l.length c] ∧ GraphIn w A c l := by
  obtain ⟨cs, rfl, _⟩ := okWide_struct Try.underlying24 hv
  obtain ⟨c, e, g⟩ := graph_opens.arg h hw
  exact ⟨c.A, c.c, c.l, agg_of e, g⟩
/-- A slice that came in. -/
structure SlIn {α : Type} (f : α → List Value) (s bytes : Nat) (G : World → α → Prop) (w : World) (A : Option Addr) (c : Nat) (l : List α) : Prop where
  at_ : SlAt f s w A l
  len : l.length * bytes ≤ 140737488351232
  cap : l.length ≤ c
  max : c ≤ maxLen
  es : ∀ a ∈ l, G w a
set_option maxRecDepth 100000 in
theorem open_sl {α : Type} {f : α → List Value} {G : World → α → Prop} {s bytes : Nat} {t e : TypeId} (ht : Try.prog.underlying t = some (.slice e)) (ho : Opens Try.prog t (fun x : SlV α => [.slice x.A x.l.length x.c]) (fun w x => SlAt f s w x.A x.l ∧ x.l.length * bytes ≤ reachBytes ∧ x.l.length ≤ x.c ∧ x.c ≤ maxLen ∧ ∀ a ∈ x.l, G w a))
    {H : Type} {enc : TypeId × Value → H} {w : World} {v : Value} {d : DataW H} {p : List MemPlace} {r : Go.Reach} {b0 : Nat} (hv : Value.okWide Try.prog w r b0 t v) (h : DataW.Trod enc Try.prog w 0 (fun _ => true) true t v d p)
    (hw : ∀ n ∈ d.weights Try.prog t, n ≤ reachBytes) : ∃ (A : Option Addr) (c : Nat) (l : List α), v = .slice A l.length c ∧ SlIn f s bytes G w A c l := by
  obtain ⟨a, len, cap, rfl⟩ := okWide_slice ht hv
  obtain ⟨x, e, g1, g2, g3, g4, g5⟩ := ho.arg h hw
  rw [reach_eq] at g2
  refine ⟨x.A, x.c, x.l, ?_, g1, g2, g3, g4, g5⟩
  simpa [Value.cells] using e
set_option maxRecDepth 100000 in
theorem open_stubs {H : Type} {enc : TypeId × Value → H} {w : World} {v : Value} {d : DataW H} {p : List MemPlace} {r : Go.Reach} {b0 : Nat} (hv : Value.okWide Try.prog w r b0 26 v) (h : DataW.Trod enc Try.prog w 0 (fun _ => true) true 26 v d p)
    (hw : ∀ n ∈ d.weights Try.prog 26, n ≤ reachBytes) : ∃ (A : Option Addr) (c : Nat) (l : List StubE), v = .slice A l.length c ∧ SlIn StubE.cells 12 80 (fun _ e => e.wf) w A c l :=
  open_sl Try.underlying26 (opens_slice Try.underlying26 cellsOf_61 (by kernel_rfl : Try.prog.bytesOf 61 = 80) StubE.opens (by decide) StubE.cells_length) hv h hw
set_option maxRecDepth 100000 in
theorem open_scions {H : Type} {enc : TypeId × Value → H} {w : World} {v : Value} {d : DataW H} {p : List MemPlace} {r : Go.Reach} {b0 : Nat} (hv : Value.okWide Try.prog w r b0 32 v) (h : DataW.Trod enc Try.prog w 0 (fun _ => true) true 32 v d p)
    (hw : ∀ n ∈ d.weights Try.prog 32, n ≤ reachBytes) : ∃ (A : Option Addr) (c : Nat) (l : List ScionE), v = .slice A l.length c ∧ SlIn ScionE.cells 12 80 (fun _ e => e.wf) w A c l :=
  open_sl Try.underlying32 (opens_slice Try.underlying32 cellsOf_76 (by kernel_rfl : Try.prog.bytesOf 76 = 80) ScionE.opens (by decide) ScionE.cells_length) hv h hw
set_option maxRecDepth 100000 in
theorem open_ids {H : Type} {enc : TypeId × Value → H} {w : World} {v : Value} {d : DataW H} {p : List MemPlace} {r : Go.Reach} {b0 : Nat} (hv : Value.okWide Try.prog w r b0 25 v) (h : DataW.Trod enc Try.prog w 0 (fun _ => true) true 25 v d p)
    (hw : ∀ n ∈ d.weights Try.prog 25, n ≤ reachBytes) : ∃ (A : Option Addr) (c : Nat) (l : List IDE), v = .slice A l.length c ∧ SlIn IDE.cells 2 16 (fun _ e => e.wf) w A c l :=
  open_sl Try.underlying25 (opens_slice Try.underlying25 cellsOf_37 (by kernel_rfl : Try.prog.bytesOf 37 = 16) IDE.opens (by decide) IDE.cells_length) hv h hw
theorem rowClassifies_any (A : Option Addr) (c : Nat) (l : List NodeE) (RA : Option Addr) (rc : Nat) (roots : List IDE) (WA : Option Addr) (wc : Nat) (weak : List IDE) (EA : Option Addr) (ec : Nat) (es : List StubE) (w : World) (H : GraphIn w A c l) (hR : SlIn IDE.cells 2 16 (fun _ e => e.wf) w RA rc roots) (hWk : SlIn IDE.cells 2 16 (fun _ e => e.wf) w WA wc weak) (hE : SlIn StubE.cells 12 80 (fun _ e => e.wf) w EA ec es) :
    Calls Try.prog 3 #[.agg #[.slice A l.length c], .slice RA roots.length rc, .slice WA weak.length wc, .slice EA es.length ec] w fun r w' => r = .returned (.bool true) ∧ Below w.heap.size w w' :=
  lawClassifies_any A c l RA rc roots WA wc weak EA ec es w H hR.at_ hWk.at_ hE.at_
end Go.Proofs.Ytnfpbkimdhhmfaa
