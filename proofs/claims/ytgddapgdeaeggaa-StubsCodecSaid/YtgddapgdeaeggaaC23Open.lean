/-
  Contracts of the functions of this seat that each theorem names: what a call returns, and that it writes nothing that was there before. The conditions stand in each theorem.
-/
import Derived.Test.YtgddapgdeaeggaaGrpE
import Derived.Test.YtgddapgdeaeggaaC23Data
namespace Go.Proofs.Ytgddapgdeaeggaa
open Go.RowKit Go.WideShapes Go.ChangeShapes
instance : Inhabited IDE := ⟨⟨0, 0⟩⟩
instance : Inhabited CallE := ⟨⟨0, 0, 0, 0, 0, 0, 0, 0, false, false, false, 0, 0, 0⟩⟩
theorem cellsOf_34 : Try.prog.cellsOf 34 = 2 := by kernel_rfl
theorem cellsOf_3 : Try.prog.cellsOf 3 = 1 := by kernel_rfl
def IDE.wf (e : IDE) : Prop := (Lit.int .i64 e.machine).wf = true ∧ (Lit.int .i64 e.serial).wf = true
theorem IDE.opens : Opens Try.prog 34 IDE.cells (fun _ e => e.wf) := fun H enc w fuel cs x h hw => by
  have hlen := struct_len Try.underlying34 h
  rw [cellsOf_34] at hlen
  obtain ⟨a0, e0, g0⟩ := field_opens Try.underlying34 h hw 0 _ rfl 0 1 rfl cellsOf_3 (opens_int Try.underlying3)
  obtain ⟨a1, e1, g1⟩ := field_opens Try.underlying34 h hw 1 _ rfl 1 1 rfl cellsOf_3 (opens_int Try.underlying3)
  match cs, hlen with
  | [c0, c1], _ =>
    simp at e0
    subst e0
    simp at e1
    subst e1
    exact ⟨⟨a0, a1⟩, rfl, ⟨g0, g1⟩⟩
theorem cellsOf_35 : Try.prog.cellsOf 35 = 2 := by kernel_rfl
def TraceE.wf (e : TraceE) : Prop := (Lit.int .i64 e.machine).wf = true ∧ (Lit.int .i64 e.serial).wf = true
theorem TraceE.opens : Opens Try.prog 35 TraceE.cells (fun _ e => e.wf) := fun H enc w fuel cs x h hw => by
  have hlen := struct_len Try.underlying35 h
  rw [cellsOf_35] at hlen
  obtain ⟨a0, e0, g0⟩ := field_opens Try.underlying35 h hw 0 _ rfl 0 1 rfl cellsOf_3 (opens_int Try.underlying3)
  obtain ⟨a1, e1, g1⟩ := field_opens Try.underlying35 h hw 1 _ rfl 1 1 rfl cellsOf_3 (opens_int Try.underlying3)
  match cs, hlen with
  | [c0, c1], _ =>
    simp at e0
    subst e0
    simp at e1
    subst e1
    exact ⟨⟨a0, a1⟩, rfl, ⟨g0, g1⟩⟩
theorem cellsOf_37 : Try.prog.cellsOf 37 = 12 := by kernel_rfl
theorem cellsOf_32 : Try.prog.cellsOf 32 = 1 := by kernel_rfl
theorem cellsOf_4 : Try.prog.cellsOf 4 = 1 := by kernel_rfl
def StubE.wf (e : StubE) : Prop := (Lit.int .i64 e.owner).wf = true ∧ (Lit.int .u64 e.number).wf = true ∧ (Lit.int .i64 e.iDMachine).wf = true ∧ (Lit.int .i64 e.iDSerial).wf = true ∧ (Lit.int .i64 e.clas).wf = true ∧ (Lit.int .i64 e.lastUse).wf = true ∧ (Lit.int .i64 e.distance).wf = true ∧ (Lit.int .i64 e.lockMachine).wf = true ∧ (Lit.int .i64 e.lockSerial).wf = true
theorem StubE.opens : Opens Try.prog 37 StubE.cells (fun _ e => e.wf) := fun H enc w fuel cs x h hw => by
  have hlen := struct_len Try.underlying37 h
  rw [cellsOf_37] at hlen
  obtain ⟨a0, e0, g0⟩ := field_opens Try.underlying37 h hw 0 _ rfl 0 1 rfl cellsOf_3 (opens_int Try.underlying3)
  obtain ⟨a1, e1, g1⟩ := field_opens Try.underlying37 h hw 1 _ rfl 1 1 rfl cellsOf_32 (opens_int Try.underlying32)
  obtain ⟨a2, e2, g2⟩ := field_opens Try.underlying37 h hw 2 _ rfl 2 2 rfl cellsOf_34 IDE.opens
  obtain ⟨a3, e3, g3⟩ := field_opens Try.underlying37 h hw 3 _ rfl 4 1 rfl cellsOf_3 (opens_int Try.underlying3)
  obtain ⟨a4, e4, g4⟩ := field_opens Try.underlying37 h hw 4 _ rfl 5 1 rfl cellsOf_3 (opens_int Try.underlying3)
  obtain ⟨a5, e5, g5⟩ := field_opens Try.underlying37 h hw 5 _ rfl 6 1 rfl cellsOf_3 (opens_int Try.underlying3)
  obtain ⟨a6, e6, g6⟩ := field_opens Try.underlying37 h hw 6 _ rfl 7 1 rfl cellsOf_4 (opens_bool Try.underlying4)
  obtain ⟨a7, e7, g7⟩ := field_opens Try.underlying37 h hw 7 _ rfl 8 1 rfl cellsOf_4 (opens_bool Try.underlying4)
  obtain ⟨a8, e8, g8⟩ := field_opens Try.underlying37 h hw 8 _ rfl 9 1 rfl cellsOf_4 (opens_bool Try.underlying4)
  obtain ⟨a9, e9, g9⟩ := field_opens Try.underlying37 h hw 9 _ rfl 10 2 rfl cellsOf_35 TraceE.opens
  match cs, hlen with
  | [c0, c1, c2, c3, c4, c5, c6, c7, c8, c9, c10, c11], _ =>
    simp at e0
    subst e0
    simp at e1
    subst e1
    simp [IDE.cells] at e2
    obtain ⟨rfl, rfl⟩ := e2
    simp at e3
    subst e3
    simp at e4
    subst e4
    simp at e5
    subst e5
    simp at e6
    subst e6
    simp at e7
    subst e7
    simp at e8
    subst e8
    simp [TraceE.cells] at e9
    obtain ⟨rfl, rfl⟩ := e9
    exact ⟨⟨a0, a1, a2.machine, a2.serial, a3, a4, a5, a6, a7, a8, a9.machine, a9.serial⟩, rfl, ⟨g0, g1, g2.1, g2.2, g3, g4, g5, g9.1, g9.2⟩⟩
theorem cellsOf_39 : Try.prog.cellsOf 39 = 14 := by kernel_rfl
def CallE.wf (e : CallE) : Prop := (Lit.int .i64 e.kind).wf = true ∧ (Lit.int .i64 e.eOwner).wf = true ∧ (Lit.int .u64 e.eNumber).wf = true ∧ (Lit.int .i64 e.eIDMachine).wf = true ∧ (Lit.int .i64 e.eIDSerial).wf = true ∧ (Lit.int .i64 e.eClass).wf = true ∧ (Lit.int .i64 e.eLastUse).wf = true ∧ (Lit.int .i64 e.eDistance).wf = true ∧ (Lit.int .i64 e.eLockMachine).wf = true ∧ (Lit.int .i64 e.eLockSerial).wf = true ∧ (Lit.int .i64 e.n).wf = true
theorem CallE.opens : Opens Try.prog 39 CallE.cells (fun _ e => e.wf) := fun H enc w fuel cs x h hw => by
  have hlen := struct_len Try.underlying39 h
  rw [cellsOf_39] at hlen
  obtain ⟨a0, e0, g0⟩ := field_opens Try.underlying39 h hw 0 _ rfl 0 1 rfl cellsOf_3 (opens_int Try.underlying3)
  obtain ⟨a1, e1, g1⟩ := field_opens Try.underlying39 h hw 1 _ rfl 1 12 rfl cellsOf_37 StubE.opens
  obtain ⟨a2, e2, g2⟩ := field_opens Try.underlying39 h hw 2 _ rfl 13 1 rfl cellsOf_3 (opens_int Try.underlying3)
  match cs, hlen with
  | [c0, c1, c2, c3, c4, c5, c6, c7, c8, c9, c10, c11, c12, c13], _ =>
    simp at e0
    subst e0
    simp [StubE.cells] at e1
    obtain ⟨rfl, rfl, rfl, rfl, rfl, rfl, rfl, rfl, rfl, rfl, rfl, rfl⟩ := e1
    simp at e2
    subst e2
    exact ⟨⟨a0, a1.owner, a1.number, a1.iDMachine, a1.iDSerial, a1.clas, a1.lastUse, a1.distance, a1.touched, a1.weak, a1.dead, a1.lockMachine, a1.lockSerial, a2⟩, rfl, ⟨g0, g1.1, g1.2.1, g1.2.2.1, g1.2.2.2.1, g1.2.2.2.2.1, g1.2.2.2.2.2.1, g1.2.2.2.2.2.2.1, g1.2.2.2.2.2.2.2.1, g1.2.2.2.2.2.2.2.2, g2⟩⟩
theorem reach_eq : reachBytes = 140737488351232 := rfl
theorem agg_of {cs : Array Value} {l : List Value} (h : (Value.agg cs).cells.toList = l) : Value.agg cs = .agg l.toArray := by
  simp only [Value.cells] at h
  rw [← h]
/-- A slice that came in. -/
structure SlIn {α : Type} (f : α → List Value) (s bytes : Nat) (G : World → α → Prop) (w : World) (A : Option Addr) (c : Nat) (l : List α) : Prop where
  at_ : SlAt f s w A l
  len : l.length * bytes ≤ 140737488351232
  cap : l.length ≤ c
  max : c ≤ maxLen
  es : ∀ a ∈ l, G w a
set_option maxRecDepth 100000 in
theorem open_sl {α : Type} {f : α → List Value} {G : World → α → Prop} {s bytes : Nat} {t e : TypeId} (ht : Try.prog.underlying t = some (.slice e)) (ho : Opens Try.prog t (fun x : SlV α => [.slice x.A x.l.length x.c]) (fun w x => SlAt f s w x.A x.l ∧ x.l.length * bytes ≤ reachBytes ∧ x.l.length ≤ x.c ∧ x.c ≤ maxLen ∧ ∀ a ∈ x.l, G w a))
    {H : Type} {enc : TypeId × Value → H} {w : World} {v : Value} {d : DataW H} {p : List MemPlace} {r : Reach} {b0 : Nat} (hv : Value.okWide Try.prog w r b0 t v) (h : DataW.Trod enc Try.prog w 0 (fun _ => true) true t v d p)
    (hw : ∀ n ∈ d.weights Try.prog t, n ≤ reachBytes) : ∃ (A : Option Addr) (c : Nat) (l : List α), v = .slice A l.length c ∧ SlIn f s bytes G w A c l := by
  obtain ⟨a, len, cap, rfl⟩ := okWide_slice ht hv
  obtain ⟨x, e, g1, g2, g3, g4, g5⟩ := ho.arg h hw
  rw [reach_eq] at g2
  refine ⟨x.A, x.c, x.l, ?_, g1, g2, g3, g4, g5⟩
  simpa [Value.cells] using e
set_option maxRecDepth 100000 in
theorem open_calls {H : Type} {enc : TypeId × Value → H} {w : World} {v : Value} {d : DataW H} {p : List MemPlace} {r : Reach} {b0 : Nat} (hv : Value.okWide Try.prog w r b0 22 v) (h : DataW.Trod enc Try.prog w 0 (fun _ => true) true 22 v d p)
    (hw : ∀ n ∈ d.weights Try.prog 22, n ≤ reachBytes) : ∃ (A : Option Addr) (c : Nat) (l : List CallE), v = .slice A l.length c ∧ SlIn CallE.cells 14 96 (fun _ e => e.wf) w A c l :=
  open_sl Try.underlying22 (opens_slice Try.underlying22 cellsOf_39 (by kernel_rfl : Try.prog.bytesOf 39 = 96) CallE.opens (by decide) CallE.cells_length) hv h hw

set_option maxRecDepth 100000 in
theorem open_call {H : Type} {enc : TypeId × Value → H} {w : World} {v : Value} {d : DataW H} {p : List MemPlace} {r : Reach} {b0 : Nat} (hv : Value.okWide Try.prog w r b0 39 v) (h : DataW.Trod enc Try.prog w 0 (fun _ => true) true 39 v d p)
    (hw : ∀ n ∈ d.weights Try.prog 39, n ≤ reachBytes) : ∃ x : CallE, v = x.v ∧ x.wf := by
  obtain ⟨cs, rfl, _⟩ := okWide_struct Try.underlying39 hv
  obtain ⟨c, e, g⟩ := CallE.opens.arg h hw
  exact ⟨c, agg_of e, g⟩
set_option maxRecDepth 100000 in
theorem open_id {H : Type} {enc : TypeId × Value → H} {w : World} {v : Value} {d : DataW H} {p : List MemPlace} {r : Reach} {b0 : Nat} (hv : Value.okWide Try.prog w r b0 34 v) (h : DataW.Trod enc Try.prog w 0 (fun _ => true) true 34 v d p)
    (hw : ∀ n ∈ d.weights Try.prog 34, n ≤ reachBytes) : ∃ x : IDE, v = x.v ∧ x.wf := by
  obtain ⟨cs, rfl, _⟩ := okWide_struct Try.underlying34 hv
  obtain ⟨c, e, g⟩ := IDE.opens.arg h hw
  exact ⟨c, agg_of e, g⟩
end Go.Proofs.Ytgddapgdeaeggaa
