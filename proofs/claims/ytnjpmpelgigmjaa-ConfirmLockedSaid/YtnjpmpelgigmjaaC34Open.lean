/-
  Contracts of the functions of this seat that each theorem names: what a call returns, and that it writes nothing that was there before. The conditions stand in each theorem.
-/
import Derived.Test.YtnjpmpelgigmjaaLibOpen
import Derived.Test.YtnjpmpelgigmjaaC34Data
import Derived.Test.YtnjpmpelgigmjaaRows
namespace Go.Proofs.Ytnjpmpelgigmjaa
open Go.RowKit Go.WideShapes
@[ext] structure IDE where
  machine : Int
  serial : Int
def IDE.cells (e : IDE) : List Value := [.int .i64 e.machine, .int .i64 e.serial]
theorem IDE.cells_length (e : IDE) : e.cells.length = 2 := rfl
abbrev IDE.v (e : IDE) : Value := .agg #[.int .i64 e.machine, .int .i64 e.serial]
abbrev IDE.arr (e : IDE) : Array Value := #[.int .i64 e.machine, .int .i64 e.serial]
theorem IDE.facts {e : IDE} {w : World} {b off k : Nat} (h : ∀ j u, e.cells[j]? = some u → w.cell? ⟨b, off + k * 2 + j, none⟩ = some u) : w.cell? ⟨b, off + k * 2, none⟩ = some (.int .i64 e.machine) ∧ w.cell? ⟨b, off + k * 2 + 1, none⟩ = some (.int .i64 e.serial) :=
  ⟨by simpa using h 0 _ rfl, by simpa using h 1 _ rfl⟩
def IDE.beq (x y : IDE) : Bool := x.machine == y.machine && x.serial == y.serial
theorem IDE.beq_iff {x y : IDE} : x.beq y = true ↔ x = y := by
  cases x; cases y; simp [IDE.beq, Bool.and_eq_true, and_assoc]
theorem IDE.enc : Enc IDE.cells 2 := ⟨fun _ => rfl, fun x u hu => by simp only [IDE.cells, List.mem_cons, List.not_mem_nil, or_false] at hu; rcases hu with rfl | rfl <;> rfl, by decide⟩
theorem cellsOf_40 : Try.prog.cellsOf 40 = 2 := by kernel_rfl
theorem cellsOf_3 : Try.prog.cellsOf 3 = 1 := by kernel_rfl
def IDE.wf (e : IDE) : Prop := (Lit.int .i64 e.machine).wf = true ∧ (Lit.int .i64 e.serial).wf = true
instance : Inhabited IDE := ⟨⟨0, 0⟩⟩
theorem IDE.opens : Opens Try.prog 40 IDE.cells (fun _ e => e.wf) := fun H enc w fuel cs x h hw => by
  have hlen := struct_len Try.underlying40 h
  rw [cellsOf_40] at hlen
  obtain ⟨a0, e0, g0⟩ := field_opens Try.underlying40 h hw 0 _ rfl 0 1 rfl cellsOf_3 (opens_int Try.underlying3)
  obtain ⟨a1, e1, g1⟩ := field_opens Try.underlying40 h hw 1 _ rfl 1 1 rfl cellsOf_3 (opens_int Try.underlying3)
  match cs, hlen with
  | [c0, c1], _ =>
    simp at e0
    subst e0
    simp at e1
    subst e1
    exact ⟨⟨a0, a1⟩, rfl, ⟨g0, g1⟩⟩
theorem cellsOf_26 : Try.prog.cellsOf 26 = 2 := by kernel_rfl
def TraceE.wf (e : TraceE) : Prop := (Lit.int .i64 e.machine).wf = true ∧ (Lit.int .i64 e.serial).wf = true
instance : Inhabited TraceE := ⟨⟨0, 0⟩⟩
theorem TraceE.opens : Opens Try.prog 26 TraceE.cells (fun _ e => e.wf) := fun H enc w fuel cs x h hw => by
  have hlen := struct_len Try.underlying26 h
  rw [cellsOf_26] at hlen
  obtain ⟨a0, e0, g0⟩ := field_opens Try.underlying26 h hw 0 _ rfl 0 1 rfl cellsOf_3 (opens_int Try.underlying3)
  obtain ⟨a1, e1, g1⟩ := field_opens Try.underlying26 h hw 1 _ rfl 1 1 rfl cellsOf_3 (opens_int Try.underlying3)
  match cs, hlen with
  | [c0, c1], _ =>
    simp at e0
    subst e0
    simp at e1
    subst e1
    exact ⟨⟨a0, a1⟩, rfl, ⟨g0, g1⟩⟩
theorem cellsOf_39 : Try.prog.cellsOf 39 = 3 := by kernel_rfl
theorem cellsOf_37 : Try.prog.cellsOf 37 = 1 := by kernel_rfl
def NeedE.wf (e : NeedE) : Prop := (Lit.int .i64 e.peer).wf = true ∧ (Lit.int .u64 e.number).wf = true ∧ (Lit.int .i64 e.stamp).wf = true
instance : Inhabited NeedE := ⟨⟨0, 0, 0⟩⟩
theorem NeedE.opens : Opens Try.prog 39 NeedE.cells (fun _ e => e.wf) := fun H enc w fuel cs x h hw => by
  have hlen := struct_len Try.underlying39 h
  rw [cellsOf_39] at hlen
  obtain ⟨a0, e0, g0⟩ := field_opens Try.underlying39 h hw 0 _ rfl 0 1 rfl cellsOf_3 (opens_int Try.underlying3)
  obtain ⟨a1, e1, g1⟩ := field_opens Try.underlying39 h hw 1 _ rfl 1 1 rfl cellsOf_37 (opens_int Try.underlying37)
  obtain ⟨a2, e2, g2⟩ := field_opens Try.underlying39 h hw 2 _ rfl 2 1 rfl cellsOf_3 (opens_int Try.underlying3)
  match cs, hlen with
  | [c0, c1, c2], _ =>
    simp at e0
    subst e0
    simp at e1
    subst e1
    simp at e2
    subst e2
    exact ⟨⟨a0, a1, a2⟩, rfl, ⟨g0, g1, g2⟩⟩
theorem cellsOf_42 : Try.prog.cellsOf 42 = 12 := by kernel_rfl
theorem cellsOf_4 : Try.prog.cellsOf 4 = 1 := by kernel_rfl
def StubE.wf (e : StubE) : Prop := (Lit.int .i64 e.owner).wf = true ∧ (Lit.int .u64 e.number).wf = true ∧ (Lit.int .i64 e.iDMachine).wf = true ∧ (Lit.int .i64 e.iDSerial).wf = true ∧ (Lit.int .i64 e.clas).wf = true ∧ (Lit.int .i64 e.lastUse).wf = true ∧ (Lit.int .i64 e.distance).wf = true ∧ (Lit.int .i64 e.lockMachine).wf = true ∧ (Lit.int .i64 e.lockSerial).wf = true
instance : Inhabited StubE := ⟨⟨0, 0, 0, 0, 0, 0, 0, false, false, false, 0, 0⟩⟩
theorem StubE.opens : Opens Try.prog 42 StubE.cells (fun _ e => e.wf) := fun H enc w fuel cs x h hw => by
  have hlen := struct_len Try.underlying42 h
  rw [cellsOf_42] at hlen
  obtain ⟨a0, e0, g0⟩ := field_opens Try.underlying42 h hw 0 _ rfl 0 1 rfl cellsOf_3 (opens_int Try.underlying3)
  obtain ⟨a1, e1, g1⟩ := field_opens Try.underlying42 h hw 1 _ rfl 1 1 rfl cellsOf_37 (opens_int Try.underlying37)
  obtain ⟨a2, e2, g2⟩ := field_opens Try.underlying42 h hw 2 _ rfl 2 2 rfl cellsOf_40 IDE.opens
  obtain ⟨a3, e3, g3⟩ := field_opens Try.underlying42 h hw 3 _ rfl 4 1 rfl cellsOf_3 (opens_int Try.underlying3)
  obtain ⟨a4, e4, g4⟩ := field_opens Try.underlying42 h hw 4 _ rfl 5 1 rfl cellsOf_3 (opens_int Try.underlying3)
  obtain ⟨a5, e5, g5⟩ := field_opens Try.underlying42 h hw 5 _ rfl 6 1 rfl cellsOf_3 (opens_int Try.underlying3)
  obtain ⟨a6, e6, g6⟩ := field_opens Try.underlying42 h hw 6 _ rfl 7 1 rfl cellsOf_4 (opens_bool Try.underlying4)
  obtain ⟨a7, e7, g7⟩ := field_opens Try.underlying42 h hw 7 _ rfl 8 1 rfl cellsOf_4 (opens_bool Try.underlying4)
  obtain ⟨a8, e8, g8⟩ := field_opens Try.underlying42 h hw 8 _ rfl 9 1 rfl cellsOf_4 (opens_bool Try.underlying4)
  obtain ⟨a9, e9, g9⟩ := field_opens Try.underlying42 h hw 9 _ rfl 10 2 rfl cellsOf_26 TraceE.opens
  match cs, hlen with
  | [c0, c1, c2, c3, c4, c5, c6, c7, c8, c9, c10, c11], _ =>
    simp at e0
    subst e0
    simp at e1
    subst e1
    simp [IDE.cells] at e2
    obtain ⟨rfl, rfl⟩ := e2
    simp at e3
    subst e3
    simp at e4
    subst e4
    simp at e5
    subst e5
    simp at e6
    subst e6
    simp at e7
    subst e7
    simp at e8
    subst e8
    simp [TraceE.cells] at e9
    obtain ⟨rfl, rfl⟩ := e9
    exact ⟨⟨a0, a1, a2.machine, a2.serial, a3, a4, a5, a6, a7, a8, a9.machine, a9.serial⟩, rfl, ⟨g0, g1, g2.1, g2.2, g3, g4, g5, g9.1, g9.2⟩⟩
theorem cellsOf_45 : Try.prog.cellsOf 45 = 12 := by kernel_rfl
def ScionE.wf (e : ScionE) : Prop := (Lit.int .i64 e.client).wf = true ∧ (Lit.int .u64 e.number).wf = true ∧ (Lit.int .i64 e.iDMachine).wf = true ∧ (Lit.int .i64 e.iDSerial).wf = true ∧ (Lit.int .i64 e.out).wf = true ∧ (Lit.int .i64 e.inn).wf = true ∧ (Lit.int .i64 e.distance).wf = true ∧ (Lit.int .i64 e.lockMachine).wf = true ∧ (Lit.int .i64 e.lockSerial).wf = true
instance : Inhabited ScionE := ⟨⟨0, 0, 0, 0, 0, 0, 0, false, false, false, 0, 0⟩⟩
theorem ScionE.opens : Opens Try.prog 45 ScionE.cells (fun _ e => e.wf) := fun H enc w fuel cs x h hw => by
  have hlen := struct_len Try.underlying45 h
  rw [cellsOf_45] at hlen
  obtain ⟨a0, e0, g0⟩ := field_opens Try.underlying45 h hw 0 _ rfl 0 1 rfl cellsOf_3 (opens_int Try.underlying3)
  obtain ⟨a1, e1, g1⟩ := field_opens Try.underlying45 h hw 1 _ rfl 1 1 rfl cellsOf_37 (opens_int Try.underlying37)
  obtain ⟨a2, e2, g2⟩ := field_opens Try.underlying45 h hw 2 _ rfl 2 2 rfl cellsOf_40 IDE.opens
  obtain ⟨a3, e3, g3⟩ := field_opens Try.underlying45 h hw 3 _ rfl 4 1 rfl cellsOf_3 (opens_int Try.underlying3)
  obtain ⟨a4, e4, g4⟩ := field_opens Try.underlying45 h hw 4 _ rfl 5 1 rfl cellsOf_3 (opens_int Try.underlying3)
  obtain ⟨a5, e5, g5⟩ := field_opens Try.underlying45 h hw 5 _ rfl 6 1 rfl cellsOf_3 (opens_int Try.underlying3)
  obtain ⟨a6, e6, g6⟩ := field_opens Try.underlying45 h hw 6 _ rfl 7 1 rfl cellsOf_4 (opens_bool Try.underlying4)
  obtain ⟨a7, e7, g7⟩ := field_opens Try.underlying45 h hw 7 _ rfl 8 1 rfl cellsOf_4 (opens_bool Try.underlying4)
  obtain ⟨a8, e8, g8⟩ := field_opens Try.underlying45 h hw 8 _ rfl 9 1 rfl cellsOf_4 (opens_bool Try.underlying4)
  obtain ⟨a9, e9, g9⟩ := field_opens Try.underlying45 h hw 9 _ rfl 10 2 rfl cellsOf_26 TraceE.opens
  match cs, hlen with
  | [c0, c1, c2, c3, c4, c5, c6, c7, c8, c9, c10, c11], _ =>
    simp at e0
    subst e0
    simp at e1
    subst e1
    simp [IDE.cells] at e2
    obtain ⟨rfl, rfl⟩ := e2
    simp at e3
    subst e3
    simp at e4
    subst e4
    simp at e5
    subst e5
    simp at e6
    subst e6
    simp at e7
    subst e7
    simp at e8
    subst e8
    simp [TraceE.cells] at e9
    obtain ⟨rfl, rfl⟩ := e9
    exact ⟨⟨a0, a1, a2.machine, a2.serial, a3, a4, a5, a6, a7, a8, a9.machine, a9.serial⟩, rfl, ⟨g0, g1, g2.1, g2.2, g3, g4, g5, g9.1, g9.2⟩⟩

theorem cellsOf_22 : Try.prog.cellsOf 22 = 1 := by kernel_rfl
theorem cellsOf_27 : Try.prog.cellsOf 27 = 1 := by kernel_rfl
theorem cellsOf_28 : Try.prog.cellsOf 28 = 1 := by kernel_rfl
theorem cellsOf_29 : Try.prog.cellsOf 29 = 1 := by kernel_rfl
theorem cellsOf_24 : Try.prog.cellsOf 24 = 5 := by kernel_rfl
theorem bytesOf_24 : Try.prog.bytesOf 24 = 88 := by kernel_rfl
theorem cellsOf_31 : Try.prog.cellsOf 31 = 4 := by kernel_rfl
theorem bytesOf_31 : Try.prog.bytesOf 31 = 80 := by kernel_rfl
theorem bytesOf_need : Try.prog.bytesOf 39 = 24 := by kernel_rfl
theorem bytesOf_stub : Try.prog.bytesOf 42 = 80 := by kernel_rfl
theorem bytesOf_scion : Try.prog.bytesOf 45 = 80 := by kernel_rfl
theorem bytesOf_int : Try.prog.bytesOf 3 = 8 := by kernel_rfl
def ClaimV.cells (c : ClaimV) : List Value := [.int .i64 c.machine, .int .i64 c.epoch, .slice c.sA c.stubs.length c.sC, .slice c.nA c.scions.length c.nC, .slice c.kA c.checks.length c.kC]
def TablesV.cells (x : TablesV) : List Value := [.slice x.sA x.stubs.length x.sC, .slice x.nA x.scions.length x.nC, .int .i64 x.epoch, .slice x.rA x.received.length x.rC]
theorem reach_eq : reachBytes = 140737488351232 := rfl
theorem ClaimV.opens : Opens Try.prog 24 ClaimV.cells (fun w c => c.at_ w ∧ (Lit.int .i64 c.epoch).wf = true) := fun H enc w fuel cs x h hw => by
  have hlen := struct_len Try.underlying24 h
  rw [cellsOf_24] at hlen
  obtain ⟨a0, e0, g0⟩ := field_opens Try.underlying24 h hw 0 _ rfl 0 1 rfl cellsOf_3 (opens_int Try.underlying3)
  obtain ⟨a1, e1, g1⟩ := field_opens Try.underlying24 h hw 1 _ rfl 1 1 rfl cellsOf_3 (opens_int Try.underlying3)
  obtain ⟨a2, e2, g2, b2, l2, m2, n2⟩ := field_opens Try.underlying24 h hw 2 _ rfl 2 1 rfl cellsOf_22 (opens_slice Try.underlying22 cellsOf_39 bytesOf_need NeedE.opens (by decide) NeedE.cells_length)
  obtain ⟨a3, e3, g3, b3, l3, m3, n3⟩ := field_opens Try.underlying24 h hw 3 _ rfl 3 1 rfl cellsOf_22 (opens_slice Try.underlying22 cellsOf_39 bytesOf_need NeedE.opens (by decide) NeedE.cells_length)
  obtain ⟨a4, e4, g4, b4, l4, m4, n4⟩ := field_opens Try.underlying24 h hw 4 _ rfl 4 1 rfl cellsOf_22 (opens_slice Try.underlying22 cellsOf_39 bytesOf_need NeedE.opens (by decide) NeedE.cells_length)
  rw [reach_eq] at b2 b3 b4
  match cs, hlen with
  | [c0, c1, c2, c3, c4], _ =>
    simp at e0 e1 e2 e3 e4
    subst e0 e1 e2 e3 e4
    exact ⟨⟨a0, a1, a2.A, a2.c, a2.l, a3.A, a3.c, a3.l, a4.A, a4.c, a4.l⟩, rfl, ⟨g2, g3, g4, by simp only; omega, by simp only; omega, by simp only; omega, by simp only; omega⟩, g1⟩
theorem TablesV.opens : Opens Try.prog 31 TablesV.cells (fun w x => x.at_ w ∧ (Lit.int .i64 x.epoch).wf = true) := fun H enc w fuel cs x h hw => by
  have hlen := struct_len Try.underlying31 h
  rw [cellsOf_31] at hlen
  obtain ⟨a0, e0, g0, b0, l0, m0, n0⟩ := field_opens Try.underlying31 h hw 0 _ rfl 0 1 rfl cellsOf_27 (opens_slice Try.underlying27 cellsOf_42 bytesOf_stub StubE.opens (by decide) StubE.cells_length)
  obtain ⟨a1, e1, g1, b1, l1, m1, n1⟩ := field_opens Try.underlying31 h hw 1 _ rfl 1 1 rfl cellsOf_28 (opens_slice Try.underlying28 cellsOf_45 bytesOf_scion ScionE.opens (by decide) ScionE.cells_length)
  obtain ⟨a2, e2, g2⟩ := field_opens Try.underlying31 h hw 2 _ rfl 2 1 rfl cellsOf_3 (opens_int Try.underlying3)
  obtain ⟨a3, e3, g3, b3, l3, m3, n3⟩ := field_opens Try.underlying31 h hw 3 _ rfl 3 1 rfl cellsOf_29 (opens_slice Try.underlying29 cellsOf_3 bytesOf_int (opens_int Try.underlying3) (by decide) (fun _ => rfl))
  rw [reach_eq] at b0 b1 b3
  match cs, hlen with
  | [c0, c1, c2, c3], _ =>
    simp at e0 e1 e2 e3
    subst e0 e1 e2 e3
    exact ⟨⟨a0.A, a0.c, a0.l, a1.A, a1.c, a1.l, a2, a3.A, a3.c, a3.l⟩, rfl, ⟨g0, g1, g3, by simp only; omega, by simp only; omega, by simp only; omega⟩, g2⟩
theorem agg_of {cs : Array Value} {l : List Value} (h : (Value.agg cs).cells.toList = l) : Value.agg cs = .agg l.toArray := by
  simp only [Value.cells] at h
  rw [← h]
set_option maxRecDepth 100000 in
theorem open_claim {H : Type} {enc : TypeId × Value → H} {w : World} {v : Value} {d : DataW H} {p : List MemPlace} {r : Reach} {b0 : Nat} (hv : Value.okWide Try.prog w r b0 24 v) (h : DataW.Trod enc Try.prog w 0 (fun _ => true) true 24 v d p)
    (hw : ∀ n ∈ d.weights Try.prog 24, n ≤ reachBytes) : ∃ c : ClaimV, v = c.v ∧ c.at_ w ∧ (Lit.int .i64 c.epoch).wf = true := by
  obtain ⟨cs, rfl, _⟩ := okWide_struct Try.underlying24 hv
  obtain ⟨c, e, g⟩ := ClaimV.opens.arg h hw
  exact ⟨c, agg_of e, g⟩
set_option maxRecDepth 100000 in
theorem open_tables {H : Type} {enc : TypeId × Value → H} {w : World} {v : Value} {d : DataW H} {p : List MemPlace} {r : Reach} {b0 : Nat} (hv : Value.okWide Try.prog w r b0 31 v) (h : DataW.Trod enc Try.prog w 0 (fun _ => true) true 31 v d p)
    (hw : ∀ n ∈ d.weights Try.prog 31, n ≤ reachBytes) : ∃ x : TablesV, v = x.v ∧ x.at_ w ∧ (Lit.int .i64 x.epoch).wf = true := by
  obtain ⟨cs, rfl, _⟩ := okWide_struct Try.underlying31 hv
  obtain ⟨c, e, g⟩ := TablesV.opens.arg h hw
  exact ⟨c, agg_of e, g⟩
set_option maxRecDepth 100000 in
theorem open_trace {H : Type} {enc : TypeId × Value → H} {w : World} {v : Value} {d : DataW H} {p : List MemPlace} {r : Reach} {b0 : Nat} (hv : Value.okWide Try.prog w r b0 26 v) (h : DataW.Trod enc Try.prog w 0 (fun _ => true) true 26 v d p)
    (hw : ∀ n ∈ d.weights Try.prog 26, n ≤ reachBytes) : ∃ t : TraceE, v = t.v ∧ t.wf := by
  obtain ⟨cs, rfl, _⟩ := okWide_struct Try.underlying26 hv
  obtain ⟨c, e, g⟩ := TraceE.opens.arg h hw
  exact ⟨c, agg_of e, g⟩

end Go.Proofs.Ytnjpmpelgigmjaa
