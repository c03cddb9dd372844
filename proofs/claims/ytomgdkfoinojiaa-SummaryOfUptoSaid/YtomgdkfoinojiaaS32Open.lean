/-
  Contracts of the functions of this seat that each theorem names: what a call returns, and that it writes nothing that was there before. The conditions stand in each theorem.
-/
import Derived.Test.YtomgdkfoinojiaaLibOpenU
import Derived.Test.YtomgdkfoinojiaaGrpJ
namespace Go.Proofs.Ytomgdkfoinojiaa
open Go.RowKit Go.WideShapes Go.ChangeShapes
instance : Inhabited ValE := ⟨⟨0, 0, 0, 0⟩⟩
instance : Inhabited NodeE := ⟨⟨0, 0, 0, 0, none, 0, []⟩⟩
instance : Inhabited ScionE := ⟨⟨0, 0, 0, 0, 0, 0, 0, false, false, false, 0, 0⟩⟩
@[ext] structure TraceE where
  machine : Int
  serial : Int
def TraceE.cells (e : TraceE) : List Value := [.int .i64 e.machine, .int .i64 e.serial]
theorem TraceE.cells_length (e : TraceE) : e.cells.length = 2 := rfl
abbrev TraceE.v (e : TraceE) : Value := .agg #[.int .i64 e.machine, .int .i64 e.serial]
abbrev TraceE.arr (e : TraceE) : Array Value := #[.int .i64 e.machine, .int .i64 e.serial]
theorem TraceE.facts {e : TraceE} {w : World} {b off k : Nat} (h : ∀ j u, e.cells[j]? = some u → w.cell? ⟨b, off + k * 2 + j, none⟩ = some u) : w.cell? ⟨b, off + k * 2, none⟩ = some (.int .i64 e.machine) ∧ w.cell? ⟨b, off + k * 2 + 1, none⟩ = some (.int .i64 e.serial) :=
  ⟨by simpa using h 0 _ rfl, by simpa using h 1 _ rfl⟩
/-- The element lies there, in each later world. -/
abbrev TraceE.Has (w : World) (b off k : Nat) (e : TraceE) : Prop := ∀ (u : World) [Later w u], u.cell? ⟨b, off + k * 2, none⟩ = some (.int .i64 e.machine) ∧ u.cell? ⟨b, off + k * 2 + 1, none⟩ = some (.int .i64 e.serial)
theorem TraceE.has {e : TraceE} {w : World} {b off k : Nat} (hb : b < w.heap.size) (h : ∀ j u, e.cells[j]? = some u → w.cell? ⟨b, off + k * 2 + j, none⟩ = some u) : TraceE.Has w b off k e := fun u i => TraceE.facts fun j v hv => (i.below.cell (p := ⟨b, _, none⟩) hb).trans (h j v hv)
theorem TraceE.get {w : World} {A : Option Addr} {l : List TraceE} (h : SlAt TraceE.cells 2 w A l) {k : Nat} (hk : k < l.length) : ∃ b off x, A = some ⟨b, off, none⟩ ∧ l[k]? = some x ∧ TraceE.Has w b off k x := by
  obtain ⟨b, off, x, hA, hb, hx, hc⟩ := h.at_ hk
  exact ⟨b, off, x, hA, hx, TraceE.has hb hc⟩
def TraceE.beq (x y : TraceE) : Bool := x.machine == y.machine && x.serial == y.serial
theorem TraceE.beq_iff {x y : TraceE} : x.beq y = true ↔ x = y := by
  cases x; cases y; simp [TraceE.beq, Bool.and_eq_true, and_assoc]
theorem TraceE.enc : Enc TraceE.cells 2 := ⟨fun _ => rfl, fun x u hu => by simp only [TraceE.cells, List.mem_cons, List.not_mem_nil, or_false] at hu; rcases hu with rfl | rfl <;> rfl, by decide⟩
theorem cellsOf_45 : Try.prog.cellsOf 45 = 2 := by kernel_rfl
theorem cellsOf_3 : Try.prog.cellsOf 3 = 1 := by kernel_rfl
def IDE.wf (e : IDE) : Prop := (Lit.int .i64 e.machine).wf = true ∧ (Lit.int .i64 e.serial).wf = true
theorem IDE.opens : Opens Try.prog 45 IDE.cells (fun _ e => e.wf) := fun H enc w fuel cs x h hw => by
  have hlen := struct_len Try.underlying45 h
  rw [cellsOf_45] at hlen
  obtain ⟨a0, e0, g0⟩ := field_opens Try.underlying45 h hw 0 _ rfl 0 1 rfl cellsOf_3 (opens_int Try.underlying3)
  obtain ⟨a1, e1, g1⟩ := field_opens Try.underlying45 h hw 1 _ rfl 1 1 rfl cellsOf_3 (opens_int Try.underlying3)
  match cs, hlen with
  | [c0, c1], _ =>
    simp at e0
    subst e0
    simp at e1
    subst e1
    exact ⟨⟨a0, a1⟩, rfl, ⟨g0, g1⟩⟩
theorem cellsOf_46 : Try.prog.cellsOf 46 = 2 := by kernel_rfl
def TraceE.wf (e : TraceE) : Prop := (Lit.int .i64 e.machine).wf = true ∧ (Lit.int .i64 e.serial).wf = true
theorem TraceE.opens : Opens Try.prog 46 TraceE.cells (fun _ e => e.wf) := fun H enc w fuel cs x h hw => by
  have hlen := struct_len Try.underlying46 h
  rw [cellsOf_46] at hlen
  obtain ⟨a0, e0, g0⟩ := field_opens Try.underlying46 h hw 0 _ rfl 0 1 rfl cellsOf_3 (opens_int Try.underlying3)
  obtain ⟨a1, e1, g1⟩ := field_opens Try.underlying46 h hw 1 _ rfl 1 1 rfl cellsOf_3 (opens_int Try.underlying3)
  match cs, hlen with
  | [c0, c1], _ =>
    simp at e0
    subst e0
    simp at e1
    subst e1
    exact ⟨⟨a0, a1⟩, rfl, ⟨g0, g1⟩⟩
theorem cellsOf_94 : Try.prog.cellsOf 94 = 4 := by kernel_rfl
theorem cellsOf_2 : Try.prog.cellsOf 2 = 1 := by kernel_rfl
def ValE.wf (e : ValE) : Prop := (Lit.int .i64 e.kind).wf = true ∧ (Lit.int .i64 e.int).wf = true ∧ (Lit.int .i64 e.refMachine).wf = true ∧ (Lit.int .i64 e.refSerial).wf = true
theorem ValE.opens : Opens Try.prog 94 ValE.cells (fun _ e => e.wf) := fun H enc w fuel cs x h hw => by
  have hlen := struct_len Try.underlying94 h
  rw [cellsOf_94] at hlen
  obtain ⟨a0, e0, g0⟩ := field_opens Try.underlying94 h hw 0 _ rfl 0 1 rfl cellsOf_3 (opens_int Try.underlying3)
  obtain ⟨a1, e1, g1⟩ := field_opens Try.underlying94 h hw 1 _ rfl 1 1 rfl cellsOf_2 (opens_int Try.underlying2)
  obtain ⟨a2, e2, g2⟩ := field_opens Try.underlying94 h hw 2 _ rfl 2 2 rfl cellsOf_45 IDE.opens
  match cs, hlen with
  | [c0, c1, c2, c3], _ =>
    simp at e0
    subst e0
    simp at e1
    subst e1
    simp [IDE.cells] at e2
    obtain ⟨rfl, rfl⟩ := e2
    exact ⟨⟨a0, a1, a2.machine, a2.serial⟩, rfl, ⟨g0, g1, g2.1, g2.2⟩⟩
theorem cellsOf_52 : Try.prog.cellsOf 52 = 12 := by kernel_rfl
theorem cellsOf_38 : Try.prog.cellsOf 38 = 1 := by kernel_rfl
theorem cellsOf_4 : Try.prog.cellsOf 4 = 1 := by kernel_rfl
def StubE.wf (e : StubE) : Prop := (Lit.int .i64 e.owner).wf = true ∧ (Lit.int .u64 e.number).wf = true ∧ (Lit.int .i64 e.iDMachine).wf = true ∧ (Lit.int .i64 e.iDSerial).wf = true ∧ (Lit.int .i64 e.clas).wf = true ∧ (Lit.int .i64 e.lastUse).wf = true ∧ (Lit.int .i64 e.distance).wf = true ∧ (Lit.int .i64 e.lockMachine).wf = true ∧ (Lit.int .i64 e.lockSerial).wf = true
theorem StubE.opens : Opens Try.prog 52 StubE.cells (fun _ e => e.wf) := fun H enc w fuel cs x h hw => by
  have hlen := struct_len Try.underlying52 h
  rw [cellsOf_52] at hlen
  obtain ⟨a0, e0, g0⟩ := field_opens Try.underlying52 h hw 0 _ rfl 0 1 rfl cellsOf_3 (opens_int Try.underlying3)
  obtain ⟨a1, e1, g1⟩ := field_opens Try.underlying52 h hw 1 _ rfl 1 1 rfl cellsOf_38 (opens_int Try.underlying38)
  obtain ⟨a2, e2, g2⟩ := field_opens Try.underlying52 h hw 2 _ rfl 2 2 rfl cellsOf_45 IDE.opens
  obtain ⟨a3, e3, g3⟩ := field_opens Try.underlying52 h hw 3 _ rfl 4 1 rfl cellsOf_3 (opens_int Try.underlying3)
  obtain ⟨a4, e4, g4⟩ := field_opens Try.underlying52 h hw 4 _ rfl 5 1 rfl cellsOf_3 (opens_int Try.underlying3)
  obtain ⟨a5, e5, g5⟩ := field_opens Try.underlying52 h hw 5 _ rfl 6 1 rfl cellsOf_3 (opens_int Try.underlying3)
  obtain ⟨a6, e6, g6⟩ := field_opens Try.underlying52 h hw 6 _ rfl 7 1 rfl cellsOf_4 (opens_bool Try.underlying4)
  obtain ⟨a7, e7, g7⟩ := field_opens Try.underlying52 h hw 7 _ rfl 8 1 rfl cellsOf_4 (opens_bool Try.underlying4)
  obtain ⟨a8, e8, g8⟩ := field_opens Try.underlying52 h hw 8 _ rfl 9 1 rfl cellsOf_4 (opens_bool Try.underlying4)
  obtain ⟨a9, e9, g9⟩ := field_opens Try.underlying52 h hw 9 _ rfl 10 2 rfl cellsOf_46 TraceE.opens
  match cs, hlen with
  | [c0, c1, c2, c3, c4, c5, c6, c7, c8, c9, c10, c11], _ =>
    simp at e0
    subst e0
    simp at e1
    subst e1
    simp [IDE.cells] at e2
    obtain ⟨rfl, rfl⟩ := e2
    simp at e3
    subst e3
    simp at e4
    subst e4
    simp at e5
    subst e5
    simp at e6
    subst e6
    simp at e7
    subst e7
    simp at e8
    subst e8
    simp [TraceE.cells] at e9
    obtain ⟨rfl, rfl⟩ := e9
    exact ⟨⟨a0, a1, a2.machine, a2.serial, a3, a4, a5, a6, a7, a8, a9.machine, a9.serial⟩, rfl, ⟨g0, g1, g2.1, g2.2, g3, g4, g5, g9.1, g9.2⟩⟩
theorem cellsOf_48 : Try.prog.cellsOf 48 = 12 := by kernel_rfl
def ScionE.wf (e : ScionE) : Prop := (Lit.int .i64 e.client).wf = true ∧ (Lit.int .u64 e.number).wf = true ∧ (Lit.int .i64 e.iDMachine).wf = true ∧ (Lit.int .i64 e.iDSerial).wf = true ∧ (Lit.int .i64 e.out).wf = true ∧ (Lit.int .i64 e.inn).wf = true ∧ (Lit.int .i64 e.distance).wf = true ∧ (Lit.int .i64 e.lockMachine).wf = true ∧ (Lit.int .i64 e.lockSerial).wf = true
theorem ScionE.opens : Opens Try.prog 48 ScionE.cells (fun _ e => e.wf) := fun H enc w fuel cs x h hw => by
  have hlen := struct_len Try.underlying48 h
  rw [cellsOf_48] at hlen
  obtain ⟨a0, e0, g0⟩ := field_opens Try.underlying48 h hw 0 _ rfl 0 1 rfl cellsOf_3 (opens_int Try.underlying3)
  obtain ⟨a1, e1, g1⟩ := field_opens Try.underlying48 h hw 1 _ rfl 1 1 rfl cellsOf_38 (opens_int Try.underlying38)
  obtain ⟨a2, e2, g2⟩ := field_opens Try.underlying48 h hw 2 _ rfl 2 2 rfl cellsOf_45 IDE.opens
  obtain ⟨a3, e3, g3⟩ := field_opens Try.underlying48 h hw 3 _ rfl 4 1 rfl cellsOf_3 (opens_int Try.underlying3)
  obtain ⟨a4, e4, g4⟩ := field_opens Try.underlying48 h hw 4 _ rfl 5 1 rfl cellsOf_3 (opens_int Try.underlying3)
  obtain ⟨a5, e5, g5⟩ := field_opens Try.underlying48 h hw 5 _ rfl 6 1 rfl cellsOf_3 (opens_int Try.underlying3)
  obtain ⟨a6, e6, g6⟩ := field_opens Try.underlying48 h hw 6 _ rfl 7 1 rfl cellsOf_4 (opens_bool Try.underlying4)
  obtain ⟨a7, e7, g7⟩ := field_opens Try.underlying48 h hw 7 _ rfl 8 1 rfl cellsOf_4 (opens_bool Try.underlying4)
  obtain ⟨a8, e8, g8⟩ := field_opens Try.underlying48 h hw 8 _ rfl 9 1 rfl cellsOf_4 (opens_bool Try.underlying4)
  obtain ⟨a9, e9, g9⟩ := field_opens Try.underlying48 h hw 9 _ rfl 10 2 rfl cellsOf_46 TraceE.opens
  match cs, hlen with
  | [c0, c1, c2, c3, c4, c5, c6, c7, c8, c9, c10, c11], _ =>
    simp at e0
    subst e0
    simp at e1
    subst e1
    simp [IDE.cells] at e2
    obtain ⟨rfl, rfl⟩ := e2
    simp at e3
    subst e3
    simp at e4
    subst e4
    simp at e5
    subst e5
    simp at e6
    subst e6
    simp at e7
    subst e7
    simp at e8
    subst e8
    simp [TraceE.cells] at e9
    obtain ⟨rfl, rfl⟩ := e9
    exact ⟨⟨a0, a1, a2.machine, a2.serial, a3, a4, a5, a6, a7, a8, a9.machine, a9.serial⟩, rfl, ⟨g0, g1, g2.1, g2.2, g3, g4, g5, g9.1, g9.2⟩⟩
theorem cellsOf_76 : Try.prog.cellsOf 76 = 1 := by kernel_rfl
theorem cellsOf_25 : Try.prog.cellsOf 25 = 1 := by kernel_rfl
theorem cellsOf_22 : Try.prog.cellsOf 22 = 1 := by kernel_rfl
theorem cellsOf_27 : Try.prog.cellsOf 27 = 1 := by kernel_rfl
theorem cellsOf_26 : Try.prog.cellsOf 26 = 1 := by kernel_rfl
theorem cellsOf_78 : Try.prog.cellsOf 78 = 5 := by kernel_rfl
theorem bytesOf_78 : Try.prog.bytesOf 78 = 56 := by kernel_rfl
theorem cellsOf_24 : Try.prog.cellsOf 24 = 1 := by kernel_rfl
theorem bytesOf_24 : Try.prog.bytesOf 24 = 24 := by kernel_rfl
theorem cellsOf_29 : Try.prog.cellsOf 29 = 5 := by kernel_rfl
theorem bytesOf_29 : Try.prog.bytesOf 29 = 104 := by kernel_rfl
theorem reach_eq : reachBytes = 140737488351232 := rfl
theorem agg_of {cs : Array Value} {l : List Value} (h : (Value.agg cs).cells.toList = l) : Value.agg cs = .agg l.toArray := by
  simp only [Value.cells] at h
  rw [← h]
theorem sum_one {α : Type} (l : List α) : (l.map fun _ => 1).sum = l.length := by
  induction l with
  | nil => rfl
  | cons x l ih => rw [List.map_cons, List.sum_cons, ih, List.length_cons]; omega
theorem NodeE.cells_length (n : NodeE) : n.cells.length = 5 := rfl
theorem NodeE.opensU : OpensU Try.prog 78 NodeE.cells (fun w n => SlAt ValE.cells 4 w n.A n.fields ∧ n.fields.length ≤ n.c ∧ n.c ≤ maxLen) (fun n => n.fields.length + 1) := fun H enc w fuel cs x h hw => by
  have hlen := struct_len Try.underlying78 h
  rw [cellsOf_78] at hlen
  obtain ⟨a0, e0, g0, u0⟩ := field_opensU Try.underlying78 h hw 0 _ rfl 0 2 rfl cellsOf_45 IDE.opens.u
  obtain ⟨a1, e1, g1, u1⟩ := field_opensU Try.underlying78 h hw 1 _ rfl 2 1 rfl cellsOf_3 (opens_int Try.underlying3).u
  obtain ⟨a2, e2, g2, u2⟩ := field_opensU Try.underlying78 h hw 2 _ rfl 3 1 rfl cellsOf_3 (opens_int Try.underlying3).u
  obtain ⟨a3, e3, ⟨g3, b3, l3, m3, n3⟩, u3⟩ := field_opensU Try.underlying78 h hw 3 _ rfl 4 1 rfl cellsOf_76 (opensU_slice Try.underlying76 cellsOf_94 (by kernel_rfl : Try.prog.bytesOf 94 = 32) ValE.opens.u (by decide) ValE.cells_length)
  have hb := bulk_fields x.1 4
  simp only [show List.range 4 = [0, 1, 2, 3] from rfl, List.map_cons, List.map_nil, List.sum_cons, List.sum_nil] at hb
  rw [sum_one] at u3
  match cs, hlen with
  | [c0, c1, c2, c3, c4], _ =>
    simp [IDE.cells] at e0 e1 e2 e3
    obtain ⟨rfl, rfl⟩ := e0
    subst e1 e2 e3
    exact ⟨⟨a0.machine, a0.serial, a1, a2, a3.A, a3.c, a3.l⟩, rfl, ⟨g3, l3, m3⟩, by show a3.l.length + 1 ≤ _; omega⟩
theorem graph_opensU : OpensU Try.prog 24 (fun x : SlV NodeE => [.slice x.A x.l.length x.c]) (fun w x => NodesAt w x.A x.l) (fun x => x.l.length + fieldsN (conL x.l)) := fun H enc w fuel cs x h hw => by
  have hlen := struct_len Try.underlying24 h
  rw [cellsOf_24] at hlen
  obtain ⟨a0, e0, ⟨g0, b0, l0, m0, n0⟩, u0⟩ := field_opensU Try.underlying24 h hw 0 _ rfl 0 1 rfl cellsOf_22 (opensU_slice Try.underlying22 cellsOf_78 (by kernel_rfl : Try.prog.bytesOf 78 = 56) NodeE.opensU (by decide) NodeE.cells_length)
  have hb := bulk_fields x.1 1
  simp only [show List.range 1 = [0] from rfl, List.map_cons, List.map_nil, List.sum_cons, List.sum_nil] at hb
  have hs : ∀ l : List NodeE, (l.map fun n => n.fields.length + 1).sum = l.length + fieldsN (conL l) := by
    intro l
    induction l with
    | nil => rfl
    | cons n l ih =>
      rw [List.map_cons, List.sum_cons, ih, List.length_cons]
      have : fieldsN (conL (n :: l)) = n.fields.length + fieldsN (conL l) := by unfold fieldsN conL; simp [NodeE.con]
      omega
  rw [hs] at u0
  match cs, hlen with
  | [c0], _ =>
    simp at e0
    subst e0
    exact ⟨a0, rfl, ⟨g0, fun n hn => (n0 n hn).1, fun n hn => (n0 n hn).2⟩, by show a0.l.length + fieldsN (conL a0.l) ≤ _; omega⟩
/-- A case that came in. -/
structure CaseIn (w : World) (A : Option Addr) (l : List NodeE) (RA : Option Addr) (roots : List IDE) (KA : Option Addr) (ks : List ScionE) (EA : Option Addr) (es : List StubE) : Prop where
  g : NodesAt w A l
  r : SlAt IDE.cells 2 w RA roots
  k : SlAt ScionE.cells 12 w KA ks
  e : SlAt StubE.cells 12 w EA es
  sum : roots.length + ks.length + es.length + l.length + fieldsN (conL l) ≤ 1048576
structure CaseV where
  g : SlV NodeE
  r : SlV IDE
  k : SlV ScionE
  e : SlV StubE
  ep : Int
theorem case_opensU : OpensU Try.prog 29 (fun x : CaseV => [.slice x.g.A x.g.l.length x.g.c, .slice x.r.A x.r.l.length x.r.c, .slice x.k.A x.k.l.length x.k.c, .slice x.e.A x.e.l.length x.e.c, .int .i64 x.ep])
    (fun w x => (NodesAt w x.g.A x.g.l ∧ SlAt IDE.cells 2 w x.r.A x.r.l ∧ SlAt ScionE.cells 12 w x.k.A x.k.l ∧ SlAt StubE.cells 12 w x.e.A x.e.l) ∧ (Lit.int .i64 x.ep).wf = true ∧ (∀ k ∈ x.k.l, k.wf) ∧ (∀ e ∈ x.e.l, e.wf) ∧ x.e.l.length ≤ x.e.c ∧ x.e.c ≤ maxLen) (fun x => x.r.l.length + x.k.l.length + x.e.l.length + x.g.l.length + fieldsN (conL x.g.l)) := fun H enc w fuel cs x h hw => by
  have hlen := struct_len Try.underlying29 h
  rw [cellsOf_29] at hlen
  obtain ⟨a0, e0, g0, u0⟩ := field_opensU Try.underlying29 h hw 0 _ rfl 0 1 rfl cellsOf_24 graph_opensU
  obtain ⟨a1, e1, ⟨g1, b1, l1, m1, n1⟩, u1⟩ := field_opensU Try.underlying29 h hw 1 _ rfl 1 1 rfl cellsOf_25 (opensU_slice Try.underlying25 cellsOf_45 (by kernel_rfl : Try.prog.bytesOf 45 = 16) IDE.opens.u (by decide) IDE.cells_length)
  obtain ⟨a2, e2, ⟨g2, b2, l2, m2, n2⟩, u2⟩ := field_opensU Try.underlying29 h hw 2 _ rfl 2 1 rfl cellsOf_26 (opensU_slice Try.underlying26 cellsOf_48 (by kernel_rfl : Try.prog.bytesOf 48 = 80) ScionE.opens.u (by decide) ScionE.cells_length)
  obtain ⟨a3, e3, ⟨g3, b3, l3, m3, n3⟩, u3⟩ := field_opensU Try.underlying29 h hw 3 _ rfl 3 1 rfl cellsOf_27 (opensU_slice Try.underlying27 cellsOf_52 (by kernel_rfl : Try.prog.bytesOf 52 = 80) StubE.opens.u (by decide) StubE.cells_length)
  obtain ⟨a4, e4, g4, u4⟩ := field_opensU Try.underlying29 h hw 4 _ rfl 4 1 rfl cellsOf_3 (opens_int Try.underlying3).u
  have hb := bulk_fields x.1 5
  simp only [show List.range 5 = [0, 1, 2, 3, 4] from rfl, List.map_cons, List.map_nil, List.sum_cons, List.sum_nil] at hb
  rw [sum_one] at u1 u2 u3
  match cs, hlen with
  | [c0, c1, c2, c3, c4], _ =>
    simp at e0 e1 e2 e3 e4
    subst e0 e1 e2 e3 e4
    exact ⟨⟨a0, a1, a2, a3, a4⟩, rfl, ⟨⟨g0, g1, g2, g3⟩, g4, n2, n3, l3, m3⟩, by show a1.l.length + a2.l.length + a3.l.length + a0.l.length + fieldsN (conL a0.l) ≤ _; omega⟩
set_option maxRecDepth 100000 in
theorem open_case {H : Type} {enc : TypeId × Value → H} {w : World} {v : Value} {d : DataW H} {p : List MemPlace} {r : Go.Reach} {b0 : Nat} (hv : Value.okWide Try.prog w r b0 29 v) (h : DataW.Trod enc Try.prog w 0 (fun _ => true) true 29 v d p)
    (hw : ∀ n ∈ d.weights Try.prog 29, n ≤ reachBytes) (hb : Rows.uptoBulk d ≤ 1048576) : ∃ (A : Option Addr) (c : Nat) (l : List NodeE) (RA : Option Addr) (rc : Nat) (roots : List IDE) (KA : Option Addr) (kc : Nat) (ks : List ScionE) (EA : Option Addr) (ec : Nat) (es : List StubE) (ep : Int),
      v = .agg #[.slice A l.length c, .slice RA roots.length rc, .slice KA ks.length kc, .slice EA es.length ec, .int .i64 ep] ∧ CaseIn w A l RA roots KA ks EA es ∧ (Lit.int .i64 ep).wf = true ∧ (∀ k ∈ ks, k.wf) ∧ (∀ e ∈ es, e.wf) ∧ es.length ≤ ec ∧ ec ≤ maxLen := by
  obtain ⟨cs, rfl, _⟩ := okWide_struct Try.underlying29 hv
  obtain ⟨c, e, ⟨⟨g1, g2, g3, g4⟩, g5⟩, u⟩ := case_opensU.arg h hw
  exact ⟨c.g.A, c.g.c, c.g.l, c.r.A, c.r.c, c.r.l, c.k.A, c.k.c, c.k.l, c.e.A, c.e.c, c.e.l, c.ep, agg_of e, ⟨g1, g2, g3, g4, Nat.le_trans u hb⟩, g5⟩
set_option maxRecDepth 100000 in
theorem open_slU {α : Type} {f : α → List Value} {G : World → α → Prop} {s bytes : Nat} {t e : TypeId} (ht : Try.prog.underlying t = some (.slice e)) (ho : OpensU Try.prog t (fun x : SlV α => [.slice x.A x.l.length x.c]) (fun w x => SlAt f s w x.A x.l ∧ x.l.length * bytes ≤ reachBytes ∧ x.l.length ≤ x.c ∧ x.c ≤ maxLen ∧ ∀ a ∈ x.l, G w a) (fun x => (x.l.map fun _ => 1).sum + 1))
    {H : Type} {enc : TypeId × Value → H} {w : World} {v : Value} {d : DataW H} {p : List MemPlace} {r : Go.Reach} {b0 : Nat} (hv : Value.okWide Try.prog w r b0 t v) (h : DataW.Trod enc Try.prog w 0 (fun _ => true) true t v d p)
    (hw : ∀ n ∈ d.weights Try.prog t, n ≤ reachBytes) (hb : Rows.uptoBulk d ≤ 1048576) : ∃ (A : Option Addr) (c : Nat) (l : List α), v = .slice A l.length c ∧ SlAt f s w A l ∧ l.length ≤ 1048576 := by
  obtain ⟨a, len, cap, rfl⟩ := okWide_slice ht hv
  obtain ⟨x, e, ⟨g1, g2, g3, g4, g5⟩, u⟩ := ho.arg h hw
  rw [sum_one] at u
  refine ⟨x.A, x.c, x.l, ?_, g1, by omega⟩
  simpa [Value.cells] using e
set_option maxRecDepth 100000 in
theorem open_scionsU {H : Type} {enc : TypeId × Value → H} {w : World} {v : Value} {d : DataW H} {p : List MemPlace} {r : Go.Reach} {b0 : Nat} (hv : Value.okWide Try.prog w r b0 26 v) (h : DataW.Trod enc Try.prog w 0 (fun _ => true) true 26 v d p)
    (hw : ∀ n ∈ d.weights Try.prog 26, n ≤ reachBytes) (hb : Rows.uptoBulk d ≤ 1048576) : ∃ (A : Option Addr) (c : Nat) (l : List ScionE), v = .slice A l.length c ∧ SlAt ScionE.cells 12 w A l ∧ l.length ≤ 1048576 :=
  open_slU Try.underlying26 (opensU_slice Try.underlying26 cellsOf_48 (by kernel_rfl : Try.prog.bytesOf 48 = 80) ScionE.opens.u (by decide) ScionE.cells_length) hv h hw hb
set_option maxRecDepth 100000 in
theorem open_idsU {H : Type} {enc : TypeId × Value → H} {w : World} {v : Value} {d : DataW H} {p : List MemPlace} {r : Go.Reach} {b0 : Nat} (hv : Value.okWide Try.prog w r b0 25 v) (h : DataW.Trod enc Try.prog w 0 (fun _ => true) true 25 v d p)
    (hw : ∀ n ∈ d.weights Try.prog 25, n ≤ reachBytes) (hb : Rows.uptoBulk d ≤ 1048576) : ∃ (A : Option Addr) (c : Nat) (l : List IDE), v = .slice A l.length c ∧ SlAt IDE.cells 2 w A l ∧ l.length ≤ 1048576 :=
  open_slU Try.underlying25 (opensU_slice Try.underlying25 cellsOf_45 (by kernel_rfl : Try.prog.bytesOf 45 = 16) IDE.opens.u (by decide) IDE.cells_length) hv h hw hb
end Go.Proofs.Ytomgdkfoinojiaa
