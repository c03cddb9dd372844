/-
  Contracts of the functions of this seat that each theorem names: what a call returns, and that it writes nothing that was there before. The conditions stand in each theorem.
-/
import Derived.Test.YtjegncmkebbdfaaGreatDoorGrp45
import Derived.Test.YtjegncmkebbdfaaGreatDoorF16Few
import Derived.Test.YtjegncmkebbdfaaGreatDoorGrp33
set_option linter.unusedSimpArgs false
set_option linter.unusedVariables false
namespace Go.Proofs.YtjegncmkebbdfaaGreatDoor
open Go.RowKit Go.WideShapes Go.ChangeShapes
instance : Inhabited ValE := ⟨⟨0, 0, 0, 0⟩⟩
instance : Inhabited NodeE := ⟨⟨0, 0, 0, 0, none, 0, []⟩⟩
theorem cellsOf_44 : Tryz.prog.cellsOf 44 = 2 := by kernel_rfl
theorem cellsOf_3 : Tryz.prog.cellsOf 3 = 1 := by kernel_rfl
def IDE.wf (e : IDE) : Prop := (Lit.int .i64 e.machine).wf = true ∧ (Lit.int .i64 e.serial).wf = true
theorem IDE.opens : Opens Tryz.prog 44 IDE.cells (fun _ e => e.wf) := fun H enc w fuel cs x h hw => by
  have hlen := struct_len Tryz.underlying44 h
  rw [cellsOf_44] at hlen
  obtain ⟨a0, e0, g0⟩ := field_opens Tryz.underlying44 h hw 0 _ rfl 0 1 rfl cellsOf_3 (opens_int Tryz.underlying3)
  obtain ⟨a1, e1, g1⟩ := field_opens Tryz.underlying44 h hw 1 _ rfl 1 1 rfl cellsOf_3 (opens_int Tryz.underlying3)
  match cs, hlen with
  | [c0, c1], _ =>
    simp at e0
    subst e0
    simp at e1
    subst e1
    exact ⟨⟨a0, a1⟩, rfl, ⟨g0, g1⟩⟩
theorem cellsOf_46 : Tryz.prog.cellsOf 46 = 4 := by kernel_rfl
theorem cellsOf_2 : Tryz.prog.cellsOf 2 = 1 := by kernel_rfl
def ValE.wf (e : ValE) : Prop := (Lit.int .i64 e.kind).wf = true ∧ (Lit.int .i64 e.int).wf = true ∧ (Lit.int .i64 e.refMachine).wf = true ∧ (Lit.int .i64 e.refSerial).wf = true
theorem ValE.opens : Opens Tryz.prog 46 ValE.cells (fun _ e => e.wf) := fun H enc w fuel cs x h hw => by
  have hlen := struct_len Tryz.underlying46 h
  rw [cellsOf_46] at hlen
  obtain ⟨a0, e0, g0⟩ := field_opens Tryz.underlying46 h hw 0 _ rfl 0 1 rfl cellsOf_3 (opens_int Tryz.underlying3)
  obtain ⟨a1, e1, g1⟩ := field_opens Tryz.underlying46 h hw 1 _ rfl 1 1 rfl cellsOf_2 (opens_int Tryz.underlying2)
  obtain ⟨a2, e2, g2⟩ := field_opens Tryz.underlying46 h hw 2 _ rfl 2 2 rfl cellsOf_44 IDE.opens
  match cs, hlen with
  | [c0, c1, c2, c3], _ =>
    simp at e0
    subst e0
    simp at e1
    subst e1
    simp [IDE.cells] at e2
    obtain ⟨rfl, rfl⟩ := e2
    exact ⟨⟨a0, a1, a2.machine, a2.serial⟩, rfl, ⟨g0, g1, g2.1, g2.2⟩⟩
theorem cellsOf_49 : Tryz.prog.cellsOf 49 = 1 := by kernel_rfl
theorem cellsOf_55 : Tryz.prog.cellsOf 55 = 1 := by kernel_rfl
theorem cellsOf_25 : Tryz.prog.cellsOf 25 = 1 := by kernel_rfl
theorem cellsOf_51 : Tryz.prog.cellsOf 51 = 5 := by kernel_rfl
theorem bytesOf_51 : Tryz.prog.bytesOf 51 = 56 := by kernel_rfl
theorem cellsOf_27 : Tryz.prog.cellsOf 27 = 1 := by kernel_rfl
theorem bytesOf_27 : Tryz.prog.bytesOf 27 = 24 := by kernel_rfl
theorem reach_eq : reachBytes = 140737488351232 := rfl
theorem agg_of {cs : Array Value} {l : List Value} (h : (Value.agg cs).cells.toList = l) : Value.agg cs = .agg l.toArray := by
  simp only [Value.cells] at h
  rw [← h]
theorem sum_one {α : Type} (l : List α) : (l.map fun _ => 1).sum = l.length := by
  induction l with
  | nil => rfl
  | cons x l ih => rw [List.map_cons, List.sum_cons, ih, List.length_cons]; omega
theorem NodeE.cells_length (n : NodeE) : n.cells.length = 5 := rfl
theorem NodeE.opensU : OpensU Tryz.prog 51 NodeE.cells (fun w n => SlAt ValE.cells 4 w n.A n.fields ∧ n.fields.length ≤ n.c ∧ n.c ≤ maxLen) (fun n => n.fields.length + 1) := fun H enc w fuel cs x h hw => by
  have hlen := struct_len Tryz.underlying51 h
  rw [cellsOf_51] at hlen
  obtain ⟨a0, e0, g0, u0⟩ := field_opensU Tryz.underlying51 h hw 0 _ rfl 0 2 rfl cellsOf_44 IDE.opens.u
  obtain ⟨a1, e1, g1, u1⟩ := field_opensU Tryz.underlying51 h hw 1 _ rfl 2 1 rfl cellsOf_3 (opens_int Tryz.underlying3).u
  obtain ⟨a2, e2, g2, u2⟩ := field_opensU Tryz.underlying51 h hw 2 _ rfl 3 1 rfl cellsOf_3 (opens_int Tryz.underlying3).u
  obtain ⟨a3, e3, ⟨g3, b3, l3, m3, n3⟩, u3⟩ := field_opensU Tryz.underlying51 h hw 3 _ rfl 4 1 rfl cellsOf_49 (opensU_slice Tryz.underlying49 cellsOf_46 (by kernel_rfl : Tryz.prog.bytesOf 46 = 32) ValE.opens.u (by decide) ValE.cells_length)
  have hb := bulk_fields x.1 4
  simp only [show List.range 4 = [0, 1, 2, 3] from rfl, List.map_cons, List.map_nil, List.sum_cons, List.sum_nil] at hb
  rw [sum_one] at u3
  match cs, hlen with
  | [c0, c1, c2, c3, c4], _ =>
    simp [IDE.cells] at e0 e1 e2 e3
    obtain ⟨rfl, rfl⟩ := e0
    subst e1 e2 e3
    exact ⟨⟨a0.machine, a0.serial, a1, a2, a3.A, a3.c, a3.l⟩, rfl, ⟨g3, l3, m3⟩, by show a3.l.length + 1 ≤ _; omega⟩
theorem graph_opensU : OpensU Tryz.prog 27 (fun x : SlV NodeE => [.slice x.A x.l.length x.c]) (fun w x => NodesAt w x.A x.l) (fun x => x.l.length + fieldsN (conL x.l)) := fun H enc w fuel cs x h hw => by
  have hlen := struct_len Tryz.underlying27 h
  rw [cellsOf_27] at hlen
  obtain ⟨a0, e0, ⟨g0, b0, l0, m0, n0⟩, u0⟩ := field_opensU Tryz.underlying27 h hw 0 _ rfl 0 1 rfl cellsOf_25 (opensU_slice Tryz.underlying25 cellsOf_51 (by kernel_rfl : Tryz.prog.bytesOf 51 = 56) NodeE.opensU (by decide) NodeE.cells_length)
  have hb := bulk_fields x.1 1
  simp only [show List.range 1 = [0] from rfl, List.map_cons, List.map_nil, List.sum_cons, List.sum_nil] at hb
  have hs : ∀ l : List NodeE, (l.map fun n => n.fields.length + 1).sum = l.length + fieldsN (conL l) := by
    intro l
    induction l with
    | nil => rfl
    | cons n l ih =>
      rw [List.map_cons, List.sum_cons, ih, List.length_cons]
      have : fieldsN (conL (n :: l)) = n.fields.length + fieldsN (conL l) := by unfold fieldsN conL; simp [NodeE.con]
      omega
  rw [hs] at u0
  match cs, hlen with
  | [c0], _ =>
    simp at e0
    subst e0
    exact ⟨a0, rfl, ⟨g0, fun n hn => (n0 n hn).1, fun n hn => (n0 n hn).2⟩, by show a0.l.length + fieldsN (conL a0.l) ≤ _; omega⟩
set_option maxRecDepth 100000 in
theorem open_graphU {H : Type} {enc : TypeId × Value → H} {w : World} {v : Value} {d : DataW H} {p : List MemPlace} {r : Go.Reach} {b0 : Nat} (hv : Value.okWide Tryz.prog w r b0 27 v) (h : DataW.Trod enc Tryz.prog w 0 (fun _ => true) true 27 v d p)
    (hw : ∀ n ∈ d.weights Tryz.prog 27, n ≤ reachBytes) (hb : Rows.uptoBulk d ≤ 1048576) : ∃ (A : Option Addr) (c : Nat) (l : List NodeE), v = .agg #[.slice A l.length c] ∧ NodesAt w A l ∧ cntG l ≤ 1048576 := by
  obtain ⟨cs, rfl, _⟩ := okWide_struct Tryz.underlying27 hv
  obtain ⟨c, e, g, u⟩ := graph_opensU.arg h hw
  exact ⟨c.A, c.c, c.l, agg_of e, g, Nat.le_trans u hb⟩
set_option maxRecDepth 100000 in
theorem open_slU {α : Type} {f : α → List Value} {G : World → α → Prop} {s bytes : Nat} {t e : TypeId} (ht : Tryz.prog.underlying t = some (.slice e)) (ho : OpensU Tryz.prog t (fun x : SlV α => [.slice x.A x.l.length x.c]) (fun w x => SlAt f s w x.A x.l ∧ x.l.length * bytes ≤ reachBytes ∧ x.l.length ≤ x.c ∧ x.c ≤ maxLen ∧ ∀ a ∈ x.l, G w a) (fun x => (x.l.map fun _ => 1).sum + 1))
    {H : Type} {enc : TypeId × Value → H} {w : World} {v : Value} {d : DataW H} {p : List MemPlace} {r : Go.Reach} {b0 : Nat} (hv : Value.okWide Tryz.prog w r b0 t v) (h : DataW.Trod enc Tryz.prog w 0 (fun _ => true) true t v d p)
    (hw : ∀ n ∈ d.weights Tryz.prog t, n ≤ reachBytes) (hb : Rows.uptoBulk d ≤ 1048576) : ∃ (A : Option Addr) (c : Nat) (l : List α), v = .slice A l.length c ∧ SlAt f s w A l ∧ l.length ≤ 1048576 := by
  obtain ⟨a, len, cap, rfl⟩ := okWide_slice ht hv
  obtain ⟨x, e, ⟨g1, g2, g3, g4, g5⟩, u⟩ := ho.arg h hw
  rw [sum_one] at u
  refine ⟨x.A, x.c, x.l, ?_, g1, by omega⟩
  simpa [Value.cells] using e
set_option maxRecDepth 100000 in
theorem open_idsU {H : Type} {enc : TypeId × Value → H} {w : World} {v : Value} {d : DataW H} {p : List MemPlace} {r : Go.Reach} {b0 : Nat} (hv : Value.okWide Tryz.prog w r b0 55 v) (h : DataW.Trod enc Tryz.prog w 0 (fun _ => true) true 55 v d p)
    (hw : ∀ n ∈ d.weights Tryz.prog 55, n ≤ reachBytes) (hb : Rows.uptoBulk d ≤ 1048576) : ∃ (A : Option Addr) (c : Nat) (l : List IDE), v = .slice A l.length c ∧ SlAt IDE.cells 2 w A l ∧ l.length ≤ 1048576 :=
  open_slU Tryz.underlying55 (opensU_slice Tryz.underlying55 cellsOf_44 (by kernel_rfl : Tryz.prog.bytesOf 44 = 16) IDE.opens.u (by decide) IDE.cells_length) hv h hw hb
end Go.Proofs.YtjegncmkebbdfaaGreatDoor
