/-
  Contracts of the functions of this seat that each theorem names: what a call returns, and that it writes nothing that was there before. The conditions stand in each theorem.
-/
import Derived.Test.YtffnogjgnpbjlaaGrpE
import Derived.Test.YtffnogjgnpbjlaaD58Law0
import Derived.Test.YtffnogjgnpbjlaaRows
set_option linter.unusedSimpArgs false
set_option linter.unusedVariables false
namespace Go.Proofs.Ytffnogjgnpbjlaa
open Go.RowKit Go.WideShapes Go.ChangeShapes
instance : Inhabited ValE := ⟨⟨0, 0, 0, 0⟩⟩
instance : Inhabited NodeE := ⟨⟨0, 0, 0, 0, none, 0, []⟩⟩
theorem cellsOf_46 : Try.prog.cellsOf 46 = 2 := by kernel_rfl
theorem cellsOf_3 : Try.prog.cellsOf 3 = 1 := by kernel_rfl
def IDE.wf (e : IDE) : Prop := (Lit.int .i64 e.machine).wf = true ∧ (Lit.int .i64 e.serial).wf = true
theorem IDE.opens : Opens Try.prog 46 IDE.cells (fun _ e => e.wf) := fun H enc w fuel cs x h hw => by
  have hlen := struct_len Try.underlying46 h
  rw [cellsOf_46] at hlen
  obtain ⟨a0, e0, g0⟩ := field_opens Try.underlying46 h hw 0 _ rfl 0 1 rfl cellsOf_3 (opens_int Try.underlying3)
  obtain ⟨a1, e1, g1⟩ := field_opens Try.underlying46 h hw 1 _ rfl 1 1 rfl cellsOf_3 (opens_int Try.underlying3)
  match cs, hlen with
  | [c0, c1], _ =>
    simp at e0
    subst e0
    simp at e1
    subst e1
    exact ⟨⟨a0, a1⟩, rfl, ⟨g0, g1⟩⟩
theorem cellsOf_62 : Try.prog.cellsOf 62 = 4 := by kernel_rfl
theorem cellsOf_2 : Try.prog.cellsOf 2 = 1 := by kernel_rfl
def ValE.wf (e : ValE) : Prop := (Lit.int .i64 e.kind).wf = true ∧ (Lit.int .i64 e.int).wf = true ∧ (Lit.int .i64 e.refMachine).wf = true ∧ (Lit.int .i64 e.refSerial).wf = true
theorem ValE.opens : Opens Try.prog 62 ValE.cells (fun _ e => e.wf) := fun H enc w fuel cs x h hw => by
  have hlen := struct_len Try.underlying62 h
  rw [cellsOf_62] at hlen
  obtain ⟨a0, e0, g0⟩ := field_opens Try.underlying62 h hw 0 _ rfl 0 1 rfl cellsOf_3 (opens_int Try.underlying3)
  obtain ⟨a1, e1, g1⟩ := field_opens Try.underlying62 h hw 1 _ rfl 1 1 rfl cellsOf_2 (opens_int Try.underlying2)
  obtain ⟨a2, e2, g2⟩ := field_opens Try.underlying62 h hw 2 _ rfl 2 2 rfl cellsOf_46 IDE.opens
  match cs, hlen with
  | [c0, c1, c2, c3], _ =>
    simp at e0
    subst e0
    simp at e1
    subst e1
    simp [IDE.cells] at e2
    obtain ⟨rfl, rfl⟩ := e2
    exact ⟨⟨a0, a1, a2.machine, a2.serial⟩, rfl, ⟨g0, g1, g2.1, g2.2⟩⟩
theorem cellsOf_54 : Try.prog.cellsOf 54 = 1 := by kernel_rfl
theorem cellsOf_25 : Try.prog.cellsOf 25 = 1 := by kernel_rfl
theorem cellsOf_22 : Try.prog.cellsOf 22 = 1 := by kernel_rfl
theorem cellsOf_56 : Try.prog.cellsOf 56 = 5 := by kernel_rfl
theorem bytesOf_56 : Try.prog.bytesOf 56 = 56 := by kernel_rfl
theorem cellsOf_24 : Try.prog.cellsOf 24 = 1 := by kernel_rfl
theorem bytesOf_24 : Try.prog.bytesOf 24 = 24 := by kernel_rfl
theorem reach_eq : reachBytes = 140737488351232 := rfl
theorem agg_of {cs : Array Value} {l : List Value} (h : (Value.agg cs).cells.toList = l) : Value.agg cs = .agg l.toArray := by
  simp only [Value.cells] at h
  rw [← h]
theorem NodeE.cells_length (n : NodeE) : n.cells.length = 5 := rfl
theorem NodeE.opens : Opens Try.prog 56 NodeE.cells (fun w n => SlAt ValE.cells 4 w n.A n.fields ∧ n.fields.length * 32 ≤ 140737488351232 ∧ n.fields.length ≤ n.c ∧ n.c ≤ maxLen) := fun H enc w fuel cs x h hw => by
  have hlen := struct_len Try.underlying56 h
  rw [cellsOf_56] at hlen
  obtain ⟨a0, e0, g0⟩ := field_opens Try.underlying56 h hw 0 _ rfl 0 2 rfl cellsOf_46 IDE.opens
  obtain ⟨a1, e1, g1⟩ := field_opens Try.underlying56 h hw 1 _ rfl 2 1 rfl cellsOf_3 (opens_int Try.underlying3)
  obtain ⟨a2, e2, g2⟩ := field_opens Try.underlying56 h hw 2 _ rfl 3 1 rfl cellsOf_3 (opens_int Try.underlying3)
  obtain ⟨a3, e3, g3, b3, l3, m3, n3⟩ := field_opens Try.underlying56 h hw 3 _ rfl 4 1 rfl cellsOf_54 (opens_slice Try.underlying54 cellsOf_62 (by kernel_rfl : Try.prog.bytesOf 62 = 32) ValE.opens (by decide) ValE.cells_length)
  rw [reach_eq] at b3
  match cs, hlen with
  | [c0, c1, c2, c3, c4], _ =>
    simp [IDE.cells] at e0 e1 e2 e3
    obtain ⟨rfl, rfl⟩ := e0
    subst e1 e2 e3
    exact ⟨⟨a0.machine, a0.serial, a1, a2, a3.A, a3.c, a3.l⟩, rfl, g3, b3, l3, m3⟩
theorem graph_opens : Opens Try.prog 24 (fun x : SlV NodeE => [.slice x.A x.l.length x.c]) (fun w x => GraphIn w x.A x.c x.l) := fun H enc w fuel cs x h hw => by
  have hlen := struct_len Try.underlying24 h
  rw [cellsOf_24] at hlen
  obtain ⟨a0, e0, g0, b0, l0, m0, n0⟩ := field_opens Try.underlying24 h hw 0 _ rfl 0 1 rfl cellsOf_22 (opens_slice Try.underlying22 cellsOf_56 (by kernel_rfl : Try.prog.bytesOf 56 = 56) NodeE.opens (by decide) NodeE.cells_length)
  rw [reach_eq] at b0
  match cs, hlen with
  | [c0], _ =>
    simp at e0
    subst e0
    exact ⟨a0, rfl, ⟨⟨g0, fun n hn => (n0 n hn).1, fun n hn => (n0 n hn).2.2⟩, by omega, fun n hn => by have := (n0 n hn).2.1; omega⟩⟩
set_option maxRecDepth 100000 in
theorem open_graph {H : Type} {enc : TypeId × Value → H} {w : World} {v : Value} {d : DataW H} {p : List MemPlace} {r : Go.Reach} {b0 : Nat} (hv : Value.okWide Try.prog w r b0 24 v) (h : DataW.Trod enc Try.prog w 0 (fun _ => true) true 24 v d p)
    (hw : ∀ n ∈ d.weights Try.prog 24, n ≤ reachBytes) : ∃ (A : Option Addr) (c : Nat) (l : List NodeE), v = .agg #[.slice A l.length c] ∧ GraphIn w A c l := by
  obtain ⟨cs, rfl, _⟩ := okWide_struct Try.underlying24 hv
  obtain ⟨c, e, g⟩ := graph_opens.arg h hw
  exact ⟨c.A, c.c, c.l, agg_of e, g⟩
/-- A slice that came in. -/
structure SlIn {α : Type} (f : α → List Value) (s bytes : Nat) (G : World → α → Prop) (w : World) (A : Option Addr) (c : Nat) (l : List α) : Prop where
  at_ : SlAt f s w A l
  len : l.length * bytes ≤ 140737488351232
  cap : l.length ≤ c
  max : c ≤ maxLen
  es : ∀ a ∈ l, G w a
set_option maxRecDepth 100000 in
theorem open_sl {α : Type} {f : α → List Value} {G : World → α → Prop} {s bytes : Nat} {t e : TypeId} (ht : Try.prog.underlying t = some (.slice e)) (ho : Opens Try.prog t (fun x : SlV α => [.slice x.A x.l.length x.c]) (fun w x => SlAt f s w x.A x.l ∧ x.l.length * bytes ≤ reachBytes ∧ x.l.length ≤ x.c ∧ x.c ≤ maxLen ∧ ∀ a ∈ x.l, G w a))
    {H : Type} {enc : TypeId × Value → H} {w : World} {v : Value} {d : DataW H} {p : List MemPlace} {r : Go.Reach} {b0 : Nat} (hv : Value.okWide Try.prog w r b0 t v) (h : DataW.Trod enc Try.prog w 0 (fun _ => true) true t v d p)
    (hw : ∀ n ∈ d.weights Try.prog t, n ≤ reachBytes) : ∃ (A : Option Addr) (c : Nat) (l : List α), v = .slice A l.length c ∧ SlIn f s bytes G w A c l := by
  obtain ⟨a, len, cap, rfl⟩ := okWide_slice ht hv
  obtain ⟨x, e, g1, g2, g3, g4, g5⟩ := ho.arg h hw
  rw [reach_eq] at g2
  refine ⟨x.A, x.c, x.l, ?_, g1, g2, g3, g4, g5⟩
  simpa [Value.cells] using e
set_option maxRecDepth 100000 in
theorem open_ids {H : Type} {enc : TypeId × Value → H} {w : World} {v : Value} {d : DataW H} {p : List MemPlace} {r : Go.Reach} {b0 : Nat} (hv : Value.okWide Try.prog w r b0 25 v) (h : DataW.Trod enc Try.prog w 0 (fun _ => true) true 25 v d p)
    (hw : ∀ n ∈ d.weights Try.prog 25, n ≤ reachBytes) : ∃ (A : Option Addr) (c : Nat) (l : List IDE), v = .slice A l.length c ∧ SlIn IDE.cells 2 16 (fun _ e => e.wf) w A c l :=
  open_sl Try.underlying25 (opens_slice Try.underlying25 cellsOf_46 (by kernel_rfl : Try.prog.bytesOf 46 = 16) IDE.opens (by decide) IDE.cells_length) hv h hw
end Go.Proofs.Ytffnogjgnpbjlaa
