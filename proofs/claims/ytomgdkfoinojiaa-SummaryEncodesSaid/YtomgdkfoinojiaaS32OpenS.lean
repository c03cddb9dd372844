/-
  Contracts of the functions of this seat that each theorem names: what a call returns, and that it writes nothing that was there before. The conditions stand in each theorem.
-/
import Derived.Test.YtomgdkfoinojiaaGrpE
import Derived.Test.YtomgdkfoinojiaaGrpU
set_option linter.unusedSimpArgs false
set_option linter.unusedVariables false
namespace Go.Proofs.Ytomgdkfoinojiaa
open Go.RowKit Go.WideShapes Go.ChangeShapes
instance : Inhabited SumE := ⟨⟨0, 0, false, 0, none, 0, []⟩⟩
theorem cellsOf_58 : Try.prog.cellsOf 58 = 3 := by kernel_rfl
theorem cellsOf_3 : Try.prog.cellsOf 3 = 1 := by kernel_rfl
theorem cellsOf_38 : Try.prog.cellsOf 38 = 1 := by kernel_rfl
def InsetE.wf (e : InsetE) : Prop := (Lit.int .i64 e.client).wf = true ∧ (Lit.int .u64 e.number).wf = true ∧ (Lit.int .i64 e.out).wf = true
theorem InsetE.opens : Opens Try.prog 58 InsetE.cells (fun _ e => e.wf) := fun H enc w fuel cs x h hw => by
  have hlen := struct_len Try.underlying58 h
  rw [cellsOf_58] at hlen
  obtain ⟨a0, e0, g0⟩ := field_opens Try.underlying58 h hw 0 _ rfl 0 1 rfl cellsOf_3 (opens_int Try.underlying3)
  obtain ⟨a1, e1, g1⟩ := field_opens Try.underlying58 h hw 1 _ rfl 1 1 rfl cellsOf_38 (opens_int Try.underlying38)
  obtain ⟨a2, e2, g2⟩ := field_opens Try.underlying58 h hw 2 _ rfl 2 1 rfl cellsOf_3 (opens_int Try.underlying3)
  match cs, hlen with
  | [c0, c1, c2], _ =>
    simp at e0
    subst e0
    simp at e1
    subst e1
    simp at e2
    subst e2
    exact ⟨⟨a0, a1, a2⟩, rfl, ⟨g0, g1, g2⟩⟩
theorem cellsOf_39 : Try.prog.cellsOf 39 = 1 := by kernel_rfl
theorem cellsOf_32 : Try.prog.cellsOf 32 = 1 := by kernel_rfl
theorem cellsOf_41 : Try.prog.cellsOf 41 = 5 := by kernel_rfl
theorem bytesOf_41 : Try.prog.bytesOf 41 = 56 := by kernel_rfl
theorem cellsOf_34 : Try.prog.cellsOf 34 = 2 := by kernel_rfl
theorem bytesOf_34 : Try.prog.bytesOf 34 = 32 := by kernel_rfl
theorem cellsOf_4 : Try.prog.cellsOf 4 = 1 := by kernel_rfl
theorem bytesOf_4 : Try.prog.bytesOf 4 = 1 := by kernel_rfl
theorem reach_eq : reachBytes = 140737488351232 := rfl
theorem agg_of {cs : Array Value} {l : List Value} (h : (Value.agg cs).cells.toList = l) : Value.agg cs = .agg l.toArray := by
  simp only [Value.cells] at h
  rw [← h]
theorem SumE.cells_length (n : SumE) : n.cells.length = 5 := rfl
def SumE.wf (n : SumE) : Prop := (Lit.int .i64 n.owner).wf = true ∧ (Lit.int .u64 n.number).wf = true ∧ (Lit.int .i64 n.distance).wf = true ∧ ∀ y ∈ n.inset, y.wf
theorem SumE.opens : Opens Try.prog 41 SumE.cells (fun w n => SlAt InsetE.cells 3 w n.A n.inset ∧ n.inset.length * 24 ≤ 140737488351232 ∧ (n.inset.length ≤ n.c ∧ n.c ≤ maxLen) ∧ n.wf) := fun H enc w fuel cs x h hw => by
  have hlen := struct_len Try.underlying41 h
  rw [cellsOf_41] at hlen
  obtain ⟨a0, e0, g0⟩ := field_opens Try.underlying41 h hw 0 _ rfl 0 1 rfl cellsOf_3 (opens_int Try.underlying3)
  obtain ⟨a1, e1, g1⟩ := field_opens Try.underlying41 h hw 1 _ rfl 1 1 rfl cellsOf_38 (opens_int Try.underlying38)
  obtain ⟨a2, e2, g2⟩ := field_opens Try.underlying41 h hw 2 _ rfl 2 1 rfl cellsOf_4 (opens_bool Try.underlying4)
  obtain ⟨a3, e3, g3⟩ := field_opens Try.underlying41 h hw 3 _ rfl 3 1 rfl cellsOf_3 (opens_int Try.underlying3)
  obtain ⟨a4, e4, g4, b4, l4, m4, n4⟩ := field_opens Try.underlying41 h hw 4 _ rfl 4 1 rfl cellsOf_39 (opens_slice Try.underlying39 cellsOf_58 (by kernel_rfl : Try.prog.bytesOf 58 = 24) InsetE.opens (by decide) InsetE.cells_length)
  rw [reach_eq] at b4
  match cs, hlen with
  | [c0, c1, c2, c3, c4], _ =>
    simp at e0 e1 e2 e3 e4
    subst e0 e1 e2 e3 e4
    exact ⟨⟨a0, a1, a2, a3, a4.A, a4.c, a4.l⟩, rfl, g4, b4, ⟨l4, m4⟩, g0, g1, g3, n4⟩
structure SummaryV where
  ep : Int
  s : SlV SumE
theorem summary_opens : Opens Try.prog 34 (fun x : SummaryV => [.int .i64 x.ep, .slice x.s.A x.s.l.length x.s.c]) (fun w x => SumsAt w x.s.A x.s.l ∧ x.s.l.length * 48 ≤ 140737488351232 ∧ (∀ n ∈ x.s.l, n.inset.length * 24 ≤ 140737488351232 ∧ n.wf) ∧ (Lit.int .i64 x.ep).wf = true ∧ x.s.l.length ≤ x.s.c ∧ x.s.c ≤ maxLen) := fun H enc w fuel cs x h hw => by
  have hlen := struct_len Try.underlying34 h
  rw [cellsOf_34] at hlen
  obtain ⟨a0, e0, g0⟩ := field_opens Try.underlying34 h hw 0 _ rfl 0 1 rfl cellsOf_3 (opens_int Try.underlying3)
  obtain ⟨a1, e1, g1, b1, l1, m1, n1⟩ := field_opens Try.underlying34 h hw 1 _ rfl 1 1 rfl cellsOf_32 (opens_slice Try.underlying32 cellsOf_41 (by kernel_rfl : Try.prog.bytesOf 41 = 56) SumE.opens (by decide) SumE.cells_length)
  rw [reach_eq] at b1
  match cs, hlen with
  | [c0, c1], _ =>
    simp at e0 e1
    subst e0 e1
    exact ⟨⟨a0, a1⟩, rfl, ⟨g1, fun n hn => (n1 n hn).1, fun n hn => (n1 n hn).2.2.1⟩, by show a1.l.length * 48 ≤ 140737488351232; omega, fun n hn => ⟨(n1 n hn).2.1, (n1 n hn).2.2.2⟩, g0, l1, m1⟩
set_option maxRecDepth 100000 in
theorem open_summary {H : Type} {enc : TypeId × Value → H} {w : World} {v : Value} {d : DataW H} {p : List MemPlace} {r : Go.Reach} {b0 : Nat} (hv : Value.okWide Try.prog w r b0 34 v) (h : DataW.Trod enc Try.prog w 0 (fun _ => true) true 34 v d p)
    (hw : ∀ n ∈ d.weights Try.prog 34, n ≤ reachBytes) : ∃ (ep : Int) (A : Option Addr) (c : Nat) (l : List SumE), v = .agg #[.int .i64 ep, .slice A l.length c] ∧ SumsAt w A l ∧ l.length * 48 ≤ 140737488351232 ∧ (∀ n ∈ l, n.inset.length * 24 ≤ 140737488351232 ∧ n.wf) ∧ (Lit.int .i64 ep).wf = true ∧ l.length ≤ c ∧ c ≤ maxLen := by
  obtain ⟨cs, rfl, _⟩ := okWide_struct Try.underlying34 hv
  obtain ⟨c, e, g⟩ := summary_opens.arg h hw
  exact ⟨c.ep, c.s.A, c.s.c, c.s.l, agg_of e, g⟩
end Go.Proofs.Ytomgdkfoinojiaa
