/-
  Contracts of the functions of this seat that each theorem names: what a call returns, and that it writes nothing that was there before. The conditions stand in each theorem.
-/
import Derived.Test.YthigjlllhnajbaaC25LawG
import Derived.Test.YthigjlllhnajbaaC25Open
namespace Go.Proofs.Ythigjlllhnajbaa
open Go.RowKit Go.WideShapes Go.ChangeShapes
instance : Inhabited OpE := ⟨⟨0, 0⟩⟩
theorem cellsOf_52 : Try.prog.cellsOf 52 = 2 := by kernel_rfl
theorem cellsOf_5 : Try.prog.cellsOf 5 = 1 := by kernel_rfl
def OpE.wf (e : OpE) : Prop := (Lit.int .u8 e.kind).wf = true ∧ (Lit.int .u8 e.n).wf = true
theorem OpE.opens : Opens Try.prog 52 OpE.cells (fun _ e => e.wf) := fun H enc w fuel cs x h hw => by
  have hlen := struct_len Try.underlying52 h
  rw [cellsOf_52] at hlen
  obtain ⟨a0, e0, g0⟩ := field_opens Try.underlying52 h hw 0 _ rfl 0 1 rfl cellsOf_5 (opens_int Try.underlying5)
  obtain ⟨a1, e1, g1⟩ := field_opens Try.underlying52 h hw 1 _ rfl 1 1 rfl cellsOf_5 (opens_int Try.underlying5)
  match cs, hlen with
  | [c0, c1], _ =>
    simp at e0
    subst e0
    simp at e1
    subst e1
    exact ⟨⟨a0, a1⟩, rfl, ⟨g0, g1⟩⟩
theorem cellsOf_46 : Try.prog.cellsOf 46 = 1 := by kernel_rfl
set_option maxRecDepth 100000 in
theorem open_ops {H : Type} {enc : TypeId × Value → H} {w : World} {v : Value} {d : DataW H} {p : List MemPlace} {r : Reach} {b0 : Nat} (hv : Value.okWide Try.prog w r b0 46 v) (h : DataW.Trod enc Try.prog w 0 (fun _ => true) true 46 v d p)
    (hw : ∀ n ∈ d.weights Try.prog 46, n ≤ reachBytes) : ∃ (A : Option Addr) (c : Nat) (l : List OpE), v = .slice A l.length c ∧ SlIn OpE.cells 2 2 (fun _ e => e.wf) w A c l :=
  open_sl Try.underlying46 (opens_slice Try.underlying46 cellsOf_52 (by kernel_rfl : Try.prog.bytesOf 52 = 2) OpE.opens (by decide) OpE.cells_length) hv h hw
theorem op_rng {x : OpE} (h : x.wf) : 0 ≤ x.kind ∧ 0 ≤ x.n ∧ x.n < 256 := by
  obtain ⟨a, b⟩ := h
  have := wf_u8 a
  have := wf_u8 b
  omega
theorem rowSafe_any (A : Option Addr) (c : Nat) (ops : List OpE) (w : World) (h : SlIn OpE.cells 2 2 (fun _ e => e.wf) w A c ops) :
    Calls Try.prog 9 #[.slice A ops.length c] w fun r w' => r = .returned (.bool true) ∧ Below w.heap.size w w' :=
  lawSafe_any A c ops w h.at_ (fun x hx => op_rng (h.es x hx)) (by have := h.len; omega)
theorem rowGone_any (A : Option Addr) (c : Nat) (ops : List OpE) (w : World) (h : SlIn OpE.cells 2 2 (fun _ e => e.wf) w A c ops) :
    Calls Try.prog 7 #[.slice A ops.length c] w fun r w' => r = .returned (.bool true) ∧ Below w.heap.size w w' :=
  lawGone_any A c ops w h.at_ (fun x hx => op_rng (h.es x hx)) (by have := h.len; omega)
end Go.Proofs.Ythigjlllhnajbaa
