/-
  Contracts of the functions of this seat that each theorem names: what a call returns, and that it writes nothing that was there before. The conditions stand in each theorem.
-/
import Derived.Test.YthigjlllhnajbaaGrpE
import Derived.Test.YthigjlllhnajbaaC25Sort
import Derived.Test.YthigjlllhnajbaaC25Encode
import Derived.Test.YthigjlllhnajbaaRows
namespace Go.Proofs.Ythigjlllhnajbaa
open Go.RowKit Go.WideShapes Go.ChangeShapes
instance : Inhabited StubE := ⟨⟨0, 0, 0, 0, 0, 0, 0, false, false, false, 0, 0⟩⟩
instance : Inhabited ScionE := ⟨⟨0, 0, 0, 0, 0, 0, 0, false, false, false, 0, 0⟩⟩
@[ext] structure TraceE where
  machine : Int
  serial : Int
def TraceE.cells (e : TraceE) : List Value := [.int .i64 e.machine, .int .i64 e.serial]
theorem TraceE.cells_length (e : TraceE) : e.cells.length = 2 := rfl
abbrev TraceE.v (e : TraceE) : Value := .agg #[.int .i64 e.machine, .int .i64 e.serial]
abbrev TraceE.arr (e : TraceE) : Array Value := #[.int .i64 e.machine, .int .i64 e.serial]
theorem TraceE.facts {e : TraceE} {w : World} {b off k : Nat} (h : ∀ j u, e.cells[j]? = some u → w.cell? ⟨b, off + k * 2 + j, none⟩ = some u) : w.cell? ⟨b, off + k * 2, none⟩ = some (.int .i64 e.machine) ∧ w.cell? ⟨b, off + k * 2 + 1, none⟩ = some (.int .i64 e.serial) :=
  ⟨by simpa using h 0 _ rfl, by simpa using h 1 _ rfl⟩
/-- The element lies there, in each later world. -/
abbrev TraceE.Has (w : World) (b off k : Nat) (e : TraceE) : Prop := ∀ (u : World) [Later w u], u.cell? ⟨b, off + k * 2, none⟩ = some (.int .i64 e.machine) ∧ u.cell? ⟨b, off + k * 2 + 1, none⟩ = some (.int .i64 e.serial)
theorem TraceE.has {e : TraceE} {w : World} {b off k : Nat} (hb : b < w.heap.size) (h : ∀ j u, e.cells[j]? = some u → w.cell? ⟨b, off + k * 2 + j, none⟩ = some u) : TraceE.Has w b off k e := fun u i => TraceE.facts fun j v hv => (i.below.cell (p := ⟨b, _, none⟩) hb).trans (h j v hv)
theorem TraceE.get {w : World} {A : Option Addr} {l : List TraceE} (h : SlAt TraceE.cells 2 w A l) {k : Nat} (hk : k < l.length) : ∃ b off x, A = some ⟨b, off, none⟩ ∧ l[k]? = some x ∧ TraceE.Has w b off k x := by
  obtain ⟨b, off, x, hA, hb, hx, hc⟩ := h.at_ hk
  exact ⟨b, off, x, hA, hx, TraceE.has hb hc⟩
def TraceE.beq (x y : TraceE) : Bool := x.machine == y.machine && x.serial == y.serial
theorem TraceE.beq_iff {x y : TraceE} : x.beq y = true ↔ x = y := by
  cases x; cases y; simp [TraceE.beq, Bool.and_eq_true, and_assoc]
theorem TraceE.enc : Enc TraceE.cells 2 := ⟨fun _ => rfl, fun x u hu => by simp only [TraceE.cells, List.mem_cons, List.not_mem_nil, or_false] at hu; rcases hu with rfl | rfl <;> rfl, by decide⟩
theorem cellsOf_31 : Try.prog.cellsOf 31 = 2 := by kernel_rfl
theorem cellsOf_3 : Try.prog.cellsOf 3 = 1 := by kernel_rfl
def IDE.wf (e : IDE) : Prop := (Lit.int .i64 e.machine).wf = true ∧ (Lit.int .i64 e.serial).wf = true
theorem IDE.opens : Opens Try.prog 31 IDE.cells (fun _ e => e.wf) := fun H enc w fuel cs x h hw => by
  have hlen := struct_len Try.underlying31 h
  rw [cellsOf_31] at hlen
  obtain ⟨a0, e0, g0⟩ := field_opens Try.underlying31 h hw 0 _ rfl 0 1 rfl cellsOf_3 (opens_int Try.underlying3)
  obtain ⟨a1, e1, g1⟩ := field_opens Try.underlying31 h hw 1 _ rfl 1 1 rfl cellsOf_3 (opens_int Try.underlying3)
  match cs, hlen with
  | [c0, c1], _ =>
    simp at e0
    subst e0
    simp at e1
    subst e1
    exact ⟨⟨a0, a1⟩, rfl, ⟨g0, g1⟩⟩
theorem cellsOf_32 : Try.prog.cellsOf 32 = 2 := by kernel_rfl
def TraceE.wf (e : TraceE) : Prop := (Lit.int .i64 e.machine).wf = true ∧ (Lit.int .i64 e.serial).wf = true
theorem TraceE.opens : Opens Try.prog 32 TraceE.cells (fun _ e => e.wf) := fun H enc w fuel cs x h hw => by
  have hlen := struct_len Try.underlying32 h
  rw [cellsOf_32] at hlen
  obtain ⟨a0, e0, g0⟩ := field_opens Try.underlying32 h hw 0 _ rfl 0 1 rfl cellsOf_3 (opens_int Try.underlying3)
  obtain ⟨a1, e1, g1⟩ := field_opens Try.underlying32 h hw 1 _ rfl 1 1 rfl cellsOf_3 (opens_int Try.underlying3)
  match cs, hlen with
  | [c0, c1], _ =>
    simp at e0
    subst e0
    simp at e1
    subst e1
    exact ⟨⟨a0, a1⟩, rfl, ⟨g0, g1⟩⟩
theorem cellsOf_64 : Try.prog.cellsOf 64 = 3 := by kernel_rfl
theorem cellsOf_29 : Try.prog.cellsOf 29 = 1 := by kernel_rfl
theorem cellsOf_4 : Try.prog.cellsOf 4 = 1 := by kernel_rfl
def ListedE.wf (e : ListedE) : Prop := (Lit.int .u64 e.number).wf = true ∧ (Lit.int .i64 e.distance).wf = true
theorem ListedE.opens : Opens Try.prog 64 ListedE.cells (fun _ e => e.wf) := fun H enc w fuel cs x h hw => by
  have hlen := struct_len Try.underlying64 h
  rw [cellsOf_64] at hlen
  obtain ⟨a0, e0, g0⟩ := field_opens Try.underlying64 h hw 0 _ rfl 0 1 rfl cellsOf_29 (opens_int Try.underlying29)
  obtain ⟨a1, e1, g1⟩ := field_opens Try.underlying64 h hw 1 _ rfl 1 1 rfl cellsOf_3 (opens_int Try.underlying3)
  obtain ⟨a2, e2, g2⟩ := field_opens Try.underlying64 h hw 2 _ rfl 2 1 rfl cellsOf_4 (opens_bool Try.underlying4)
  match cs, hlen with
  | [c0, c1, c2], _ =>
    simp at e0
    subst e0
    simp at e1
    subst e1
    simp at e2
    subst e2
    exact ⟨⟨a0, a1, a2⟩, rfl, ⟨g0, g1⟩⟩
theorem cellsOf_34 : Try.prog.cellsOf 34 = 12 := by kernel_rfl
def StubE.wf (e : StubE) : Prop := (Lit.int .i64 e.owner).wf = true ∧ (Lit.int .u64 e.number).wf = true ∧ (Lit.int .i64 e.iDMachine).wf = true ∧ (Lit.int .i64 e.iDSerial).wf = true ∧ (Lit.int .i64 e.clas).wf = true ∧ (Lit.int .i64 e.lastUse).wf = true ∧ (Lit.int .i64 e.distance).wf = true ∧ (Lit.int .i64 e.lockMachine).wf = true ∧ (Lit.int .i64 e.lockSerial).wf = true
theorem StubE.opens : Opens Try.prog 34 StubE.cells (fun _ e => e.wf) := fun H enc w fuel cs x h hw => by
  have hlen := struct_len Try.underlying34 h
  rw [cellsOf_34] at hlen
  obtain ⟨a0, e0, g0⟩ := field_opens Try.underlying34 h hw 0 _ rfl 0 1 rfl cellsOf_3 (opens_int Try.underlying3)
  obtain ⟨a1, e1, g1⟩ := field_opens Try.underlying34 h hw 1 _ rfl 1 1 rfl cellsOf_29 (opens_int Try.underlying29)
  obtain ⟨a2, e2, g2⟩ := field_opens Try.underlying34 h hw 2 _ rfl 2 2 rfl cellsOf_31 IDE.opens
  obtain ⟨a3, e3, g3⟩ := field_opens Try.underlying34 h hw 3 _ rfl 4 1 rfl cellsOf_3 (opens_int Try.underlying3)
  obtain ⟨a4, e4, g4⟩ := field_opens Try.underlying34 h hw 4 _ rfl 5 1 rfl cellsOf_3 (opens_int Try.underlying3)
  obtain ⟨a5, e5, g5⟩ := field_opens Try.underlying34 h hw 5 _ rfl 6 1 rfl cellsOf_3 (opens_int Try.underlying3)
  obtain ⟨a6, e6, g6⟩ := field_opens Try.underlying34 h hw 6 _ rfl 7 1 rfl cellsOf_4 (opens_bool Try.underlying4)
  obtain ⟨a7, e7, g7⟩ := field_opens Try.underlying34 h hw 7 _ rfl 8 1 rfl cellsOf_4 (opens_bool Try.underlying4)
  obtain ⟨a8, e8, g8⟩ := field_opens Try.underlying34 h hw 8 _ rfl 9 1 rfl cellsOf_4 (opens_bool Try.underlying4)
  obtain ⟨a9, e9, g9⟩ := field_opens Try.underlying34 h hw 9 _ rfl 10 2 rfl cellsOf_32 TraceE.opens
  match cs, hlen with
  | [c0, c1, c2, c3, c4, c5, c6, c7, c8, c9, c10, c11], _ =>
    simp at e0
    subst e0
    simp at e1
    subst e1
    simp [IDE.cells] at e2
    obtain ⟨rfl, rfl⟩ := e2
    simp at e3
    subst e3
    simp at e4
    subst e4
    simp at e5
    subst e5
    simp at e6
    subst e6
    simp at e7
    subst e7
    simp at e8
    subst e8
    simp [TraceE.cells] at e9
    obtain ⟨rfl, rfl⟩ := e9
    exact ⟨⟨a0, a1, a2.machine, a2.serial, a3, a4, a5, a6, a7, a8, a9.machine, a9.serial⟩, rfl, ⟨g0, g1, g2.1, g2.2, g3, g4, g5, g9.1, g9.2⟩⟩
theorem cellsOf_43 : Try.prog.cellsOf 43 = 12 := by kernel_rfl
def ScionE.wf (e : ScionE) : Prop := (Lit.int .i64 e.client).wf = true ∧ (Lit.int .u64 e.number).wf = true ∧ (Lit.int .i64 e.iDMachine).wf = true ∧ (Lit.int .i64 e.iDSerial).wf = true ∧ (Lit.int .i64 e.out).wf = true ∧ (Lit.int .i64 e.inn).wf = true ∧ (Lit.int .i64 e.distance).wf = true ∧ (Lit.int .i64 e.lockMachine).wf = true ∧ (Lit.int .i64 e.lockSerial).wf = true
theorem ScionE.opens : Opens Try.prog 43 ScionE.cells (fun _ e => e.wf) := fun H enc w fuel cs x h hw => by
  have hlen := struct_len Try.underlying43 h
  rw [cellsOf_43] at hlen
  obtain ⟨a0, e0, g0⟩ := field_opens Try.underlying43 h hw 0 _ rfl 0 1 rfl cellsOf_3 (opens_int Try.underlying3)
  obtain ⟨a1, e1, g1⟩ := field_opens Try.underlying43 h hw 1 _ rfl 1 1 rfl cellsOf_29 (opens_int Try.underlying29)
  obtain ⟨a2, e2, g2⟩ := field_opens Try.underlying43 h hw 2 _ rfl 2 2 rfl cellsOf_31 IDE.opens
  obtain ⟨a3, e3, g3⟩ := field_opens Try.underlying43 h hw 3 _ rfl 4 1 rfl cellsOf_3 (opens_int Try.underlying3)
  obtain ⟨a4, e4, g4⟩ := field_opens Try.underlying43 h hw 4 _ rfl 5 1 rfl cellsOf_3 (opens_int Try.underlying3)
  obtain ⟨a5, e5, g5⟩ := field_opens Try.underlying43 h hw 5 _ rfl 6 1 rfl cellsOf_3 (opens_int Try.underlying3)
  obtain ⟨a6, e6, g6⟩ := field_opens Try.underlying43 h hw 6 _ rfl 7 1 rfl cellsOf_4 (opens_bool Try.underlying4)
  obtain ⟨a7, e7, g7⟩ := field_opens Try.underlying43 h hw 7 _ rfl 8 1 rfl cellsOf_4 (opens_bool Try.underlying4)
  obtain ⟨a8, e8, g8⟩ := field_opens Try.underlying43 h hw 8 _ rfl 9 1 rfl cellsOf_4 (opens_bool Try.underlying4)
  obtain ⟨a9, e9, g9⟩ := field_opens Try.underlying43 h hw 9 _ rfl 10 2 rfl cellsOf_32 TraceE.opens
  match cs, hlen with
  | [c0, c1, c2, c3, c4, c5, c6, c7, c8, c9, c10, c11], _ =>
    simp at e0
    subst e0
    simp at e1
    subst e1
    simp [IDE.cells] at e2
    obtain ⟨rfl, rfl⟩ := e2
    simp at e3
    subst e3
    simp at e4
    subst e4
    simp at e5
    subst e5
    simp at e6
    subst e6
    simp at e7
    subst e7
    simp at e8
    subst e8
    simp [TraceE.cells] at e9
    obtain ⟨rfl, rfl⟩ := e9
    exact ⟨⟨a0, a1, a2.machine, a2.serial, a3, a4, a5, a6, a7, a8, a9.machine, a9.serial⟩, rfl, ⟨g0, g1, g2.1, g2.2, g3, g4, g5, g9.1, g9.2⟩⟩
theorem cellsOf_24 : Try.prog.cellsOf 24 = 1 := by kernel_rfl
theorem cellsOf_22 : Try.prog.cellsOf 22 = 1 := by kernel_rfl
theorem cellsOf_37 : Try.prog.cellsOf 37 = 1 := by kernel_rfl
theorem cellsOf_26 : Try.prog.cellsOf 26 = 4 := by kernel_rfl
theorem bytesOf_26 : Try.prog.bytesOf 26 = 48 := by kernel_rfl
theorem reach_eq : reachBytes = 140737488351232 := rfl
theorem listed_rng {e : ListedE} (h : e.wf) : e.Rng := by
  obtain ⟨a, b⟩ := h
  have := wf_u64 a
  have := wf_i64 b
  constructor <;> omega
theorem agg_of {cs : Array Value} {l : List Value} (h : (Value.agg cs).cells.toList = l) : Value.agg cs = .agg l.toArray := by
  simp only [Value.cells] at h
  rw [← h]
/-- What a list that came in is. -/
structure ListV.in_ (x : ListV) (w : World) : Prop where
  at_ : x.at_ w
  r : (Lit.int .i64 x.round).wf = true
  s : (Lit.int .i64 x.sent).wf = true
  c : (Lit.int .i64 x.received).wf = true
  es : ∀ e ∈ x.entries, e.wf
  cap : x.entries.length ≤ x.c
  max : x.c ≤ maxLen
def ListV.cells (x : ListV) : List Value := [.int .i64 x.round, .int .i64 x.sent, .int .i64 x.received, .slice x.A x.entries.length x.c]
theorem ListV.opens : Opens Try.prog 26 ListV.cells (fun w x => x.in_ w) := fun H enc w fuel cs x h hw => by
  have hlen := struct_len Try.underlying26 h
  rw [cellsOf_26] at hlen
  obtain ⟨a0, e0, g0⟩ := field_opens Try.underlying26 h hw 0 _ rfl 0 1 rfl cellsOf_3 (opens_int Try.underlying3)
  obtain ⟨a1, e1, g1⟩ := field_opens Try.underlying26 h hw 1 _ rfl 1 1 rfl cellsOf_3 (opens_int Try.underlying3)
  obtain ⟨a2, e2, g2⟩ := field_opens Try.underlying26 h hw 2 _ rfl 2 1 rfl cellsOf_3 (opens_int Try.underlying3)
  obtain ⟨a3, e3, g3, b3, l3, m3, n3⟩ := field_opens Try.underlying26 h hw 3 _ rfl 3 1 rfl cellsOf_24 (opens_slice Try.underlying24 cellsOf_64 (by kernel_rfl : Try.prog.bytesOf 64 = 24) ListedE.opens (by decide) ListedE.cells_length)
  rw [reach_eq] at b3
  match cs, hlen with
  | [c0, c1, c2, c3], _ =>
    simp at e0 e1 e2 e3
    subst e0 e1 e2 e3
    exact ⟨⟨a0, a1, a2, a3.A, a3.c, a3.l⟩, rfl, ⟨⟨g3, by simp only; omega⟩, g0, g1, g2, n3, l3, m3⟩⟩
set_option maxRecDepth 100000 in
theorem open_list {H : Type} {enc : TypeId × Value → H} {w : World} {v : Value} {d : DataW H} {p : List MemPlace} {r : Reach} {b0 : Nat} (hv : Value.okWide Try.prog w r b0 26 v) (h : DataW.Trod enc Try.prog w 0 (fun _ => true) true 26 v d p)
    (hw : ∀ n ∈ d.weights Try.prog 26, n ≤ reachBytes) : ∃ x : ListV, v = x.v ∧ x.in_ w := by
  obtain ⟨cs, rfl, _⟩ := okWide_struct Try.underlying26 hv
  obtain ⟨c, e, g⟩ := ListV.opens.arg h hw
  exact ⟨c, agg_of e, g⟩
/-- A slice that came in. -/
structure SlIn {α : Type} (f : α → List Value) (s bytes : Nat) (G : World → α → Prop) (w : World) (A : Option Addr) (c : Nat) (l : List α) : Prop where
  at_ : SlAt f s w A l
  len : l.length * bytes ≤ 140737488351232
  cap : l.length ≤ c
  max : c ≤ maxLen
  es : ∀ a ∈ l, G w a
set_option maxRecDepth 100000 in
theorem open_sl {α : Type} {f : α → List Value} {G : World → α → Prop} {s bytes : Nat} {t e : TypeId} (ht : Try.prog.underlying t = some (.slice e)) (ho : Opens Try.prog t (fun x : SlV α => [.slice x.A x.l.length x.c]) (fun w x => SlAt f s w x.A x.l ∧ x.l.length * bytes ≤ reachBytes ∧ x.l.length ≤ x.c ∧ x.c ≤ maxLen ∧ ∀ a ∈ x.l, G w a))
    {H : Type} {enc : TypeId × Value → H} {w : World} {v : Value} {d : DataW H} {p : List MemPlace} {r : Reach} {b0 : Nat} (hv : Value.okWide Try.prog w r b0 t v) (h : DataW.Trod enc Try.prog w 0 (fun _ => true) true t v d p)
    (hw : ∀ n ∈ d.weights Try.prog t, n ≤ reachBytes) : ∃ (A : Option Addr) (c : Nat) (l : List α), v = .slice A l.length c ∧ SlIn f s bytes G w A c l := by
  obtain ⟨a, len, cap, rfl⟩ := okWide_slice ht hv
  obtain ⟨x, e, g1, g2, g3, g4, g5⟩ := ho.arg h hw
  rw [reach_eq] at g2
  refine ⟨x.A, x.c, x.l, ?_, g1, g2, g3, g4, g5⟩
  simpa [Value.cells] using e
set_option maxRecDepth 100000 in
theorem open_stubs {H : Type} {enc : TypeId × Value → H} {w : World} {v : Value} {d : DataW H} {p : List MemPlace} {r : Reach} {b0 : Nat} (hv : Value.okWide Try.prog w r b0 22 v) (h : DataW.Trod enc Try.prog w 0 (fun _ => true) true 22 v d p)
    (hw : ∀ n ∈ d.weights Try.prog 22, n ≤ reachBytes) : ∃ (A : Option Addr) (c : Nat) (l : List StubE), v = .slice A l.length c ∧ SlIn StubE.cells 12 80 (fun _ e => e.wf) w A c l :=
  open_sl Try.underlying22 (opens_slice Try.underlying22 cellsOf_34 (by kernel_rfl : Try.prog.bytesOf 34 = 80) StubE.opens (by decide) StubE.cells_length) hv h hw
set_option maxRecDepth 100000 in
theorem open_scions {H : Type} {enc : TypeId × Value → H} {w : World} {v : Value} {d : DataW H} {p : List MemPlace} {r : Reach} {b0 : Nat} (hv : Value.okWide Try.prog w r b0 37 v) (h : DataW.Trod enc Try.prog w 0 (fun _ => true) true 37 v d p)
    (hw : ∀ n ∈ d.weights Try.prog 37, n ≤ reachBytes) : ∃ (A : Option Addr) (c : Nat) (l : List ScionE), v = .slice A l.length c ∧ SlIn ScionE.cells 12 80 (fun _ e => e.wf) w A c l :=
  open_sl Try.underlying37 (opens_slice Try.underlying37 cellsOf_43 (by kernel_rfl : Try.prog.bytesOf 43 = 80) ScionE.opens (by decide) ScionE.cells_length) hv h hw
end Go.Proofs.Ythigjlllhnajbaa
