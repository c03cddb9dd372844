/-
  Contracts of the functions of this seat that each theorem names: what a call returns, and that it writes nothing that was there before. The conditions stand in each theorem.
-/
import Derived.Test.YtpkfenlfgdbkcaaGreatDoorGrp45
import Derived.Test.YtpkfenlfgdbkcaaGreatDoorGrp44
import Derived.Test.YtpkfenlfgdbkcaaGreatDoorRows
import Derived.ProofKit
import Derived.SizedLaws
import Derived.Deep.Slices
set_option linter.unusedSimpArgs false
set_option linter.unusedVariables false
namespace Go.Proofs.YtpkfenlfgdbkcaaGreatDoor
open Go.RowKit Go.WideShapes Go.ChangeShapes Go.Deep
section
variable {P : Program}
theorem opens_sliceG {t e : TypeId} {α : Type} [Inhabited α] {f : α → List Value} {G : World → α → Prop} {s bytes : Nat} (ht : P.underlying t = some (.slice e)) (hC : P.cellsOf e = s) (hb : P.bytesOf e = bytes) (he : Opens P e f G) (hs : 0 < s) (hf : ∀ w a, G w a → (f a).length = s) :
    Opens P t (fun x : SlV α => [.slice x.A x.l.length x.c]) (fun w x => SlAt f s w x.A x.l ∧ x.l.length * bytes ≤ reachBytes ∧ x.l.length ≤ x.c ∧ x.c ≤ maxLen ∧ ∀ a ∈ x.l, G w a) := fun H enc w fuel cs x h hw => by
  rcases open_slice ht h with ⟨rfl, rfl⟩ | ⟨a, len, cap, m, n, D, Pl, rfl, _, hl, hm, hmm, rfl, hx⟩
  · exact ⟨⟨none, 0, []⟩, rfl, SlAt.nil, by simp, by simp, by simp, by simp⟩
  · simp only [if_true] at hmm
    subst hmm
    have hw1 : ∀ n ∈ DataW.weights P t (.slice ((List.range len).map D) ((List.range (m - len)).map fun j => D (len + j))), n ≤ reachBytes := hw
    have hwe : DataW.weights P t (.slice ((List.range len).map D) ((List.range (m - len)).map fun j => D (len + j))) = (((List.range len).map D).length + ((List.range (m - len)).map fun j => D (len + j)).length) * P.bytesOf e :: (DataW.weightsAll P e ((List.range len).map D) ++ DataW.weightsAll P e ((List.range (m - len)).map fun j => D (len + j))) := by
      rw [DataW.weights, ht]
    rw [hwe] at hw1
    have hall : ∀ (l : List (DataW H)) (d : DataW H), d ∈ l → ∀ n ∈ d.weights P e, n ∈ DataW.weightsAll P e l := by
      intro l
      induction l with
      | nil => intro d hd; cases hd
      | cons y l ih =>
        intro d hd n hn
        rw [DataW.weightsAll]
        rcases List.mem_cons.1 hd with rfl | hd
        · exact List.mem_append_left _ hn
        · exact List.mem_append_right _ (ih d hd n hn)
    have hel : ∀ i, i < len → ∃ y : α, (∃ cs', w.cells? 0 (a.add (i * s)) s = some cs' ∧ cs' = f y) ∧ G w y := fun i hi => by
      obtain ⟨cs', h1, h2⟩ := hx i (by omega)
      rw [hC] at h1
      obtain ⟨y, hy, hg⟩ := he H enc w n cs' (D i, Pl i) h2 (fun k hk => hw1 k (List.mem_cons_of_mem _ (List.mem_append_left _ (hall _ (D i) (List.mem_map.2 ⟨i, List.mem_range.2 hi, rfl⟩) k hk))))
      exact ⟨y, ⟨cs', h1, hy⟩, hg⟩
    obtain ⟨Y, hY⟩ := choose_lt hel
    have hbytes : len * bytes ≤ reachBytes := by
      have := hw1 _ (List.mem_cons_self ..)
      simp only [List.length_map, List.length_range] at this
      rw [hb] at this
      exact Nat.le_trans (Nat.mul_le_mul_right _ (by omega)) this
    refine ⟨⟨some a, m, (List.range len).map Y⟩, by simp, ?_, by simpa using hbytes, by simpa using hl, hm, fun y hy => ?_⟩
    · intro hne
      have hlen0 : 0 < len := by
        rcases Nat.eq_zero_or_pos len with h0 | h0
        · subst h0; exact absurd rfl hne
        · exact h0
      have hcell : ∀ i, i < len → ∀ j u, (f (Y i))[j]? = some u → w.cell? ((a.add (i * s)).add j) = some u := fun i hi j u hu => by
        obtain ⟨⟨cs', h1, rfl⟩, _⟩ := hY i hi
        obtain ⟨_, hl', hat⟩ := World.cells?_some h1
        rw [hat j (by rw [← hf w (Y i) (hY i hi).2]; exact (List.getElem?_eq_some_iff.1 hu).1)]
        exact hu
      have h00 : (f (Y 0))[0]? = some ((f (Y 0))[0]'(by rw [hf w _ (hY 0 hlen0).2]; exact hs)) := List.getElem?_eq_getElem _
      have hc0 := hcell 0 hlen0 0 _ h00
      have hspot : a.spot = none := by
        have := World.cell?_spot hc0
        simpa [Addr.add] using this
      obtain ⟨b, off, spot⟩ := a
      simp only at hspot
      subst hspot
      have hadd : ∀ j, (⟨b, off, none⟩ : Addr).add j = ⟨b, off + j, none⟩ := fun j => by unfold Addr.add; split <;> simp_all
      have hblt : b < w.heap.size := by
        have := World.block_lt_of_cell? w _ hc0
        simpa [Addr.add] using this
      refine ⟨b, off, rfl, hblt, fun k y hk j u hu => ?_⟩
      have hkl : k < len := by
        have := (List.getElem?_eq_some_iff.1 hk).1
        simpa using this
      have hyk : y = Y k := by
        simp [hkl] at hk
        exact hk.symm
      subst hyk
      have := hcell k hkl j u hu
      rw [add_add, hadd, ← Nat.add_assoc] at this
      exact this
    · obtain ⟨i, hi, rfl⟩ := List.mem_map.1 hy
      exact (hY i (List.mem_range.1 hi)).2
end
theorem opens_str {P : Program} {t : TypeId} (ht : P.underlying t = some .string) : Opens P t (fun s : ByteArray => [.string s]) (fun _ _ => True) := fun H enc w fuel cs x h _ => by
  obtain ⟨s, h1, _⟩ := DataW.trod_string ht h
  exact ⟨s, h1, trivial⟩
structure SlA where
  A : Option Addr
  n : Nat
  c : Nat
theorem opens_sla {P : Program} {t e : TypeId} (ht : P.underlying t = some (.slice e)) : Opens P t (fun x : SlA => [.slice x.A x.n x.c]) (fun _ _ => True) := fun H enc w fuel cs x h _ => by
  rcases open_slice ht h with ⟨rfl, rfl⟩ | ⟨a, len, cap, m, n, D, Pl, rfl, _⟩
  · exact ⟨⟨none, 0, 0⟩, rfl, trivial⟩
  · exact ⟨⟨some a, _, _⟩, rfl, trivial⟩
theorem cut_cs {α : Type} (cs : List α) (n k : Nat) : cs.drop n = (cs.drop n).take k ++ cs.drop (n + k) := by
  rw [← List.drop_drop, List.take_append_drop]
instance : Inhabited ValE := ⟨⟨0, 0, 0, 0⟩⟩
instance : Inhabited IDE := ⟨⟨0, 0⟩⟩
instance : Inhabited RefE := ⟨⟨0, 0, 0, 0, 0, 0, 0, false⟩⟩
instance : Inhabited NodeE := ⟨⟨0, 0, 0, 0, none, 0, []⟩⟩
instance : Inhabited ScionE := ⟨zeroScion⟩
instance : Inhabited MailE := ⟨⟨0, 0, 0, 0, ByteArray.empty, none, 0, []⟩⟩
instance : Inhabited LetterE := ⟨⟨0, 0, ByteArray.empty, none, 0, []⟩⟩
instance : Inhabited ParcelE := ⟨⟨0, 0, 0, 0, 0, none, 0, [], none, 0, [], none, 0, 0⟩⟩
instance : Inhabited MsgE := ⟨⟨0, 0, 0, ByteArray.empty, default, default, default, []⟩⟩
instance : Inhabited FlightE := ⟨⟨0, 0, default⟩⟩
@[ext] structure TraceE where
  machine : Int
  serial : Int
def TraceE.cells (e : TraceE) : List Value := [.int .i64 e.machine, .int .i64 e.serial]
theorem TraceE.cells_length (e : TraceE) : e.cells.length = 2 := rfl
abbrev TraceE.v (e : TraceE) : Value := .agg #[.int .i64 e.machine, .int .i64 e.serial]
abbrev TraceE.arr (e : TraceE) : Array Value := #[.int .i64 e.machine, .int .i64 e.serial]
theorem TraceE.facts {e : TraceE} {w : World} {b off k : Nat} (h : ∀ j u, e.cells[j]? = some u → w.cell? ⟨b, off + k * 2 + j, none⟩ = some u) : w.cell? ⟨b, off + k * 2, none⟩ = some (.int .i64 e.machine) ∧ w.cell? ⟨b, off + k * 2 + 1, none⟩ = some (.int .i64 e.serial) :=
  ⟨by simpa using h 0 _ rfl, by simpa using h 1 _ rfl⟩
/-- The element lies there, in each later world. -/
abbrev TraceE.Has (w : World) (b off k : Nat) (e : TraceE) : Prop := ∀ (u : World) [Later w u], u.cell? ⟨b, off + k * 2, none⟩ = some (.int .i64 e.machine) ∧ u.cell? ⟨b, off + k * 2 + 1, none⟩ = some (.int .i64 e.serial)
theorem TraceE.has {e : TraceE} {w : World} {b off k : Nat} (hb : b < w.heap.size) (h : ∀ j u, e.cells[j]? = some u → w.cell? ⟨b, off + k * 2 + j, none⟩ = some u) : TraceE.Has w b off k e := fun u i => TraceE.facts fun j v hv => (i.below.cell (p := ⟨b, _, none⟩) hb).trans (h j v hv)
theorem TraceE.get {w : World} {A : Option Addr} {l : List TraceE} (h : SlAt TraceE.cells 2 w A l) {k : Nat} (hk : k < l.length) : ∃ b off x, A = some ⟨b, off, none⟩ ∧ l[k]? = some x ∧ TraceE.Has w b off k x := by
  obtain ⟨b, off, x, hA, hb, hx, hc⟩ := h.at_ hk
  exact ⟨b, off, x, hA, hx, TraceE.has hb hc⟩
def TraceE.beq (x y : TraceE) : Bool := x.machine == y.machine && x.serial == y.serial
theorem TraceE.beq_iff {x y : TraceE} : x.beq y = true ↔ x = y := by
  cases x; cases y; simp [TraceE.beq, Bool.and_eq_true, and_assoc]
theorem TraceE.enc : Enc TraceE.cells 2 := ⟨fun _ => rfl, fun x u hu => by simp only [TraceE.cells, List.mem_cons, List.not_mem_nil, or_false] at hu; rcases hu with rfl | rfl <;> rfl, by decide⟩
theorem cellsOf_24 : Tryz.prog.cellsOf 24 = 2 := by kernel_rfl
theorem cellsOf_3 : Tryz.prog.cellsOf 3 = 1 := by kernel_rfl
def IDE.wf (e : IDE) : Prop := (Lit.int .i64 e.machine).wf = true ∧ (Lit.int .i64 e.serial).wf = true
theorem IDE.opens : Opens Tryz.prog 24 IDE.cells (fun _ e => e.wf) := fun H enc w fuel cs x h hw => by
  have hlen := struct_len Tryz.underlying24 h
  rw [cellsOf_24] at hlen
  obtain ⟨a0, e0, g0⟩ := field_opens Tryz.underlying24 h hw 0 _ rfl 0 1 rfl cellsOf_3 (opens_int Tryz.underlying3)
  obtain ⟨a1, e1, g1⟩ := field_opens Tryz.underlying24 h hw 1 _ rfl 1 1 rfl cellsOf_3 (opens_int Tryz.underlying3)
  match cs, hlen with
  | [c0, c1], _ =>
    simp at e0
    subst e0
    simp at e1
    subst e1
    exact ⟨⟨a0, a1⟩, rfl, ⟨g0, g1⟩⟩
theorem cellsOf_77 : Tryz.prog.cellsOf 77 = 2 := by kernel_rfl
def TraceE.wf (e : TraceE) : Prop := (Lit.int .i64 e.machine).wf = true ∧ (Lit.int .i64 e.serial).wf = true
theorem TraceE.opens : Opens Tryz.prog 77 TraceE.cells (fun _ e => e.wf) := fun H enc w fuel cs x h hw => by
  have hlen := struct_len Tryz.underlying77 h
  rw [cellsOf_77] at hlen
  obtain ⟨a0, e0, g0⟩ := field_opens Tryz.underlying77 h hw 0 _ rfl 0 1 rfl cellsOf_3 (opens_int Tryz.underlying3)
  obtain ⟨a1, e1, g1⟩ := field_opens Tryz.underlying77 h hw 1 _ rfl 1 1 rfl cellsOf_3 (opens_int Tryz.underlying3)
  match cs, hlen with
  | [c0, c1], _ =>
    simp at e0
    subst e0
    simp at e1
    subst e1
    exact ⟨⟨a0, a1⟩, rfl, ⟨g0, g1⟩⟩
theorem cellsOf_100 : Tryz.prog.cellsOf 100 = 4 := by kernel_rfl
theorem cellsOf_2 : Tryz.prog.cellsOf 2 = 1 := by kernel_rfl
def ValE.wf (e : ValE) : Prop := (Lit.int .i64 e.kind).wf = true ∧ (Lit.int .i64 e.int).wf = true ∧ (Lit.int .i64 e.refMachine).wf = true ∧ (Lit.int .i64 e.refSerial).wf = true
theorem ValE.opens : Opens Tryz.prog 100 ValE.cells (fun _ e => e.wf) := fun H enc w fuel cs x h hw => by
  have hlen := struct_len Tryz.underlying100 h
  rw [cellsOf_100] at hlen
  obtain ⟨a0, e0, g0⟩ := field_opens Tryz.underlying100 h hw 0 _ rfl 0 1 rfl cellsOf_3 (opens_int Tryz.underlying3)
  obtain ⟨a1, e1, g1⟩ := field_opens Tryz.underlying100 h hw 1 _ rfl 1 1 rfl cellsOf_2 (opens_int Tryz.underlying2)
  obtain ⟨a2, e2, g2⟩ := field_opens Tryz.underlying100 h hw 2 _ rfl 2 2 rfl cellsOf_24 IDE.opens
  match cs, hlen with
  | [c0, c1, c2, c3], _ =>
    simp at e0
    subst e0
    simp at e1
    subst e1
    simp [IDE.cells] at e2
    obtain ⟨rfl, rfl⟩ := e2
    exact ⟨⟨a0, a1, a2.machine, a2.serial⟩, rfl, ⟨g0, g1, g2.1, g2.2⟩⟩
theorem cellsOf_69 : Tryz.prog.cellsOf 69 = 8 := by kernel_rfl
theorem cellsOf_67 : Tryz.prog.cellsOf 67 = 1 := by kernel_rfl
theorem cellsOf_4 : Tryz.prog.cellsOf 4 = 1 := by kernel_rfl
def RefE.wf (e : RefE) : Prop := (Lit.int .i64 e.kind).wf = true ∧ (Lit.int .i64 e.int).wf = true ∧ (Lit.int .i64 e.owner).wf = true ∧ (Lit.int .u64 e.number).wf = true ∧ (Lit.int .i64 e.iDMachine).wf = true ∧ (Lit.int .i64 e.iDSerial).wf = true ∧ (Lit.int .i64 e.clas).wf = true
theorem RefE.opens : Opens Tryz.prog 69 RefE.cells (fun _ e => e.wf) := fun H enc w fuel cs x h hw => by
  have hlen := struct_len Tryz.underlying69 h
  rw [cellsOf_69] at hlen
  obtain ⟨a0, e0, g0⟩ := field_opens Tryz.underlying69 h hw 0 _ rfl 0 1 rfl cellsOf_3 (opens_int Tryz.underlying3)
  obtain ⟨a1, e1, g1⟩ := field_opens Tryz.underlying69 h hw 1 _ rfl 1 1 rfl cellsOf_2 (opens_int Tryz.underlying2)
  obtain ⟨a2, e2, g2⟩ := field_opens Tryz.underlying69 h hw 2 _ rfl 2 1 rfl cellsOf_3 (opens_int Tryz.underlying3)
  obtain ⟨a3, e3, g3⟩ := field_opens Tryz.underlying69 h hw 3 _ rfl 3 1 rfl cellsOf_67 (opens_int Tryz.underlying67)
  obtain ⟨a4, e4, g4⟩ := field_opens Tryz.underlying69 h hw 4 _ rfl 4 2 rfl cellsOf_24 IDE.opens
  obtain ⟨a5, e5, g5⟩ := field_opens Tryz.underlying69 h hw 5 _ rfl 6 1 rfl cellsOf_3 (opens_int Tryz.underlying3)
  obtain ⟨a6, e6, g6⟩ := field_opens Tryz.underlying69 h hw 6 _ rfl 7 1 rfl cellsOf_4 (opens_bool Tryz.underlying4)
  match cs, hlen with
  | [c0, c1, c2, c3, c4, c5, c6, c7], _ =>
    simp at e0
    subst e0
    simp at e1
    subst e1
    simp at e2
    subst e2
    simp at e3
    subst e3
    simp [IDE.cells] at e4
    obtain ⟨rfl, rfl⟩ := e4
    simp at e5
    subst e5
    simp at e6
    subst e6
    exact ⟨⟨a0, a1, a2, a3, a4.machine, a4.serial, a5, a6⟩, rfl, ⟨g0, g1, g2, g3, g4.1, g4.2, g5⟩⟩
theorem cellsOf_122 : Tryz.prog.cellsOf 122 = 12 := by kernel_rfl
def ScionE.wf (e : ScionE) : Prop := (Lit.int .i64 e.client).wf = true ∧ (Lit.int .u64 e.number).wf = true ∧ (Lit.int .i64 e.iDMachine).wf = true ∧ (Lit.int .i64 e.iDSerial).wf = true ∧ (Lit.int .i64 e.out).wf = true ∧ (Lit.int .i64 e.inn).wf = true ∧ (Lit.int .i64 e.distance).wf = true ∧ (Lit.int .i64 e.lockMachine).wf = true ∧ (Lit.int .i64 e.lockSerial).wf = true
theorem ScionE.opens : Opens Tryz.prog 122 ScionE.cells (fun _ e => e.wf) := fun H enc w fuel cs x h hw => by
  have hlen := struct_len Tryz.underlying122 h
  rw [cellsOf_122] at hlen
  obtain ⟨a0, e0, g0⟩ := field_opens Tryz.underlying122 h hw 0 _ rfl 0 1 rfl cellsOf_3 (opens_int Tryz.underlying3)
  obtain ⟨a1, e1, g1⟩ := field_opens Tryz.underlying122 h hw 1 _ rfl 1 1 rfl cellsOf_67 (opens_int Tryz.underlying67)
  obtain ⟨a2, e2, g2⟩ := field_opens Tryz.underlying122 h hw 2 _ rfl 2 2 rfl cellsOf_24 IDE.opens
  obtain ⟨a3, e3, g3⟩ := field_opens Tryz.underlying122 h hw 3 _ rfl 4 1 rfl cellsOf_3 (opens_int Tryz.underlying3)
  obtain ⟨a4, e4, g4⟩ := field_opens Tryz.underlying122 h hw 4 _ rfl 5 1 rfl cellsOf_3 (opens_int Tryz.underlying3)
  obtain ⟨a5, e5, g5⟩ := field_opens Tryz.underlying122 h hw 5 _ rfl 6 1 rfl cellsOf_3 (opens_int Tryz.underlying3)
  obtain ⟨a6, e6, g6⟩ := field_opens Tryz.underlying122 h hw 6 _ rfl 7 1 rfl cellsOf_4 (opens_bool Tryz.underlying4)
  obtain ⟨a7, e7, g7⟩ := field_opens Tryz.underlying122 h hw 7 _ rfl 8 1 rfl cellsOf_4 (opens_bool Tryz.underlying4)
  obtain ⟨a8, e8, g8⟩ := field_opens Tryz.underlying122 h hw 8 _ rfl 9 1 rfl cellsOf_4 (opens_bool Tryz.underlying4)
  obtain ⟨a9, e9, g9⟩ := field_opens Tryz.underlying122 h hw 9 _ rfl 10 2 rfl cellsOf_77 TraceE.opens
  match cs, hlen with
  | [c0, c1, c2, c3, c4, c5, c6, c7, c8, c9, c10, c11], _ =>
    simp at e0
    subst e0
    simp at e1
    subst e1
    simp [IDE.cells] at e2
    obtain ⟨rfl, rfl⟩ := e2
    simp at e3
    subst e3
    simp at e4
    subst e4
    simp at e5
    subst e5
    simp at e6
    subst e6
    simp at e7
    subst e7
    simp at e8
    subst e8
    simp [TraceE.cells] at e9
    obtain ⟨rfl, rfl⟩ := e9
    exact ⟨⟨a0, a1, a2.machine, a2.serial, a3, a4, a5, a6, a7, a8, a9.machine, a9.serial⟩, rfl, ⟨g0, g1, g2.1, g2.2, g3, g4, g5, g9.1, g9.2⟩⟩
theorem cellsOf_39 : Tryz.prog.cellsOf 39 = 1 := by kernel_rfl
theorem cellsOf_48 : Tryz.prog.cellsOf 48 = 1 := by kernel_rfl
theorem cellsOf_34 : Tryz.prog.cellsOf 34 = 1 := by kernel_rfl
theorem cellsOf_70 : Tryz.prog.cellsOf 70 = 1 := by kernel_rfl
theorem cellsOf_73 : Tryz.prog.cellsOf 73 = 1 := by kernel_rfl
theorem cellsOf_74 : Tryz.prog.cellsOf 74 = 1 := by kernel_rfl
theorem cellsOf_56 : Tryz.prog.cellsOf 56 = 1 := by kernel_rfl
theorem cellsOf_57 : Tryz.prog.cellsOf 57 = 1 := by kernel_rfl
theorem cellsOf_58 : Tryz.prog.cellsOf 58 = 1 := by kernel_rfl
theorem cellsOf_59 : Tryz.prog.cellsOf 59 = 1 := by kernel_rfl
theorem cellsOf_60 : Tryz.prog.cellsOf 60 = 1 := by kernel_rfl
theorem cellsOf_61 : Tryz.prog.cellsOf 61 = 1 := by kernel_rfl
theorem cellsOf_62 : Tryz.prog.cellsOf 62 = 1 := by kernel_rfl
theorem cellsOf_78 : Tryz.prog.cellsOf 78 = 1 := by kernel_rfl
theorem cellsOf_81 : Tryz.prog.cellsOf 81 = 1 := by kernel_rfl
theorem cellsOf_22 : Tryz.prog.cellsOf 22 = 1 := by kernel_rfl
theorem cellsOf_9 : Tryz.prog.cellsOf 9 = 1 := by kernel_rfl
theorem bytesOf_9 : Tryz.prog.bytesOf 9 = 16 := by kernel_rfl
theorem cellsOf_41 : Tryz.prog.cellsOf 41 = 5 := by kernel_rfl
theorem bytesOf_41 : Tryz.prog.bytesOf 41 = 56 := by kernel_rfl
theorem cellsOf_36 : Tryz.prog.cellsOf 36 = 1 := by kernel_rfl
theorem bytesOf_36 : Tryz.prog.bytesOf 36 = 24 := by kernel_rfl
theorem cellsOf_107 : Tryz.prog.cellsOf 107 = 3 := by kernel_rfl
theorem bytesOf_107 : Tryz.prog.bytesOf 107 = 32 := by kernel_rfl
theorem cellsOf_66 : Tryz.prog.cellsOf 66 = 6 := by kernel_rfl
theorem bytesOf_66 : Tryz.prog.bytesOf 66 = 72 := by kernel_rfl
theorem cellsOf_72 : Tryz.prog.cellsOf 72 = 4 := by kernel_rfl
theorem bytesOf_72 : Tryz.prog.bytesOf 72 = 56 := by kernel_rfl
theorem cellsOf_76 : Tryz.prog.cellsOf 76 = 8 := by kernel_rfl
theorem bytesOf_76 : Tryz.prog.bytesOf 76 = 112 := by kernel_rfl
theorem cellsOf_85 : Tryz.prog.cellsOf 85 = 39 := by kernel_rfl
theorem bytesOf_85 : Tryz.prog.bytesOf 85 = 448 := by kernel_rfl
theorem cellsOf_80 : Tryz.prog.cellsOf 80 = 8 := by kernel_rfl
theorem bytesOf_80 : Tryz.prog.bytesOf 80 = 72 := by kernel_rfl
theorem cellsOf_83 : Tryz.prog.cellsOf 83 = 5 := by kernel_rfl
theorem bytesOf_83 : Tryz.prog.bytesOf 83 = 88 := by kernel_rfl
theorem cellsOf_87 : Tryz.prog.cellsOf 87 = 41 := by kernel_rfl
theorem bytesOf_87 : Tryz.prog.bytesOf 87 = 464 := by kernel_rfl
theorem cellsOf_64 : Tryz.prog.cellsOf 64 = 13 := by kernel_rfl
theorem bytesOf_64 : Tryz.prog.bytesOf 64 = 248 := by kernel_rfl
set_option maxRecDepth 100000 in
theorem NamedE.opens : Opens Tryz.prog 107 NamedE.cells (fun _ _ => True) := fun H enc w fuel cs x h hw => by
  have hlen := struct_len Tryz.underlying107 h
  rw [cellsOf_107] at hlen
  obtain ⟨a0, e0, g0⟩ := field_opens Tryz.underlying107 h hw 0 _ rfl 0 1 rfl cellsOf_9 (opens_str Tryz.underlying9)
  obtain ⟨a1, e1, g1⟩ := field_opens Tryz.underlying107 h hw 1 _ rfl 1 2 rfl cellsOf_24 IDE.opens
  have e := (List.drop_zero (l := cs)).symm
  rw [cut_cs cs 0 1, e0] at e
  simp only [Nat.reduceAdd, Nat.zero_add] at e
  rw [cut_cs cs 1 2, e1] at e
  simp only [Nat.reduceAdd, Nat.zero_add] at e
  rw [List.drop_eq_nil_of_le (by omega)] at e
  exact ⟨⟨a0, a1.machine, a1.serial⟩, e, trivial⟩
theorem NodeE.cells_length (n : NodeE) : n.cells.length = 5 := rfl
set_option maxRecDepth 100000 in
theorem NodeE.opens : Opens Tryz.prog 41 NodeE.cells (fun w n => SlAt ValE.cells 4 w n.A n.fields ∧ n.fields.length ≤ n.c ∧ n.c ≤ maxLen) := fun H enc w fuel cs x h hw => by
  have hlen := struct_len Tryz.underlying41 h
  rw [cellsOf_41] at hlen
  obtain ⟨a0, e0, g0⟩ := field_opens Tryz.underlying41 h hw 0 _ rfl 0 2 rfl cellsOf_24 IDE.opens
  obtain ⟨a1, e1, g1⟩ := field_opens Tryz.underlying41 h hw 1 _ rfl 2 1 rfl cellsOf_3 (opens_int Tryz.underlying3)
  obtain ⟨a2, e2, g2⟩ := field_opens Tryz.underlying41 h hw 2 _ rfl 3 1 rfl cellsOf_3 (opens_int Tryz.underlying3)
  obtain ⟨a3, e3, g3⟩ := field_opens Tryz.underlying41 h hw 3 _ rfl 4 1 rfl cellsOf_39 (opens_slice (bytes := Tryz.prog.bytesOf 100) Tryz.underlying39 cellsOf_100 rfl ValE.opens (by decide) ValE.cells_length)
  have e := (List.drop_zero (l := cs)).symm
  rw [cut_cs cs 0 2, e0] at e
  simp only [Nat.reduceAdd, Nat.zero_add] at e
  rw [cut_cs cs 2 1, e1] at e
  simp only [Nat.reduceAdd, Nat.zero_add] at e
  rw [cut_cs cs 3 1, e2] at e
  simp only [Nat.reduceAdd, Nat.zero_add] at e
  rw [cut_cs cs 4 1, e3] at e
  simp only [Nat.reduceAdd, Nat.zero_add] at e
  rw [List.drop_eq_nil_of_le (by omega)] at e
  exact ⟨⟨a0.machine, a0.serial, a1, a2, a3.A, a3.c, a3.l⟩, e, g3.1, g3.2.2.1, g3.2.2.2.1⟩
set_option maxRecDepth 100000 in
theorem graph.opens : Opens Tryz.prog 36 (fun x : SlV NodeE => [.slice x.A x.l.length x.c]) (fun w x => NodesAt w x.A x.l) := fun H enc w fuel cs x h hw => by
  have hlen := struct_len Tryz.underlying36 h
  rw [cellsOf_36] at hlen
  obtain ⟨a0, e0, g0⟩ := field_opens Tryz.underlying36 h hw 0 _ rfl 0 1 rfl cellsOf_34 (opens_slice (bytes := Tryz.prog.bytesOf 41) Tryz.underlying34 cellsOf_41 rfl NodeE.opens (by decide) NodeE.cells_length)
  have e := (List.drop_zero (l := cs)).symm
  rw [cut_cs cs 0 1, e0] at e
  simp only [Nat.reduceAdd, Nat.zero_add] at e
  rw [List.drop_eq_nil_of_le (by omega)] at e
  exact ⟨a0, e, ⟨g0.1, fun n hn => (g0.2.2.2.2 n hn).1, fun n hn => (g0.2.2.2.2 n hn).2⟩⟩
set_option maxRecDepth 100000 in
theorem MailE.opens : Opens Tryz.prog 66 MailE.cells (fun w y => SlAt ValE.cells 4 w y.A y.args) := fun H enc w fuel cs x h hw => by
  have hlen := struct_len Tryz.underlying66 h
  rw [cellsOf_66] at hlen
  obtain ⟨a0, e0, g0⟩ := field_opens Tryz.underlying66 h hw 0 _ rfl 0 2 rfl cellsOf_24 IDE.opens
  obtain ⟨a1, e1, g1⟩ := field_opens Tryz.underlying66 h hw 1 _ rfl 2 2 rfl cellsOf_24 IDE.opens
  obtain ⟨a2, e2, g2⟩ := field_opens Tryz.underlying66 h hw 2 _ rfl 4 1 rfl cellsOf_9 (opens_str Tryz.underlying9)
  obtain ⟨a3, e3, g3⟩ := field_opens Tryz.underlying66 h hw 3 _ rfl 5 1 rfl cellsOf_39 (opens_slice (bytes := Tryz.prog.bytesOf 100) Tryz.underlying39 cellsOf_100 rfl ValE.opens (by decide) ValE.cells_length)
  have e := (List.drop_zero (l := cs)).symm
  rw [cut_cs cs 0 2, e0] at e
  simp only [Nat.reduceAdd, Nat.zero_add] at e
  rw [cut_cs cs 2 2, e1] at e
  simp only [Nat.reduceAdd, Nat.zero_add] at e
  rw [cut_cs cs 4 1, e2] at e
  simp only [Nat.reduceAdd, Nat.zero_add] at e
  rw [cut_cs cs 5 1, e3] at e
  simp only [Nat.reduceAdd, Nat.zero_add] at e
  rw [List.drop_eq_nil_of_le (by omega)] at e
  exact ⟨⟨a0.machine, a0.serial, a1.machine, a1.serial, a2, a3.A, a3.c, a3.l⟩, e, g3.1⟩
set_option maxRecDepth 100000 in
theorem LetterE.opens : Opens Tryz.prog 72 LetterE.cells (fun w y => LetterOk w y) := fun H enc w fuel cs x h hw => by
  have hlen := struct_len Tryz.underlying72 h
  rw [cellsOf_72] at hlen
  obtain ⟨a0, e0, g0⟩ := field_opens Tryz.underlying72 h hw 0 _ rfl 0 2 rfl cellsOf_24 IDE.opens
  obtain ⟨a1, e1, g1⟩ := field_opens Tryz.underlying72 h hw 1 _ rfl 2 1 rfl cellsOf_9 (opens_str Tryz.underlying9)
  obtain ⟨a2, e2, g2⟩ := field_opens Tryz.underlying72 h hw 2 _ rfl 3 1 rfl cellsOf_70 (opens_slice (bytes := Tryz.prog.bytesOf 69) Tryz.underlying70 cellsOf_69 rfl RefE.opens (by decide) RefE.cells_length)
  have e := (List.drop_zero (l := cs)).symm
  rw [cut_cs cs 0 2, e0] at e
  simp only [Nat.reduceAdd, Nat.zero_add] at e
  rw [cut_cs cs 2 1, e1] at e
  simp only [Nat.reduceAdd, Nat.zero_add] at e
  rw [cut_cs cs 3 1, e2] at e
  simp only [Nat.reduceAdd, Nat.zero_add] at e
  rw [List.drop_eq_nil_of_le (by omega)] at e
  exact ⟨⟨a0.machine, a0.serial, a1, a2.A, a2.c, a2.l⟩, e, g2.1⟩
theorem LetterE.cells_length (n : LetterE) : n.cells.length = 4 := rfl
theorem MailE.cells_length (n : MailE) : n.cells.length = 6 := rfl
theorem NamedE.cells_length (n : NamedE) : n.cells.length = 3 := rfl
theorem ViewE.cells_length (n : ViewE) : n.cells.length = 13 := rfl
set_option maxRecDepth 100000 in
theorem ParcelE.opens : Opens Tryz.prog 76 ParcelE.cells (fun w y => ParcelOk w y) := fun H enc w fuel cs x h hw => by
  have hlen := struct_len Tryz.underlying76 h
  rw [cellsOf_76] at hlen
  obtain ⟨a0, e0, g0⟩ := field_opens Tryz.underlying76 h hw 0 _ rfl 0 1 rfl cellsOf_67 (opens_int Tryz.underlying67)
  obtain ⟨a1, e1, g1⟩ := field_opens Tryz.underlying76 h hw 1 _ rfl 1 2 rfl cellsOf_24 IDE.opens
  obtain ⟨a2, e2, g2⟩ := field_opens Tryz.underlying76 h hw 2 _ rfl 3 1 rfl cellsOf_3 (opens_int Tryz.underlying3)
  obtain ⟨a3, e3, g3⟩ := field_opens Tryz.underlying76 h hw 3 _ rfl 4 1 rfl cellsOf_3 (opens_int Tryz.underlying3)
  obtain ⟨a4, e4, g4⟩ := field_opens Tryz.underlying76 h hw 4 _ rfl 5 1 rfl cellsOf_70 (opens_slice (bytes := Tryz.prog.bytesOf 69) Tryz.underlying70 cellsOf_69 rfl RefE.opens (by decide) RefE.cells_length)
  obtain ⟨a5, e5, g5⟩ := field_opens Tryz.underlying76 h hw 5 _ rfl 6 1 rfl cellsOf_73 (opens_slice (bytes := Tryz.prog.bytesOf 72) Tryz.underlying73 cellsOf_72 rfl LetterE.opens (by decide) LetterE.cells_length)
  obtain ⟨a6, e6, g6⟩ := field_opens Tryz.underlying76 h hw 6 _ rfl 7 1 rfl cellsOf_74 (opens_sla Tryz.underlying74)
  have e := (List.drop_zero (l := cs)).symm
  rw [cut_cs cs 0 1, e0] at e
  simp only [Nat.reduceAdd, Nat.zero_add] at e
  rw [cut_cs cs 1 2, e1] at e
  simp only [Nat.reduceAdd, Nat.zero_add] at e
  rw [cut_cs cs 3 1, e2] at e
  simp only [Nat.reduceAdd, Nat.zero_add] at e
  rw [cut_cs cs 4 1, e3] at e
  simp only [Nat.reduceAdd, Nat.zero_add] at e
  rw [cut_cs cs 5 1, e4] at e
  simp only [Nat.reduceAdd, Nat.zero_add] at e
  rw [cut_cs cs 6 1, e5] at e
  simp only [Nat.reduceAdd, Nat.zero_add] at e
  rw [cut_cs cs 7 1, e6] at e
  simp only [Nat.reduceAdd, Nat.zero_add] at e
  rw [List.drop_eq_nil_of_le (by omega)] at e
  exact ⟨⟨a0, a1.machine, a1.serial, a2, a3, a4.A, a4.c, a4.l, a5.A, a5.c, a5.l, a6.A, a6.n, a6.c⟩, e, ⟨g4.1, g5.1, g5.2.2.2.2⟩⟩
set_option maxRecDepth 100000 in
theorem answer.opens : Opens Tryz.prog 80 (fun l : List Value => l) (fun _ l => l.length = 8 ∧ ∀ v ∈ l, v.oneCell' = true) := fun H enc w fuel cs x h hw => by
  have hlen := struct_len Tryz.underlying80 h
  rw [cellsOf_80] at hlen
  obtain ⟨a0, e0, g0⟩ := field_opens Tryz.underlying80 h hw 0 _ rfl 0 1 rfl cellsOf_3 (opens_int Tryz.underlying3)
  obtain ⟨a1, e1, g1⟩ := field_opens Tryz.underlying80 h hw 1 _ rfl 1 1 rfl cellsOf_3 (opens_int Tryz.underlying3)
  obtain ⟨a2, e2, g2⟩ := field_opens Tryz.underlying80 h hw 2 _ rfl 2 1 rfl cellsOf_67 (opens_int Tryz.underlying67)
  obtain ⟨a3, e3, g3⟩ := field_opens Tryz.underlying80 h hw 3 _ rfl 3 1 rfl cellsOf_3 (opens_int Tryz.underlying3)
  obtain ⟨a4, e4, g4⟩ := field_opens Tryz.underlying80 h hw 4 _ rfl 4 1 rfl cellsOf_4 (opens_bool Tryz.underlying4)
  obtain ⟨a5, e5, g5⟩ := field_opens Tryz.underlying80 h hw 5 _ rfl 5 1 rfl cellsOf_4 (opens_bool Tryz.underlying4)
  obtain ⟨a6, e6, g6⟩ := field_opens Tryz.underlying80 h hw 6 _ rfl 6 1 rfl cellsOf_3 (opens_int Tryz.underlying3)
  obtain ⟨a7, e7, g7⟩ := field_opens Tryz.underlying80 h hw 7 _ rfl 7 1 rfl cellsOf_78 (opens_sla Tryz.underlying78)
  have e := (List.drop_zero (l := cs)).symm
  rw [cut_cs cs 0 1, e0] at e
  simp only [Nat.reduceAdd, Nat.zero_add] at e
  rw [cut_cs cs 1 1, e1] at e
  simp only [Nat.reduceAdd, Nat.zero_add] at e
  rw [cut_cs cs 2 1, e2] at e
  simp only [Nat.reduceAdd, Nat.zero_add] at e
  rw [cut_cs cs 3 1, e3] at e
  simp only [Nat.reduceAdd, Nat.zero_add] at e
  rw [cut_cs cs 4 1, e4] at e
  simp only [Nat.reduceAdd, Nat.zero_add] at e
  rw [cut_cs cs 5 1, e5] at e
  simp only [Nat.reduceAdd, Nat.zero_add] at e
  rw [cut_cs cs 6 1, e6] at e
  simp only [Nat.reduceAdd, Nat.zero_add] at e
  rw [cut_cs cs 7 1, e7] at e
  simp only [Nat.reduceAdd, Nat.zero_add] at e
  rw [List.drop_eq_nil_of_le (by omega)] at e
  exact ⟨_, e, rfl, by simp [Value.oneCell']⟩
set_option maxRecDepth 100000 in
theorem claim.opens : Opens Tryz.prog 83 (fun l : List Value => l) (fun _ l => l.length = 5 ∧ ∀ v ∈ l, v.oneCell' = true) := fun H enc w fuel cs x h hw => by
  have hlen := struct_len Tryz.underlying83 h
  rw [cellsOf_83] at hlen
  obtain ⟨a0, e0, g0⟩ := field_opens Tryz.underlying83 h hw 0 _ rfl 0 1 rfl cellsOf_3 (opens_int Tryz.underlying3)
  obtain ⟨a1, e1, g1⟩ := field_opens Tryz.underlying83 h hw 1 _ rfl 1 1 rfl cellsOf_3 (opens_int Tryz.underlying3)
  obtain ⟨a2, e2, g2⟩ := field_opens Tryz.underlying83 h hw 2 _ rfl 2 1 rfl cellsOf_81 (opens_sla Tryz.underlying81)
  obtain ⟨a3, e3, g3⟩ := field_opens Tryz.underlying83 h hw 3 _ rfl 3 1 rfl cellsOf_81 (opens_sla Tryz.underlying81)
  obtain ⟨a4, e4, g4⟩ := field_opens Tryz.underlying83 h hw 4 _ rfl 4 1 rfl cellsOf_81 (opens_sla Tryz.underlying81)
  have e := (List.drop_zero (l := cs)).symm
  rw [cut_cs cs 0 1, e0] at e
  simp only [Nat.reduceAdd, Nat.zero_add] at e
  rw [cut_cs cs 1 1, e1] at e
  simp only [Nat.reduceAdd, Nat.zero_add] at e
  rw [cut_cs cs 2 1, e2] at e
  simp only [Nat.reduceAdd, Nat.zero_add] at e
  rw [cut_cs cs 3 1, e3] at e
  simp only [Nat.reduceAdd, Nat.zero_add] at e
  rw [cut_cs cs 4 1, e4] at e
  simp only [Nat.reduceAdd, Nat.zero_add] at e
  rw [List.drop_eq_nil_of_le (by omega)] at e
  exact ⟨_, e, rfl, by simp [Value.oneCell']⟩
set_option maxRecDepth 100000 in
theorem MsgE.opens : Opens Tryz.prog 85 MsgE.cells (fun w y => y.tail.length = 15 ∧ (∀ v ∈ y.tail, v.oneCell' = true) ∧ LetterOk w y.letter ∧ ParcelOk w y.parcel) := fun H enc w fuel cs x h hw => by
  have hlen := struct_len Tryz.underlying85 h
  rw [cellsOf_85] at hlen
  obtain ⟨a0, e0, g0⟩ := field_opens Tryz.underlying85 h hw 0 _ rfl 0 1 rfl cellsOf_3 (opens_int Tryz.underlying3)
  obtain ⟨a1, e1, g1⟩ := field_opens Tryz.underlying85 h hw 1 _ rfl 1 1 rfl cellsOf_67 (opens_int Tryz.underlying67)
  obtain ⟨a2, e2, g2⟩ := field_opens Tryz.underlying85 h hw 2 _ rfl 2 1 rfl cellsOf_3 (opens_int Tryz.underlying3)
  obtain ⟨a3, e3, g3⟩ := field_opens Tryz.underlying85 h hw 3 _ rfl 3 1 rfl cellsOf_9 (opens_str Tryz.underlying9)
  obtain ⟨a4, e4, g4⟩ := field_opens Tryz.underlying85 h hw 4 _ rfl 4 8 rfl cellsOf_69 RefE.opens
  obtain ⟨a5, e5, g5⟩ := field_opens Tryz.underlying85 h hw 5 _ rfl 12 4 rfl cellsOf_72 LetterE.opens
  obtain ⟨a6, e6, g6⟩ := field_opens Tryz.underlying85 h hw 6 _ rfl 16 8 rfl cellsOf_76 ParcelE.opens
  obtain ⟨a7, e7, g7⟩ := field_opens Tryz.underlying85 h hw 7 _ rfl 24 2 rfl cellsOf_77 TraceE.opens
  obtain ⟨a8, e8, g8⟩ := field_opens Tryz.underlying85 h hw 8 _ rfl 26 8 rfl cellsOf_80 answer.opens
  obtain ⟨a9, e9, g9⟩ := field_opens Tryz.underlying85 h hw 9 _ rfl 34 5 rfl cellsOf_83 claim.opens
  have e := (List.drop_zero (l := cs)).symm
  rw [cut_cs cs 0 1, e0] at e
  simp only [Nat.reduceAdd, Nat.zero_add] at e
  rw [cut_cs cs 1 1, e1] at e
  simp only [Nat.reduceAdd, Nat.zero_add] at e
  rw [cut_cs cs 2 1, e2] at e
  simp only [Nat.reduceAdd, Nat.zero_add] at e
  rw [cut_cs cs 3 1, e3] at e
  simp only [Nat.reduceAdd, Nat.zero_add] at e
  rw [cut_cs cs 4 8, e4] at e
  simp only [Nat.reduceAdd, Nat.zero_add] at e
  rw [cut_cs cs 12 4, e5] at e
  simp only [Nat.reduceAdd, Nat.zero_add] at e
  rw [cut_cs cs 16 8, e6] at e
  simp only [Nat.reduceAdd, Nat.zero_add] at e
  rw [cut_cs cs 24 2, e7] at e
  simp only [Nat.reduceAdd, Nat.zero_add] at e
  rw [cut_cs cs 26 8, e8] at e
  simp only [Nat.reduceAdd, Nat.zero_add] at e
  rw [cut_cs cs 34 5, e9] at e
  simp only [Nat.reduceAdd, Nat.zero_add] at e
  rw [List.drop_eq_nil_of_le (by omega)] at e
  have hz1 : (a7.cells ++ (a8 ++ (a9 ++ []))).length = 15 := by rw [List.length_append, List.length_append, List.length_append, g8.1, g9.1]; rfl
  have hz2 : ∀ v ∈ a7.cells ++ (a8 ++ (a9 ++ [])), v.oneCell' = true := fun v hv => by
    rcases List.mem_append.1 hv with hv | hv
    · simp only [TraceE.cells, List.mem_cons, List.not_mem_nil, or_false] at hv
      rcases hv with rfl | rfl <;> rfl
    · rcases List.mem_append.1 hv with hv | hv
      · exact g8.2 v hv
      · rw [List.append_nil] at hv; exact g9.2 v hv
  exact ⟨⟨a0, a1, a2, a3, a4, a5, a6, a7.cells ++ (a8 ++ (a9 ++ []))⟩, e, hz1, hz2, g5, g6⟩
set_option maxRecDepth 100000 in
theorem FlightE.opens : Opens Tryz.prog 87 FlightE.cells (fun w y => FlightOk w y) := fun H enc w fuel cs x h hw => by
  have hlen := struct_len Tryz.underlying87 h
  rw [cellsOf_87] at hlen
  obtain ⟨a0, e0, g0⟩ := field_opens Tryz.underlying87 h hw 0 _ rfl 0 1 rfl cellsOf_3 (opens_int Tryz.underlying3)
  obtain ⟨a1, e1, g1⟩ := field_opens Tryz.underlying87 h hw 1 _ rfl 1 1 rfl cellsOf_3 (opens_int Tryz.underlying3)
  obtain ⟨a2, e2, g2⟩ := field_opens Tryz.underlying87 h hw 2 _ rfl 2 39 rfl cellsOf_85 MsgE.opens
  have e := (List.drop_zero (l := cs)).symm
  rw [cut_cs cs 0 1, e0] at e
  simp only [Nat.reduceAdd, Nat.zero_add] at e
  rw [cut_cs cs 1 1, e1] at e
  simp only [Nat.reduceAdd, Nat.zero_add] at e
  rw [cut_cs cs 2 39, e2] at e
  simp only [Nat.reduceAdd, Nat.zero_add] at e
  rw [List.drop_eq_nil_of_le (by omega)] at e
  rw [List.append_nil] at e
  exact ⟨⟨a0, a1, a2⟩, e, ⟨g2.1, g2.2.1, g2.2.2.1, g2.2.2.2⟩⟩
set_option maxRecDepth 100000 in
theorem ViewE.opens : Opens Tryz.prog 64 ViewE.cells (fun w y => ViewOk w y ∧ I64ok y.machine) := fun H enc w fuel cs x h hw => by
  have hlen := struct_len Tryz.underlying64 h
  rw [cellsOf_64] at hlen
  obtain ⟨a0, e0, g0⟩ := field_opens Tryz.underlying64 h hw 0 _ rfl 0 1 rfl cellsOf_3 (opens_int Tryz.underlying3)
  obtain ⟨a1, e1, g1⟩ := field_opens Tryz.underlying64 h hw 1 _ rfl 1 1 rfl cellsOf_3 (opens_int Tryz.underlying3)
  obtain ⟨a2, e2, g2⟩ := field_opens Tryz.underlying64 h hw 2 _ rfl 2 1 rfl cellsOf_36 graph.opens
  obtain ⟨a3, e3, g3⟩ := field_opens Tryz.underlying64 h hw 3 _ rfl 3 1 rfl cellsOf_56 (opens_sla Tryz.underlying56)
  obtain ⟨a4, e4, g4⟩ := field_opens Tryz.underlying64 h hw 4 _ rfl 4 1 rfl cellsOf_57 (opens_slice (bytes := Tryz.prog.bytesOf 122) Tryz.underlying57 cellsOf_122 rfl ScionE.opens (by decide) ScionE.cells_length)
  obtain ⟨a5, e5, g5⟩ := field_opens Tryz.underlying64 h hw 5 _ rfl 5 1 rfl cellsOf_58 (opens_slice (bytes := Tryz.prog.bytesOf 107) Tryz.underlying58 cellsOf_107 rfl NamedE.opens (by decide) NamedE.cells_length)
  obtain ⟨a6, e6, g6⟩ := field_opens Tryz.underlying64 h hw 6 _ rfl 6 1 rfl cellsOf_59 (opens_slice (bytes := Tryz.prog.bytesOf 66) Tryz.underlying59 cellsOf_66 rfl MailE.opens (by decide) MailE.cells_length)
  obtain ⟨a7, e7, g7⟩ := field_opens Tryz.underlying64 h hw 7 _ rfl 7 1 rfl cellsOf_60 (opens_sla Tryz.underlying60)
  obtain ⟨a8, e8, g8⟩ := field_opens Tryz.underlying64 h hw 8 _ rfl 8 1 rfl cellsOf_48 (opens_sla Tryz.underlying48)
  obtain ⟨a9, e9, g9⟩ := field_opens Tryz.underlying64 h hw 9 _ rfl 9 1 rfl cellsOf_61 (opens_sliceG (bytes := Tryz.prog.bytesOf 87) Tryz.underlying61 cellsOf_87 rfl FlightE.opens (by decide) (fun _ _ h => FlightE.cells_length h))
  obtain ⟨a10, e10, g10⟩ := field_opens Tryz.underlying64 h hw 10 _ rfl 10 1 rfl cellsOf_62 (opens_slice (bytes := Tryz.prog.bytesOf 3) Tryz.underlying62 (by kernel_rfl : Tryz.prog.cellsOf 3 = 1) rfl (opens_int Tryz.underlying3) (by decide) (fun _ => rfl))
  obtain ⟨a11, e11, g11⟩ := field_opens Tryz.underlying64 h hw 11 _ rfl 11 1 rfl cellsOf_3 (opens_int Tryz.underlying3)
  obtain ⟨a12, e12, g12⟩ := field_opens Tryz.underlying64 h hw 12 _ rfl 12 1 rfl cellsOf_3 (opens_int Tryz.underlying3)
  have e := (List.drop_zero (l := cs)).symm
  rw [cut_cs cs 0 1, e0] at e
  simp only [Nat.reduceAdd, Nat.zero_add] at e
  rw [cut_cs cs 1 1, e1] at e
  simp only [Nat.reduceAdd, Nat.zero_add] at e
  rw [cut_cs cs 2 1, e2] at e
  simp only [Nat.reduceAdd, Nat.zero_add] at e
  rw [cut_cs cs 3 1, e3] at e
  simp only [Nat.reduceAdd, Nat.zero_add] at e
  rw [cut_cs cs 4 1, e4] at e
  simp only [Nat.reduceAdd, Nat.zero_add] at e
  rw [cut_cs cs 5 1, e5] at e
  simp only [Nat.reduceAdd, Nat.zero_add] at e
  rw [cut_cs cs 6 1, e6] at e
  simp only [Nat.reduceAdd, Nat.zero_add] at e
  rw [cut_cs cs 7 1, e7] at e
  simp only [Nat.reduceAdd, Nat.zero_add] at e
  rw [cut_cs cs 8 1, e8] at e
  simp only [Nat.reduceAdd, Nat.zero_add] at e
  rw [cut_cs cs 9 1, e9] at e
  simp only [Nat.reduceAdd, Nat.zero_add] at e
  rw [cut_cs cs 10 1, e10] at e
  simp only [Nat.reduceAdd, Nat.zero_add] at e
  rw [cut_cs cs 11 1, e11] at e
  simp only [Nat.reduceAdd, Nat.zero_add] at e
  rw [cut_cs cs 12 1, e12] at e
  simp only [Nat.reduceAdd, Nat.zero_add] at e
  rw [List.drop_eq_nil_of_le (by omega)] at e
  exact ⟨⟨a0, a1, a2.A, a2.c, a2.l, a3.A, a3.n, a3.c, a4.A, a4.c, a4.l, a5.A, a5.c, a5.l, a6.A, a6.c, a6.l, a7.A, a7.n, a7.c, a8.A, a8.n, a8.c, a9.A, a9.c, a9.l, a10.A, a10.c, a10.l, a11, a12⟩, e, ⟨g2, g4.1, g5.1, g6.1, g6.2.2.2.2, g9.1, g9.2.2.2.2, g10.1⟩, wf_i64 g0⟩
theorem reach_eq : reachBytes = 140737488351232 := rfl
/-- The views that came in. -/
structure ViewsIn (w : World) (A : Option Addr) (V : List ViewE) : Prop where
  at_ : ViewsAt w A V
  len : V.length ≤ 1000000000000000
  ok : ∀ v ∈ V, I64ok v.machine
set_option maxRecDepth 100000 in
theorem open_views {H : Type} {enc : TypeId × Value → H} {w : World} {v : Value} {d : DataW H} {p : List MemPlace} {r : Go.Reach} {b0 : Nat} (hv : Value.okWide Tryz.prog w r b0 22 v) (h : DataW.Trod enc Tryz.prog w 0 (fun _ => true) true 22 v d p)
    (hw : ∀ n ∈ d.weights Tryz.prog 22, n ≤ reachBytes) : ∃ (A : Option Addr) (c : Nat) (V : List ViewE), v = .slice A V.length c ∧ ViewsIn w A V := by
  obtain ⟨a, len, cap, rfl⟩ := okWide_slice Tryz.underlying22 hv
  obtain ⟨x, e, g1, g2, g3, g4, g5⟩ := (opens_slice Tryz.underlying22 cellsOf_64 (by kernel_rfl : Tryz.prog.bytesOf 64 = 248) ViewE.opens (by decide) ViewE.cells_length).arg h hw
  rw [reach_eq] at g2
  refine ⟨x.A, x.c, x.l, ?_, ⟨g1, fun v hv => (g5 v hv).1⟩, by omega, fun v hv => (g5 v hv).2⟩
  simpa [Value.cells] using e
theorem agg_of {cs : Array Value} {l : List Value} (h : (Value.agg cs).cells.toList = l) : Value.agg cs = .agg l.toArray := by
  simp only [Value.cells] at h
  rw [← h]
set_option maxRecDepth 100000 in
theorem open_id {H : Type} {enc : TypeId × Value → H} {w : World} {v : Value} {d : DataW H} {p : List MemPlace} {r : Go.Reach} {b0 : Nat} (hv : Value.okWide Tryz.prog w r b0 24 v) (h : DataW.Trod enc Tryz.prog w 0 (fun _ => true) true 24 v d p)
    (hw : ∀ n ∈ d.weights Tryz.prog 24, n ≤ reachBytes) : ∃ x : IDE, v = x.v := by
  obtain ⟨cs, rfl, _⟩ := okWide_struct Tryz.underlying24 hv
  obtain ⟨x, e, g⟩ := IDE.opens.arg h hw
  exact ⟨x, agg_of e⟩
end Go.Proofs.YtpkfenlfgdbkcaaGreatDoor
