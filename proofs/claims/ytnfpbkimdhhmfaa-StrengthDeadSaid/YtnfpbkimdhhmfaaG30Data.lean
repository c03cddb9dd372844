/-
  Contracts of the functions of this seat that each theorem names: what a call returns, and that it writes nothing that was there before. The conditions stand in each theorem.
-/
import Derived.Test.YtnfpbkimdhhmfaaG30Walk2
namespace Go.Proofs.Ytnfpbkimdhhmfaa
open Go.RowKit
@[ext] structure StubE where
  owner : Int
  number : Int
  iDMachine : Int
  iDSerial : Int
  clas : Int
  lastUse : Int
  distance : Int
  touched : Bool
  weak : Bool
  dead : Bool
  lockMachine : Int
  lockSerial : Int
def StubE.cells (e : StubE) : List Value := [.int .i64 e.owner, .int .u64 e.number, .int .i64 e.iDMachine, .int .i64 e.iDSerial, .int .i64 e.clas, .int .i64 e.lastUse, .int .i64 e.distance, .bool e.touched, .bool e.weak, .bool e.dead, .int .i64 e.lockMachine, .int .i64 e.lockSerial]
theorem StubE.cells_length (e : StubE) : e.cells.length = 12 := rfl
abbrev StubE.v (e : StubE) : Value := .agg #[.int .i64 e.owner, .int .u64 e.number, .int .i64 e.iDMachine, .int .i64 e.iDSerial, .int .i64 e.clas, .int .i64 e.lastUse, .int .i64 e.distance, .bool e.touched, .bool e.weak, .bool e.dead, .int .i64 e.lockMachine, .int .i64 e.lockSerial]
abbrev StubE.arr (e : StubE) : Array Value := #[.int .i64 e.owner, .int .u64 e.number, .int .i64 e.iDMachine, .int .i64 e.iDSerial, .int .i64 e.clas, .int .i64 e.lastUse, .int .i64 e.distance, .bool e.touched, .bool e.weak, .bool e.dead, .int .i64 e.lockMachine, .int .i64 e.lockSerial]
theorem StubE.facts {e : StubE} {w : World} {b off k : Nat} (h : ∀ j u, e.cells[j]? = some u → w.cell? ⟨b, off + k * 12 + j, none⟩ = some u) : w.cell? ⟨b, off + k * 12, none⟩ = some (.int .i64 e.owner) ∧ w.cell? ⟨b, off + k * 12 + 1, none⟩ = some (.int .u64 e.number) ∧ w.cell? ⟨b, off + k * 12 + 2, none⟩ = some (.int .i64 e.iDMachine) ∧ w.cell? ⟨b, off + k * 12 + 3, none⟩ = some (.int .i64 e.iDSerial) ∧ w.cell? ⟨b, off + k * 12 + 4, none⟩ = some (.int .i64 e.clas) ∧ w.cell? ⟨b, off + k * 12 + 5, none⟩ = some (.int .i64 e.lastUse) ∧ w.cell? ⟨b, off + k * 12 + 6, none⟩ = some (.int .i64 e.distance) ∧ w.cell? ⟨b, off + k * 12 + 7, none⟩ = some (.bool e.touched) ∧ w.cell? ⟨b, off + k * 12 + 8, none⟩ = some (.bool e.weak) ∧ w.cell? ⟨b, off + k * 12 + 9, none⟩ = some (.bool e.dead) ∧ w.cell? ⟨b, off + k * 12 + 10, none⟩ = some (.int .i64 e.lockMachine) ∧ w.cell? ⟨b, off + k * 12 + 11, none⟩ = some (.int .i64 e.lockSerial) :=
  ⟨by simpa using h 0 _ rfl, by simpa using h 1 _ rfl, by simpa using h 2 _ rfl, by simpa using h 3 _ rfl, by simpa using h 4 _ rfl, by simpa using h 5 _ rfl, by simpa using h 6 _ rfl, by simpa using h 7 _ rfl, by simpa using h 8 _ rfl, by simpa using h 9 _ rfl, by simpa using h 10 _ rfl, by simpa using h 11 _ rfl⟩
/-- The element lies there, in each later world. -/
abbrev StubE.Has (w : World) (b off k : Nat) (e : StubE) : Prop := ∀ (u : World) [Later w u], u.cell? ⟨b, off + k * 12, none⟩ = some (.int .i64 e.owner) ∧ u.cell? ⟨b, off + k * 12 + 1, none⟩ = some (.int .u64 e.number) ∧ u.cell? ⟨b, off + k * 12 + 2, none⟩ = some (.int .i64 e.iDMachine) ∧ u.cell? ⟨b, off + k * 12 + 3, none⟩ = some (.int .i64 e.iDSerial) ∧ u.cell? ⟨b, off + k * 12 + 4, none⟩ = some (.int .i64 e.clas) ∧ u.cell? ⟨b, off + k * 12 + 5, none⟩ = some (.int .i64 e.lastUse) ∧ u.cell? ⟨b, off + k * 12 + 6, none⟩ = some (.int .i64 e.distance) ∧ u.cell? ⟨b, off + k * 12 + 7, none⟩ = some (.bool e.touched) ∧ u.cell? ⟨b, off + k * 12 + 8, none⟩ = some (.bool e.weak) ∧ u.cell? ⟨b, off + k * 12 + 9, none⟩ = some (.bool e.dead) ∧ u.cell? ⟨b, off + k * 12 + 10, none⟩ = some (.int .i64 e.lockMachine) ∧ u.cell? ⟨b, off + k * 12 + 11, none⟩ = some (.int .i64 e.lockSerial)
theorem StubE.has {e : StubE} {w : World} {b off k : Nat} (hb : b < w.heap.size) (h : ∀ j u, e.cells[j]? = some u → w.cell? ⟨b, off + k * 12 + j, none⟩ = some u) : StubE.Has w b off k e := fun u i => StubE.facts fun j v hv => (i.below.cell (p := ⟨b, _, none⟩) hb).trans (h j v hv)
theorem StubE.get {w : World} {A : Option Addr} {l : List StubE} (h : SlAt StubE.cells 12 w A l) {k : Nat} (hk : k < l.length) : ∃ b off x, A = some ⟨b, off, none⟩ ∧ l[k]? = some x ∧ StubE.Has w b off k x := by
  obtain ⟨b, off, x, hA, hb, hx, hc⟩ := h.at_ hk
  exact ⟨b, off, x, hA, hx, StubE.has hb hc⟩
def StubE.beq (x y : StubE) : Bool := x.owner == y.owner && x.number == y.number && x.iDMachine == y.iDMachine && x.iDSerial == y.iDSerial && x.clas == y.clas && x.lastUse == y.lastUse && x.distance == y.distance && x.touched == y.touched && x.weak == y.weak && x.dead == y.dead && x.lockMachine == y.lockMachine && x.lockSerial == y.lockSerial
theorem StubE.beq_iff {x y : StubE} : x.beq y = true ↔ x = y := by
  cases x; cases y; simp [StubE.beq, Bool.and_eq_true, and_assoc]
theorem StubE.enc : Enc StubE.cells 12 := ⟨fun _ => rfl, fun x u hu => by simp only [StubE.cells, List.mem_cons, List.not_mem_nil, or_false] at hu; rcases hu with rfl | rfl | rfl | rfl | rfl | rfl | rfl | rfl | rfl | rfl | rfl | rfl <;> rfl, by decide⟩
set_option maxHeartbeats 800000 in
theorem run_eql_StubE (x y : StubE) (w : World) : (binOp .eql 61 x.v y.v).run Try.prog w = .ok (.bool (StubE.beq x y)) w := by
  have ht : Try.prog.underlying 61 = some (.struct (Try.prog.fieldsOf 61)) := by kernel_rfl
  have hp : Try.prog.stoodInHeld 61 = false := by kernel_rfl
  have hu := Try.underlying61
  rw [run_eql_struct, run_equalIn_struct w 9999 61 _ _ ht hp]
  obtain ⟨fs, hfs⟩ : ∃ fs, Try.prog.fieldsOf 61 = fs := ⟨_, rfl⟩
  rw [hfs] at ht ⊢
  rw [hu] at ht
  have ht2 := TypeDesc.struct.inj (Option.some.inj ht)
  subst ht2
  simp only [Op.eqFields, ne_eq]
  simp [go_sem, StubE.beq]
  clear hfs hu ht hp
  by_cases h0 : x.owner = y.owner
  rotate_left
  · rw [if_neg h0]
    simp [beq_eq_false_iff_ne.2 h0]
  rw [if_pos h0]
  have e0 := beq_iff_eq.2 h0
  by_cases h1 : x.number = y.number
  rotate_left
  · rw [if_neg h1]
    simp [beq_eq_false_iff_ne.2 h1]
  rw [if_pos h1]
  have e1 := beq_iff_eq.2 h1
  by_cases h2 : x.iDMachine = y.iDMachine
  rotate_left
  · rw [if_neg h2]
    simp [beq_eq_false_iff_ne.2 h2]
  rw [if_pos h2]
  have e2 := beq_iff_eq.2 h2
  by_cases h3 : x.iDSerial = y.iDSerial
  rotate_left
  · rw [if_neg h3]
    simp [beq_eq_false_iff_ne.2 h3]
  rw [if_pos h3]
  have e3 := beq_iff_eq.2 h3
  by_cases h4 : x.clas = y.clas
  rotate_left
  · rw [if_neg h4]
    simp [beq_eq_false_iff_ne.2 h4]
  rw [if_pos h4]
  have e4 := beq_iff_eq.2 h4
  by_cases h5 : x.lastUse = y.lastUse
  rotate_left
  · rw [if_neg h5]
    simp [beq_eq_false_iff_ne.2 h5]
  rw [if_pos h5]
  have e5 := beq_iff_eq.2 h5
  by_cases h6 : x.distance = y.distance
  rotate_left
  · rw [if_neg h6]
    simp [beq_eq_false_iff_ne.2 h6]
  rw [if_pos h6]
  have e6 := beq_iff_eq.2 h6
  by_cases h7 : x.touched = y.touched
  rotate_left
  · rw [if_neg h7]
    simp [beq_eq_false_iff_ne.2 h7]
  rw [if_pos h7]
  have e7 := beq_iff_eq.2 h7
  by_cases h8 : x.weak = y.weak
  rotate_left
  · rw [if_neg h8]
    simp [beq_eq_false_iff_ne.2 h8]
  rw [if_pos h8]
  have e8 := beq_iff_eq.2 h8
  by_cases h9 : x.dead = y.dead
  rotate_left
  · rw [if_neg h9]
    simp [beq_eq_false_iff_ne.2 h9]
  rw [if_pos h9]
  have e9 := beq_iff_eq.2 h9
  by_cases h10 : x.lockMachine = y.lockMachine
  rotate_left
  · rw [if_neg h10]
    simp [beq_eq_false_iff_ne.2 h10]
  rw [if_pos h10]
  have e10 := beq_iff_eq.2 h10
  by_cases h11 : x.lockSerial = y.lockSerial
  rotate_left
  · rw [if_neg h11]
    simp [beq_eq_false_iff_ne.2 h11]
  rw [if_pos h11]
  have e11 := beq_iff_eq.2 h11
  simp only [e0, e1, e2, e3, e4, e5, e6, e7, e8, e9, e10, e11]
  rfl
set_option maxHeartbeats 800000 in
theorem run_neq_StubE (x y : StubE) (w : World) : (binOp .neq 61 x.v y.v).run Try.prog w = .ok (.bool (!StubE.beq x y)) w := by
  have ht : Try.prog.underlying 61 = some (.struct (Try.prog.fieldsOf 61)) := by kernel_rfl
  have hp : Try.prog.stoodInHeld 61 = false := by kernel_rfl
  have hu := Try.underlying61
  rw [run_neq_struct, run_equalIn_struct w 9999 61 _ _ ht hp]
  obtain ⟨fs, hfs⟩ : ∃ fs, Try.prog.fieldsOf 61 = fs := ⟨_, rfl⟩
  rw [hfs] at ht ⊢
  rw [hu] at ht
  have ht2 := TypeDesc.struct.inj (Option.some.inj ht)
  subst ht2
  simp only [Op.eqFields, ne_eq]
  simp [go_sem, StubE.beq]
  clear hfs hu ht hp
  by_cases h0 : x.owner = y.owner
  rotate_left
  · rw [if_neg h0]
    simp [beq_eq_false_iff_ne.2 h0]
  rw [if_pos h0]
  have e0 := beq_iff_eq.2 h0
  by_cases h1 : x.number = y.number
  rotate_left
  · rw [if_neg h1]
    simp [beq_eq_false_iff_ne.2 h1]
  rw [if_pos h1]
  have e1 := beq_iff_eq.2 h1
  by_cases h2 : x.iDMachine = y.iDMachine
  rotate_left
  · rw [if_neg h2]
    simp [beq_eq_false_iff_ne.2 h2]
  rw [if_pos h2]
  have e2 := beq_iff_eq.2 h2
  by_cases h3 : x.iDSerial = y.iDSerial
  rotate_left
  · rw [if_neg h3]
    simp [beq_eq_false_iff_ne.2 h3]
  rw [if_pos h3]
  have e3 := beq_iff_eq.2 h3
  by_cases h4 : x.clas = y.clas
  rotate_left
  · rw [if_neg h4]
    simp [beq_eq_false_iff_ne.2 h4]
  rw [if_pos h4]
  have e4 := beq_iff_eq.2 h4
  by_cases h5 : x.lastUse = y.lastUse
  rotate_left
  · rw [if_neg h5]
    simp [beq_eq_false_iff_ne.2 h5]
  rw [if_pos h5]
  have e5 := beq_iff_eq.2 h5
  by_cases h6 : x.distance = y.distance
  rotate_left
  · rw [if_neg h6]
    simp [beq_eq_false_iff_ne.2 h6]
  rw [if_pos h6]
  have e6 := beq_iff_eq.2 h6
  by_cases h7 : x.touched = y.touched
  rotate_left
  · rw [if_neg h7]
    simp [beq_eq_false_iff_ne.2 h7]
  rw [if_pos h7]
  have e7 := beq_iff_eq.2 h7
  by_cases h8 : x.weak = y.weak
  rotate_left
  · rw [if_neg h8]
    simp [beq_eq_false_iff_ne.2 h8]
  rw [if_pos h8]
  have e8 := beq_iff_eq.2 h8
  by_cases h9 : x.dead = y.dead
  rotate_left
  · rw [if_neg h9]
    simp [beq_eq_false_iff_ne.2 h9]
  rw [if_pos h9]
  have e9 := beq_iff_eq.2 h9
  by_cases h10 : x.lockMachine = y.lockMachine
  rotate_left
  · rw [if_neg h10]
    simp [beq_eq_false_iff_ne.2 h10]
  rw [if_pos h10]
  have e10 := beq_iff_eq.2 h10
  by_cases h11 : x.lockSerial = y.lockSerial
  rotate_left
  · rw [if_neg h11]
    simp [beq_eq_false_iff_ne.2 h11]
  rw [if_pos h11]
  have e11 := beq_iff_eq.2 h11
  simp only [e0, e1, e2, e3, e4, e5, e6, e7, e8, e9, e10, e11]
  rfl
theorem stubT : ElemT Try.prog 26 61 12 80 := ElemT.mk' (z := .agg #[.int .i64 0, .int .u64 0, .int .i64 0, .int .i64 0, .int .i64 0, .int .i64 0, .int .i64 0, .bool false, .bool false, .bool false, .int .i64 0, .int .i64 0]) Try.underlying26 (by kernel_rfl) rfl
def idS (e : StubE) : IDE := ⟨e.iDMachine, e.iDSerial⟩
/-- What becomes of an entry: q are the strong identities. -/
def cls1 (L : List NodeC) (q weak : List IDE) (e : StubE) : Option StubE := if keepP L q weak (idS e) then some { e with weak := weakP L q weak (idS e) } else none
def clsL (L : List NodeC) (q weak : List IDE) (es : List StubE) : List StubE := es.filterMap (cls1 L q weak)
theorem clsL_take {L : List NodeC} {q weak : List IDE} {es : List StubE} {k : Nat} {e : StubE} (h : es[k]? = some e) : clsL L q weak (es.take (k + 1)) = clsL L q weak (es.take k) ++ (cls1 L q weak e).toList := by
  unfold clsL
  rw [take_snoc_get h, List.filterMap_append]
  cases hc : cls1 L q weak e <;> simp [hc]
theorem clsL_len {L : List NodeC} {q weak : List IDE} {es : List StubE} {k : Nat} : (clsL L q weak (es.take k)).length ≤ k := Nat.le_trans (List.length_filterMap_le _ _) (by rw [List.length_take]; omega)
def ClsPost (L : List NodeC) (q weak : List IDE) (es : List StubE) (w : World) (r : Ending) (w' : World) : Prop := ∃ o A c, Hid (o = clsL L q weak es) ∧ r = .returned (.slice A o.length c) ∧ Own StubE.cells 12 61 w.heap.size w' (.slice A o.length c) o ∧ Below w.heap.size w w'
theorem stub_none {l : List NodeE} {x : IDE} (h : firstE l x = none) : isStubN (conL l) x = false := by unfold isStubN; rw [firstE_N, h]; rfl
theorem stub_some {l : List NodeE} {x : IDE} {n : NodeE} (h : firstE l x = some n) : isStubN (conL l) x = (n.kind == 3) := by unfold isStubN; rw [firstE_N, h]; rfl
end Go.Proofs.Ytnfpbkimdhhmfaa
