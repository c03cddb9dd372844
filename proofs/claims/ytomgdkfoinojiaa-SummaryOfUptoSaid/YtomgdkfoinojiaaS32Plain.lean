/-
  Summaries, plain: which scions reach a stub; the lists in order. Conditions stand in each theorem.
-/
import Derived.Test.YtomgdkfoinojiaaStabPlain
import Derived.Test.YtomgdkfoinojiaaS32Cmp
import Derived.Test.YtomgdkfoinojiaaS32Walk1
import Derived.Test.YtomgdkfoinojiaaGPlain
namespace Go.Proofs.Ytomgdkfoinojiaa
open Go.RowKit Go.Sort
section
variable {α : Type} [Inhabited α] {lt : α → α → Bool} {l l' : List α}
/-- The list in order, equals as they stood. -/
def sortL (lt : α → α → Bool) (l : List α) : List α := (insertionSort lt l.toArray 0 l.length).toList
theorem sortL_ok (O : SWO lt) (l : List α) : Srt lt (sortL lt l) ∧ Stb lt l (sortL lt l) := by
  obtain ⟨Z, h1, h2, h3, h4⟩ := insertion_part (d := l.toArray) (A := []) (B := l) (C := []) O (by simp)
  simp only [List.length_nil, Nat.zero_add, List.nil_append, List.append_nil] at h1 h4
  unfold sortL
  rw [h1]
  exact ⟨h3, by simpa using h4⟩
theorem sortL_eq (O : SWO lt) (h1 : Srt lt l') (h2 : Stb lt l l') : l' = sortL lt l := by
  have := sortL_ok O l
  exact Stb.uniq O (fun z => by rw [this.2 z, h2 z]) h1 this.1
theorem sortL_len (O : SWO lt) (l : List α) : (sortL lt l).length = l.length := (sortL_ok O l).2.length O
theorem sortL_mem (O : SWO lt) {l : List α} {x : α} : x ∈ sortL lt l ↔ x ∈ l := (sortL_ok O l).2.mem O
theorem sortL_nil (O : SWO lt) : sortL lt ([] : List α) = [] := List.eq_nil_of_length_eq_zero (by rw [sortL_len O]; rfl)
end
/-- Stable order goes through a map that keeps the order. -/
theorem Stb.map {α β : Type} {lt : α → α → Bool} {lt' : β → β → Bool} (f : α → β) (h : ∀ x y, lt' (f x) (f y) = lt x y) {l l' : List α} (O : SWO lt') (hs : Stb lt l l') : Stb lt' (l.map f) (l'.map f) := by
  intro z
  rw [List.filter_map, List.filter_map]
  by_cases hz : ∃ x ∈ l, eqv lt' z (f x) = true
  · obtain ⟨x, hx, hzx⟩ := hz
    have e : ((eqv lt' z) ∘ f) = eqv lt x := by
      funext y
      simp only [Function.comp, eqv, Bool.and_eq_true, Bool.not_eq_true'] at hzx ⊢
      rw [← h x y, ← h y x]
      have a1 : lt' z (f y) = lt' (f x) (f y) := by
        cases e1 : lt' z (f y) <;> cases e2 : lt' (f x) (f y) <;> first | rfl | (exfalso)
        · have t := O.ntrans (f x) z (f y) hzx.2 e1
          rw [e2] at t; cases t
        · have t := O.ntrans z (f x) (f y) hzx.1 e2
          rw [e1] at t; cases t
      have a2 : lt' (f y) z = lt' (f y) (f x) := by
        cases e1 : lt' (f y) z <;> cases e2 : lt' (f y) (f x) <;> first | rfl | (exfalso)
        · have t := O.ntrans (f y) z (f x) e1 hzx.1
          rw [e2] at t; cases t
        · have t := O.ntrans (f y) (f x) z e2 hzx.2
          rw [e1] at t; cases t
      rw [a1, a2]
    rw [e, hs x]
  · have n1 : ∀ x ∈ l, ((eqv lt' z) ∘ f) x = false := fun x hx => by
      cases e : ((eqv lt' z) ∘ f) x with
      | false => rfl
      | true => exact absurd ⟨x, hx, e⟩ hz
    have hl : ∀ x ∈ l', x ∈ l := fun x hx => by
      have hx' : x ∈ l'.filter (eqv lt x) := by
        rw [List.mem_filter]
        refine ⟨hx, ?_⟩
        have : lt x x = false := by rw [← h x x]; exact O.irrefl _
        simp [eqv, this]
      rw [hs x] at hx'
      exact (List.mem_filter.1 hx').1
    have e1 : l.filter ((eqv lt' z) ∘ f) = [] := List.filter_eq_nil_iff.2 fun x hx => by rw [n1 x hx]; simp
    have e2 : l'.filter ((eqv lt' z) ∘ f) = [] := List.filter_eq_nil_iff.2 fun x hx => by rw [n1 x (hl x hx)]; simp
    rw [e1, e2]
theorem Srt.map {α β : Type} {lt : α → α → Bool} {lt' : β → β → Bool} (f : α → β) (h : ∀ x y, lt' (f x) (f y) = lt x y) {l : List α} (hs : Srt lt l) : Srt lt' (l.map f) := by
  unfold Srt
  rw [List.pairwise_map]
  exact hs.imp fun {a b} hab => by rw [h]; exact hab
@[ext] structure ScionE where
  client : Int
  number : Int
  iDMachine : Int
  iDSerial : Int
  out : Int
  inn : Int
  distance : Int
  touched : Bool
  weak : Bool
  garbage : Bool
  lockMachine : Int
  lockSerial : Int
def ScionE.cells (e : ScionE) : List Value := [.int .i64 e.client, .int .u64 e.number, .int .i64 e.iDMachine, .int .i64 e.iDSerial, .int .i64 e.out, .int .i64 e.inn, .int .i64 e.distance, .bool e.touched, .bool e.weak, .bool e.garbage, .int .i64 e.lockMachine, .int .i64 e.lockSerial]
theorem ScionE.cells_length (e : ScionE) : e.cells.length = 12 := rfl
abbrev ScionE.v (e : ScionE) : Value := .agg #[.int .i64 e.client, .int .u64 e.number, .int .i64 e.iDMachine, .int .i64 e.iDSerial, .int .i64 e.out, .int .i64 e.inn, .int .i64 e.distance, .bool e.touched, .bool e.weak, .bool e.garbage, .int .i64 e.lockMachine, .int .i64 e.lockSerial]
abbrev ScionE.arr (e : ScionE) : Array Value := #[.int .i64 e.client, .int .u64 e.number, .int .i64 e.iDMachine, .int .i64 e.iDSerial, .int .i64 e.out, .int .i64 e.inn, .int .i64 e.distance, .bool e.touched, .bool e.weak, .bool e.garbage, .int .i64 e.lockMachine, .int .i64 e.lockSerial]
theorem ScionE.facts {e : ScionE} {w : World} {b off k : Nat} (h : ∀ j u, e.cells[j]? = some u → w.cell? ⟨b, off + k * 12 + j, none⟩ = some u) : w.cell? ⟨b, off + k * 12, none⟩ = some (.int .i64 e.client) ∧ w.cell? ⟨b, off + k * 12 + 1, none⟩ = some (.int .u64 e.number) ∧ w.cell? ⟨b, off + k * 12 + 2, none⟩ = some (.int .i64 e.iDMachine) ∧ w.cell? ⟨b, off + k * 12 + 3, none⟩ = some (.int .i64 e.iDSerial) ∧ w.cell? ⟨b, off + k * 12 + 4, none⟩ = some (.int .i64 e.out) ∧ w.cell? ⟨b, off + k * 12 + 5, none⟩ = some (.int .i64 e.inn) ∧ w.cell? ⟨b, off + k * 12 + 6, none⟩ = some (.int .i64 e.distance) ∧ w.cell? ⟨b, off + k * 12 + 7, none⟩ = some (.bool e.touched) ∧ w.cell? ⟨b, off + k * 12 + 8, none⟩ = some (.bool e.weak) ∧ w.cell? ⟨b, off + k * 12 + 9, none⟩ = some (.bool e.garbage) ∧ w.cell? ⟨b, off + k * 12 + 10, none⟩ = some (.int .i64 e.lockMachine) ∧ w.cell? ⟨b, off + k * 12 + 11, none⟩ = some (.int .i64 e.lockSerial) :=
  ⟨by simpa using h 0 _ rfl, by simpa using h 1 _ rfl, by simpa using h 2 _ rfl, by simpa using h 3 _ rfl, by simpa using h 4 _ rfl, by simpa using h 5 _ rfl, by simpa using h 6 _ rfl, by simpa using h 7 _ rfl, by simpa using h 8 _ rfl, by simpa using h 9 _ rfl, by simpa using h 10 _ rfl, by simpa using h 11 _ rfl⟩
/-- The element lies there, in each later world. -/
abbrev ScionE.Has (w : World) (b off k : Nat) (e : ScionE) : Prop := ∀ (u : World) [Later w u], u.cell? ⟨b, off + k * 12, none⟩ = some (.int .i64 e.client) ∧ u.cell? ⟨b, off + k * 12 + 1, none⟩ = some (.int .u64 e.number) ∧ u.cell? ⟨b, off + k * 12 + 2, none⟩ = some (.int .i64 e.iDMachine) ∧ u.cell? ⟨b, off + k * 12 + 3, none⟩ = some (.int .i64 e.iDSerial) ∧ u.cell? ⟨b, off + k * 12 + 4, none⟩ = some (.int .i64 e.out) ∧ u.cell? ⟨b, off + k * 12 + 5, none⟩ = some (.int .i64 e.inn) ∧ u.cell? ⟨b, off + k * 12 + 6, none⟩ = some (.int .i64 e.distance) ∧ u.cell? ⟨b, off + k * 12 + 7, none⟩ = some (.bool e.touched) ∧ u.cell? ⟨b, off + k * 12 + 8, none⟩ = some (.bool e.weak) ∧ u.cell? ⟨b, off + k * 12 + 9, none⟩ = some (.bool e.garbage) ∧ u.cell? ⟨b, off + k * 12 + 10, none⟩ = some (.int .i64 e.lockMachine) ∧ u.cell? ⟨b, off + k * 12 + 11, none⟩ = some (.int .i64 e.lockSerial)
theorem ScionE.has {e : ScionE} {w : World} {b off k : Nat} (hb : b < w.heap.size) (h : ∀ j u, e.cells[j]? = some u → w.cell? ⟨b, off + k * 12 + j, none⟩ = some u) : ScionE.Has w b off k e := fun u i => ScionE.facts fun j v hv => (i.below.cell (p := ⟨b, _, none⟩) hb).trans (h j v hv)
theorem ScionE.get {w : World} {A : Option Addr} {l : List ScionE} (h : SlAt ScionE.cells 12 w A l) {k : Nat} (hk : k < l.length) : ∃ b off x, A = some ⟨b, off, none⟩ ∧ l[k]? = some x ∧ ScionE.Has w b off k x := by
  obtain ⟨b, off, x, hA, hb, hx, hc⟩ := h.at_ hk
  exact ⟨b, off, x, hA, hx, ScionE.has hb hc⟩
def ScionE.beq (x y : ScionE) : Bool := x.client == y.client && x.number == y.number && x.iDMachine == y.iDMachine && x.iDSerial == y.iDSerial && x.out == y.out && x.inn == y.inn && x.distance == y.distance && x.touched == y.touched && x.weak == y.weak && x.garbage == y.garbage && x.lockMachine == y.lockMachine && x.lockSerial == y.lockSerial
theorem ScionE.beq_iff {x y : ScionE} : x.beq y = true ↔ x = y := by
  cases x; cases y; simp [ScionE.beq, Bool.and_eq_true, and_assoc]
theorem ScionE.enc : Enc ScionE.cells 12 := ⟨fun _ => rfl, fun x u hu => by simp only [ScionE.cells, List.mem_cons, List.not_mem_nil, or_false] at hu; rcases hu with rfl | rfl | rfl | rfl | rfl | rfl | rfl | rfl | rfl | rfl | rfl | rfl <;> rfl, by decide⟩
@[ext] structure StubE where
  owner : Int
  number : Int
  iDMachine : Int
  iDSerial : Int
  clas : Int
  lastUse : Int
  distance : Int
  touched : Bool
  weak : Bool
  dead : Bool
  lockMachine : Int
  lockSerial : Int
def StubE.cells (e : StubE) : List Value := [.int .i64 e.owner, .int .u64 e.number, .int .i64 e.iDMachine, .int .i64 e.iDSerial, .int .i64 e.clas, .int .i64 e.lastUse, .int .i64 e.distance, .bool e.touched, .bool e.weak, .bool e.dead, .int .i64 e.lockMachine, .int .i64 e.lockSerial]
theorem StubE.cells_length (e : StubE) : e.cells.length = 12 := rfl
abbrev StubE.v (e : StubE) : Value := .agg #[.int .i64 e.owner, .int .u64 e.number, .int .i64 e.iDMachine, .int .i64 e.iDSerial, .int .i64 e.clas, .int .i64 e.lastUse, .int .i64 e.distance, .bool e.touched, .bool e.weak, .bool e.dead, .int .i64 e.lockMachine, .int .i64 e.lockSerial]
abbrev StubE.arr (e : StubE) : Array Value := #[.int .i64 e.owner, .int .u64 e.number, .int .i64 e.iDMachine, .int .i64 e.iDSerial, .int .i64 e.clas, .int .i64 e.lastUse, .int .i64 e.distance, .bool e.touched, .bool e.weak, .bool e.dead, .int .i64 e.lockMachine, .int .i64 e.lockSerial]
theorem StubE.facts {e : StubE} {w : World} {b off k : Nat} (h : ∀ j u, e.cells[j]? = some u → w.cell? ⟨b, off + k * 12 + j, none⟩ = some u) : w.cell? ⟨b, off + k * 12, none⟩ = some (.int .i64 e.owner) ∧ w.cell? ⟨b, off + k * 12 + 1, none⟩ = some (.int .u64 e.number) ∧ w.cell? ⟨b, off + k * 12 + 2, none⟩ = some (.int .i64 e.iDMachine) ∧ w.cell? ⟨b, off + k * 12 + 3, none⟩ = some (.int .i64 e.iDSerial) ∧ w.cell? ⟨b, off + k * 12 + 4, none⟩ = some (.int .i64 e.clas) ∧ w.cell? ⟨b, off + k * 12 + 5, none⟩ = some (.int .i64 e.lastUse) ∧ w.cell? ⟨b, off + k * 12 + 6, none⟩ = some (.int .i64 e.distance) ∧ w.cell? ⟨b, off + k * 12 + 7, none⟩ = some (.bool e.touched) ∧ w.cell? ⟨b, off + k * 12 + 8, none⟩ = some (.bool e.weak) ∧ w.cell? ⟨b, off + k * 12 + 9, none⟩ = some (.bool e.dead) ∧ w.cell? ⟨b, off + k * 12 + 10, none⟩ = some (.int .i64 e.lockMachine) ∧ w.cell? ⟨b, off + k * 12 + 11, none⟩ = some (.int .i64 e.lockSerial) :=
  ⟨by simpa using h 0 _ rfl, by simpa using h 1 _ rfl, by simpa using h 2 _ rfl, by simpa using h 3 _ rfl, by simpa using h 4 _ rfl, by simpa using h 5 _ rfl, by simpa using h 6 _ rfl, by simpa using h 7 _ rfl, by simpa using h 8 _ rfl, by simpa using h 9 _ rfl, by simpa using h 10 _ rfl, by simpa using h 11 _ rfl⟩
/-- The element lies there, in each later world. -/
abbrev StubE.Has (w : World) (b off k : Nat) (e : StubE) : Prop := ∀ (u : World) [Later w u], u.cell? ⟨b, off + k * 12, none⟩ = some (.int .i64 e.owner) ∧ u.cell? ⟨b, off + k * 12 + 1, none⟩ = some (.int .u64 e.number) ∧ u.cell? ⟨b, off + k * 12 + 2, none⟩ = some (.int .i64 e.iDMachine) ∧ u.cell? ⟨b, off + k * 12 + 3, none⟩ = some (.int .i64 e.iDSerial) ∧ u.cell? ⟨b, off + k * 12 + 4, none⟩ = some (.int .i64 e.clas) ∧ u.cell? ⟨b, off + k * 12 + 5, none⟩ = some (.int .i64 e.lastUse) ∧ u.cell? ⟨b, off + k * 12 + 6, none⟩ = some (.int .i64 e.distance) ∧ u.cell? ⟨b, off + k * 12 + 7, none⟩ = some (.bool e.touched) ∧ u.cell? ⟨b, off + k * 12 + 8, none⟩ = some (.bool e.weak) ∧ u.cell? ⟨b, off + k * 12 + 9, none⟩ = some (.bool e.dead) ∧ u.cell? ⟨b, off + k * 12 + 10, none⟩ = some (.int .i64 e.lockMachine) ∧ u.cell? ⟨b, off + k * 12 + 11, none⟩ = some (.int .i64 e.lockSerial)
theorem StubE.has {e : StubE} {w : World} {b off k : Nat} (hb : b < w.heap.size) (h : ∀ j u, e.cells[j]? = some u → w.cell? ⟨b, off + k * 12 + j, none⟩ = some u) : StubE.Has w b off k e := fun u i => StubE.facts fun j v hv => (i.below.cell (p := ⟨b, _, none⟩) hb).trans (h j v hv)
theorem StubE.get {w : World} {A : Option Addr} {l : List StubE} (h : SlAt StubE.cells 12 w A l) {k : Nat} (hk : k < l.length) : ∃ b off x, A = some ⟨b, off, none⟩ ∧ l[k]? = some x ∧ StubE.Has w b off k x := by
  obtain ⟨b, off, x, hA, hb, hx, hc⟩ := h.at_ hk
  exact ⟨b, off, x, hA, hx, StubE.has hb hc⟩
def StubE.beq (x y : StubE) : Bool := x.owner == y.owner && x.number == y.number && x.iDMachine == y.iDMachine && x.iDSerial == y.iDSerial && x.clas == y.clas && x.lastUse == y.lastUse && x.distance == y.distance && x.touched == y.touched && x.weak == y.weak && x.dead == y.dead && x.lockMachine == y.lockMachine && x.lockSerial == y.lockSerial
theorem StubE.beq_iff {x y : StubE} : x.beq y = true ↔ x = y := by
  cases x; cases y; simp [StubE.beq, Bool.and_eq_true, and_assoc]
theorem StubE.enc : Enc StubE.cells 12 := ⟨fun _ => rfl, fun x u hu => by simp only [StubE.cells, List.mem_cons, List.not_mem_nil, or_false] at hu; rcases hu with rfl | rfl | rfl | rfl | rfl | rfl | rfl | rfl | rfl | rfl | rfl | rfl <;> rfl, by decide⟩
def idS (e : StubE) : IDE := ⟨e.iDMachine, e.iDSerial⟩
def idK (k : ScionE) : IDE := ⟨k.iDMachine, k.iDSerial⟩
/-- An object is reached. -/
noncomputable def hasB (L : List NodeC) (roots : List IDE) (x : IDE) : Bool := @decide (Reach L roots x) (Classical.propDecidable _)
theorem hasB_iff {L : List NodeC} {roots : List IDE} {x : IDE} : hasB L roots x = true ↔ Reach L roots x := by unfold hasB; simp
theorem hasB_eq {L : List NodeC} {roots q : List IDE} (h : ReachL L roots q) (x : IDE) : decide (x ∈ q) = hasB L roots x := by
  rw [Bool.eq_iff_iff, hasB_iff, decide_eq_true_eq]; exact h.2 x
/-- Is it a root scion? -/
def rootB (k : ScionE) : Bool := !k.weak && !k.garbage && !decide (idK k = ⟨0, 0⟩)
def aliveB (e : StubE) : Bool := !(e.weak || e.dead)
noncomputable def insB (L : List NodeC) (x : IDE) (k : ScionE) : Bool := rootB k && hasB L [idK k] x
def toIn (k : ScionE) : InsetE := ⟨k.client, k.number, k.out⟩
noncomputable def insL (L : List NodeC) (ks : List ScionE) (x : IDE) : List ScionE := ks.filter (insB L x)
def ltIn : InsetE → InsetE → Bool := Go.Proofs.ltOf cmpIn
def ltC (x y : SumC) : Bool := decide (lexN x.owner x.number y.owner y.number)
instance : Inhabited SumC := ⟨⟨0, 0, false, 0, []⟩⟩
theorem ltC_swo : SWO ltC := ⟨fun x => by simp [ltC, lexN], fun x y z => by simp only [ltC, decide_eq_true_eq]; unfold lexN; omega, fun x y z => by simp only [ltC, decide_eq_false_iff_not]; unfold lexN; omega⟩
theorem ltC_con (x y : SumE) : ltC x.con y.con = Go.Proofs.ltOf cmpSu x y := (cmpSu_lt x y).symm
/-- The summary of a stub. -/
noncomputable def sumOf (L : List NodeC) (roots : List IDE) (ks : List ScionE) (e : StubE) : SumC :=
  ⟨e.owner, e.number, hasB L roots (idS e), farD (hasB L roots (idS e)) ((insL L ks (idS e)).map ScionE.distance), sortL ltIn ((insL L ks (idS e)).map toIn)⟩
noncomputable def sumL (L : List NodeC) (roots : List IDE) (ks : List ScionE) (es : List StubE) : List SumC := sortL ltC ((es.filter aliveB).map (sumOf L roots ks))
theorem filter_take {α : Type} {p : α → Bool} {l : List α} {k : Nat} {x : α} (h : l[k]? = some x) : (l.take (k + 1)).filter p = (l.take k).filter p ++ (if p x then [x] else []) := by
  rw [List.take_add_one, h, List.filter_append]
  cases hp : p x <;> simp [hp]
end Go.Proofs.Ytomgdkfoinojiaa
