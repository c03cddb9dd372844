/-
  Small texts of this seat, put into one. Conditions stand in each theorem.
-/
import Derived.Test.YtjegncmkebbdfaaGreatDoorGrpA
import Derived.Test.YtjegncmkebbdfaaGreatDoorRows
import Derived.Lib.SliceRun
set_option linter.unusedSimpArgs false
set_option linter.unusedVariables false
namespace Go.Proofs.YtjegncmkebbdfaaGreatDoor
open Go.RowKit
@[ext] structure IDE where
  machine : Int
  serial : Int
def IDE.cells (e : IDE) : List Value := [.int .i64 e.machine, .int .i64 e.serial]
theorem IDE.cells_length (e : IDE) : e.cells.length = 2 := rfl
abbrev IDE.v (e : IDE) : Value := .agg #[.int .i64 e.machine, .int .i64 e.serial]
abbrev IDE.arr (e : IDE) : Array Value := #[.int .i64 e.machine, .int .i64 e.serial]
theorem IDE.facts {e : IDE} {w : World} {b off k : Nat} (h : ∀ j u, e.cells[j]? = some u → w.cell? ⟨b, off + k * 2 + j, none⟩ = some u) : w.cell? ⟨b, off + k * 2, none⟩ = some (.int .i64 e.machine) ∧ w.cell? ⟨b, off + k * 2 + 1, none⟩ = some (.int .i64 e.serial) :=
  ⟨by simpa using h 0 _ rfl, by simpa using h 1 _ rfl⟩
/-- The element lies there, in each later world. -/
abbrev IDE.Has (w : World) (b off k : Nat) (e : IDE) : Prop := ∀ (u : World) [Later w u], u.cell? ⟨b, off + k * 2, none⟩ = some (.int .i64 e.machine) ∧ u.cell? ⟨b, off + k * 2 + 1, none⟩ = some (.int .i64 e.serial)
theorem IDE.has {e : IDE} {w : World} {b off k : Nat} (hb : b < w.heap.size) (h : ∀ j u, e.cells[j]? = some u → w.cell? ⟨b, off + k * 2 + j, none⟩ = some u) : IDE.Has w b off k e := fun u i => IDE.facts fun j v hv => (i.below.cell (p := ⟨b, _, none⟩) hb).trans (h j v hv)
theorem IDE.get {w : World} {A : Option Addr} {l : List IDE} (h : SlAt IDE.cells 2 w A l) {k : Nat} (hk : k < l.length) : ∃ b off x, A = some ⟨b, off, none⟩ ∧ l[k]? = some x ∧ IDE.Has w b off k x := by
  obtain ⟨b, off, x, hA, hb, hx, hc⟩ := h.at_ hk
  exact ⟨b, off, x, hA, hx, IDE.has hb hc⟩
def IDE.beq (x y : IDE) : Bool := x.machine == y.machine && x.serial == y.serial
theorem IDE.beq_iff {x y : IDE} : x.beq y = true ↔ x = y := by
  cases x; cases y; simp [IDE.beq, Bool.and_eq_true, and_assoc]
theorem IDE.enc : Enc IDE.cells 2 := ⟨fun _ => rfl, fun x u hu => by simp only [IDE.cells, List.mem_cons, List.not_mem_nil, or_false] at hu; rcases hu with rfl | rfl <;> rfl, by decide⟩
@[ext] structure ValE where
  kind : Int
  int : Int
  refMachine : Int
  refSerial : Int
def ValE.cells (e : ValE) : List Value := [.int .i64 e.kind, .int .i64 e.int, .int .i64 e.refMachine, .int .i64 e.refSerial]
theorem ValE.cells_length (e : ValE) : e.cells.length = 4 := rfl
abbrev ValE.v (e : ValE) : Value := .agg #[.int .i64 e.kind, .int .i64 e.int, .int .i64 e.refMachine, .int .i64 e.refSerial]
abbrev ValE.arr (e : ValE) : Array Value := #[.int .i64 e.kind, .int .i64 e.int, .int .i64 e.refMachine, .int .i64 e.refSerial]
theorem ValE.facts {e : ValE} {w : World} {b off k : Nat} (h : ∀ j u, e.cells[j]? = some u → w.cell? ⟨b, off + k * 4 + j, none⟩ = some u) : w.cell? ⟨b, off + k * 4, none⟩ = some (.int .i64 e.kind) ∧ w.cell? ⟨b, off + k * 4 + 1, none⟩ = some (.int .i64 e.int) ∧ w.cell? ⟨b, off + k * 4 + 2, none⟩ = some (.int .i64 e.refMachine) ∧ w.cell? ⟨b, off + k * 4 + 3, none⟩ = some (.int .i64 e.refSerial) :=
  ⟨by simpa using h 0 _ rfl, by simpa using h 1 _ rfl, by simpa using h 2 _ rfl, by simpa using h 3 _ rfl⟩
/-- The element lies there, in each later world. -/
abbrev ValE.Has (w : World) (b off k : Nat) (e : ValE) : Prop := ∀ (u : World) [Later w u], u.cell? ⟨b, off + k * 4, none⟩ = some (.int .i64 e.kind) ∧ u.cell? ⟨b, off + k * 4 + 1, none⟩ = some (.int .i64 e.int) ∧ u.cell? ⟨b, off + k * 4 + 2, none⟩ = some (.int .i64 e.refMachine) ∧ u.cell? ⟨b, off + k * 4 + 3, none⟩ = some (.int .i64 e.refSerial)
theorem ValE.has {e : ValE} {w : World} {b off k : Nat} (hb : b < w.heap.size) (h : ∀ j u, e.cells[j]? = some u → w.cell? ⟨b, off + k * 4 + j, none⟩ = some u) : ValE.Has w b off k e := fun u i => ValE.facts fun j v hv => (i.below.cell (p := ⟨b, _, none⟩) hb).trans (h j v hv)
theorem ValE.get {w : World} {A : Option Addr} {l : List ValE} (h : SlAt ValE.cells 4 w A l) {k : Nat} (hk : k < l.length) : ∃ b off x, A = some ⟨b, off, none⟩ ∧ l[k]? = some x ∧ ValE.Has w b off k x := by
  obtain ⟨b, off, x, hA, hb, hx, hc⟩ := h.at_ hk
  exact ⟨b, off, x, hA, hx, ValE.has hb hc⟩
def ValE.beq (x y : ValE) : Bool := x.kind == y.kind && x.int == y.int && x.refMachine == y.refMachine && x.refSerial == y.refSerial
theorem ValE.beq_iff {x y : ValE} : x.beq y = true ↔ x = y := by
  cases x; cases y; simp [ValE.beq, Bool.and_eq_true, and_assoc]
theorem ValE.enc : Enc ValE.cells 4 := ⟨fun _ => rfl, fun x u hu => by simp only [ValE.cells, List.mem_cons, List.not_mem_nil, or_false] at hu; rcases hu with rfl | rfl | rfl | rfl <;> rfl, by decide⟩
instance : DecidableEq IDE := fun a b => decidable_of_iff (a.beq b = true) IDE.beq_iff
instance : DecidableEq ValE := fun a b => decidable_of_iff (a.beq b = true) ValE.beq_iff
/-- A node without its place. -/
structure NodeC where
  iDMachine : Int
  iDSerial : Int
  kind : Int
  clas : Int
  fields : List ValE
def NodeC.id (n : NodeC) : IDE := ⟨n.iDMachine, n.iDSerial⟩
/-- A node: its fields lie at A. -/
structure NodeE where
  iDMachine : Int
  iDSerial : Int
  kind : Int
  clas : Int
  A : Option Addr
  c : Nat
  fields : List ValE
def NodeE.id (n : NodeE) : IDE := ⟨n.iDMachine, n.iDSerial⟩
def NodeE.con (n : NodeE) : NodeC := ⟨n.iDMachine, n.iDSerial, n.kind, n.clas, n.fields⟩
def conL (l : List NodeE) : List NodeC := l.map NodeE.con
def ValE.ref (v : ValE) : IDE := ⟨v.refMachine, v.refSerial⟩
def NodeE.cells (n : NodeE) : List Value := [.int .i64 n.iDMachine, .int .i64 n.iDSerial, .int .i64 n.kind, .int .i64 n.clas, .slice n.A n.fields.length n.c]
abbrev NodeE.v (n : NodeE) : Value := .agg #[.int .i64 n.iDMachine, .int .i64 n.iDSerial, .int .i64 n.kind, .int .i64 n.clas, .slice n.A n.fields.length n.c]
abbrev NodeE.arr (n : NodeE) : Array Value := #[.int .i64 n.iDMachine, .int .i64 n.iDSerial, .int .i64 n.kind, .int .i64 n.clas, .slice n.A n.fields.length n.c]
theorem NodeE.enc : Enc NodeE.cells 5 := ⟨fun _ => rfl, fun x u hu => by simp only [NodeE.cells, List.mem_cons, List.not_mem_nil, or_false] at hu; rcases hu with rfl | rfl | rfl | rfl | rfl <;> rfl, by decide⟩
/-- The nodes lie at A, their fields where they say. -/
structure NodesAt (w : World) (A : Option Addr) (l : List NodeE) : Prop where
  s : SlAt NodeE.cells 5 w A l
  f : ∀ n ∈ l, SlAt ValE.cells 4 w n.A n.fields
  c : ∀ n ∈ l, n.fields.length ≤ n.c ∧ n.c ≤ maxLen
theorem NodesAt.below {w w' : World} {A : Option Addr} {l : List NodeE} (h : NodesAt w A l) (hb : Below w.heap.size w w') : NodesAt w' A l := ⟨h.s.below hb, fun n hn => (h.f n hn).below hb, h.c⟩
theorem NodesAt.later {w : World} {A : Option Addr} {l : List NodeE} (h : NodesAt w A l) : ∀ u [Later w u], NodesAt u A l := fun _ i => h.below i.below
/-- The cells of a node, in each later world. -/
theorem NodesAt.get {w : World} {A : Option Addr} {l : List NodeE} (h : NodesAt w A l) {k : Nat} (hk : k < l.length) : ∃ b o n, A = some ⟨b, o, none⟩ ∧ l[k]? = some n ∧ (∀ u [Later w u], u.cell? ⟨b, o + k * 5, none⟩ = some (.int .i64 n.iDMachine) ∧ u.cell? ⟨b, o + k * 5 + 1, none⟩ = some (.int .i64 n.iDSerial) ∧ u.cell? ⟨b, o + k * 5 + 2, none⟩ = some (.int .i64 n.kind) ∧ u.cell? ⟨b, o + k * 5 + 3, none⟩ = some (.int .i64 n.clas) ∧ u.cell? ⟨b, o + k * 5 + 4, none⟩ = some (.slice n.A n.fields.length n.c)) ∧ (∀ u [Later w u], SlAt ValE.cells 4 u n.A n.fields) ∧ n.fields.length ≤ n.c ∧ n.c ≤ maxLen := by
  obtain ⟨b, o, n, hA, _, hn, hc⟩ := h.s.at_ hk
  refine ⟨b, o, n, hA, hn, fun u i => ⟨?_, ?_, ?_, ?_, ?_⟩, fun u i => (h.f n (List.mem_of_getElem? hn)).below i.below, (h.c n (List.mem_of_getElem? hn)).1, (h.c n (List.mem_of_getElem? hn)).2⟩
  · exact cell_below (hc 0 _ rfl) i.below
  · exact cell_below (hc 1 _ rfl) i.below
  · exact cell_below (hc 2 _ rfl) i.below
  · exact cell_below (hc 3 _ rfl) i.below
  · exact cell_below (hc 4 _ rfl) i.below
end Go.Proofs.YtjegncmkebbdfaaGreatDoor

namespace Go.Proofs.YtjegncmkebbdfaaGreatDoor
/-! ### Sorted lists of identities -/
def ltI (a b : IDE) : Prop := a.machine < b.machine ∨ (a.machine = b.machine ∧ a.serial < b.serial)
instance (a b : IDE) : Decidable (ltI a b) := inferInstanceAs (Decidable (_ ∨ _))
theorem ltI_irrefl (a : IDE) : ¬ ltI a a := by unfold ltI; omega
theorem ltI_trans {a b c : IDE} (h : ltI a b) (k : ltI b c) : ltI a c := by unfold ltI at *; omega
theorem ltI_total (a b : IDE) : ltI a b ∨ a = b ∨ ltI b a := by
  by_cases h : a.machine = b.machine
  · by_cases k : a.serial = b.serial
    · exact .inr (.inl (IDE.ext_iff.2 ⟨h, k⟩))
    · unfold ltI; omega
  · unfold ltI; omega
def SortedI (l : List IDE) : Prop := l.Pairwise ltI
theorem SortedI.nodup {l : List IDE} (h : SortedI l) : l.Nodup := List.Pairwise.imp (fun {a b} (hlt : ltI a b) => show a ≠ b from fun e => ltI_irrefl b (by rw [e] at hlt; exact hlt)) h
theorem sortedI_unique : ∀ {a b : List IDE}, SortedI a → SortedI b → (∀ x, x ∈ a ↔ x ∈ b) → a = b
  | [], [], _, _, _ => rfl
  | [], y :: b, _, _, h => absurd ((h y).2 List.mem_cons_self) (by simp)
  | x :: a, [], _, _, h => absurd ((h x).1 List.mem_cons_self) (by simp)
  | x :: a, y :: b, ha, hb, h => by
    obtain ⟨ha1, ha2⟩ := List.pairwise_cons.1 ha
    obtain ⟨hb1, hb2⟩ := List.pairwise_cons.1 hb
    have hxy : x = y := by
      rcases List.mem_cons.1 ((h x).1 List.mem_cons_self) with e | e
      · exact e
      · rcases List.mem_cons.1 ((h y).2 List.mem_cons_self) with e' | e'
        · exact e'.symm
        · exact absurd (ltI_trans (ha1 y e') (hb1 x e)) (ltI_irrefl x)
    subst hxy
    congr 1
    refine sortedI_unique ha2 hb2 fun z => ?_
    have hz := h z
    rw [List.mem_cons, List.mem_cons] at hz
    constructor
    · intro hza
      rcases hz.1 (.inr hza) with e | e
      · exact absurd (ha1 z hza) (by rw [e]; exact ltI_irrefl x)
      · exact e
    · intro hzb
      rcases hz.2 (.inr hzb) with e | e
      · exact absurd (hb1 z hzb) (by rw [e]; exact ltI_irrefl x)
      · exact e
def cntI (x : IDE) : List IDE → Nat
  | [] => 0
  | y :: l => if ltI y x then cntI x l + 1 else 0
theorem cntI_le (x : IDE) : ∀ l : List IDE, cntI x l ≤ l.length
  | [] => Nat.le_refl _
  | y :: l => by unfold cntI; split <;> simp [cntI_le x l]
theorem cntI_lt {x : IDE} : ∀ {l : List IDE} {j : Nat} {y : IDE}, j < cntI x l → l[j]? = some y → ltI y x
  | [], j, y, h, _ => by simp [cntI] at h
  | z :: l, j, y, h, hy => by
    unfold cntI at h
    split at h
    · rename_i hz
      cases j with
      | zero => simp at hy; exact hy ▸ hz
      | succ j => exact cntI_lt (l := l) (j := j) (by omega) (by simpa using hy)
    · omega
theorem cntI_eq {x : IDE} : ∀ {l : List IDE} {k : Nat}, k ≤ l.length → (∀ (j : Nat) (y : IDE), j < k → l[j]? = some y → ltI y x) → (∀ y, l[k]? = some y → ¬ ltI y x) → cntI x l = k
  | [], k, hk, _, _ => by simp at hk; simp [hk, cntI]
  | z :: l, k, hk, h1, h2 => by
    unfold cntI
    cases k with
    | zero => rw [if_neg (h2 z (by simp))]
    | succ k =>
      rw [if_pos (h1 0 z (by omega) (by simp)), cntI_eq (k := k) (by simpa using hk) (fun j y hj hy => h1 (j + 1) y (by omega) (by simpa using hy)) (fun y hy => h2 y (by simpa using hy))]
def putI (l : List IDE) (x : IDE) : List IDE := if l[cntI x l]? = some x then l else l.take (cntI x l) ++ [x] ++ l.drop (cntI x l)
theorem putI_mem {l : List IDE} {x y : IDE} : y ∈ putI l x ↔ y = x ∨ y ∈ l := by
  unfold putI
  split
  · rename_i h
    constructor
    · exact .inr
    · rintro (rfl | h')
      · exact List.mem_of_getElem? h
      · exact h'
  · constructor
    · intro h
      rcases List.mem_append.1 h with h | h
      · rcases List.mem_append.1 h with h | h
        · exact .inr (List.mem_of_mem_take h)
        · exact .inl (by simpa using h)
      · exact .inr (List.mem_of_mem_drop h)
    · rintro (rfl | h)
      · simp
      · rw [← List.take_append_drop (cntI x l) l] at h
        rcases List.mem_append.1 h with h | h
        · exact List.mem_append_left _ (List.mem_append_left _ h)
        · exact List.mem_append_right _ h
theorem putI_len (l : List IDE) (x : IDE) : (putI l x).length ≤ l.length + 1 := by
  unfold putI
  have := cntI_le x l
  split
  · omega
  · simp only [List.length_append, List.length_take, List.length_drop, List.length_singleton]; omega
theorem putI_sorted {l : List IDE} (h : SortedI l) (x : IDE) : SortedI (putI l x) := by
  unfold putI
  split
  · exact h
  · rename_i hne
    have hp : (l.take (cntI x l)).Pairwise ltI := h.sublist (List.take_sublist _ _)
    have hd : (l.drop (cntI x l)).Pairwise ltI := h.sublist (List.drop_sublist _ _)
    have h1 : ∀ y ∈ l.take (cntI x l), ltI y x := fun y hy => by
      obtain ⟨j, hj⟩ := List.getElem?_of_mem hy
      rw [List.getElem?_take] at hj
      split at hj
      · rename_i hjk; exact cntI_lt hjk hj
      · cases hj
    have h2 : ∀ y ∈ l.drop (cntI x l), ltI x y := fun y hy => by
      have hk : cntI x l < l.length := by
        rcases Nat.lt_or_ge (cntI x l) l.length with h | h
        · exact h
        · rw [List.drop_eq_nil_of_le h] at hy; cases hy
      have hz := List.getElem?_eq_getElem hk
      have hnlt : ¬ ltI l[cntI x l] x := by
        intro hlt
        have : cntI x l = cntI x l + 1 ∨ True := .inr trivial
        have hc : ∀ (l : List IDE), (hk : cntI x l < l.length) → ¬ ltI l[cntI x l] x := by
          intro l
          induction l with
          | nil => intro hk; simp at hk
          | cons z l ih =>
            intro hk
            by_cases hz : ltI z x
            · have e : cntI x (z :: l) = cntI x l + 1 := by rw [cntI, if_pos hz]
              have hk' : cntI x l < l.length := by rw [e] at hk; simpa using hk
              have := ih hk'
              simpa [e] using this
            · have e : cntI x (z :: l) = 0 := by rw [cntI, if_neg hz]
              simpa [e] using hz
        exact hc l hk hlt
      have hxz : ltI x l[cntI x l] := by
        rcases ltI_total x l[cntI x l] with h | h | h
        · exact h
        · exact absurd (by rw [hz, ← h]) hne
        · exact absurd h hnlt
      rw [List.drop_eq_getElem_cons hk] at hy hd
      rcases List.mem_cons.1 hy with rfl | hy
      · exact hxz
      · exact ltI_trans hxz ((List.pairwise_cons.1 hd).1 y hy)
    refine List.pairwise_append.2 ⟨List.pairwise_append.2 ⟨hp, by simp, fun a ha b hb => by rw [List.mem_singleton.1 hb]; exact h1 a ha⟩, hd, fun a ha b hb => ?_⟩
    rcases List.mem_append.1 ha with ha | ha
    · exact ltI_trans (h1 a ha) (h2 b hb)
    · rw [List.mem_singleton.1 ha]; exact h2 b hb
/-- The sorted list of a list's members. -/
def setI (l : List IDE) : List IDE := l.foldl putI []
theorem setI_fold : ∀ (l a : List IDE), SortedI a → SortedI (l.foldl putI a) ∧ ∀ x, x ∈ l.foldl putI a ↔ x ∈ a ∨ x ∈ l
  | [], a, h => ⟨h, fun x => by simp⟩
  | y :: l, a, h => by
    obtain ⟨h1, h2⟩ := setI_fold l (putI a y) (putI_sorted h y)
    refine ⟨h1, fun x => ?_⟩
    rw [List.foldl_cons, h2, putI_mem, List.mem_cons]
    constructor
    · rintro ((h | h) | h)
      · exact .inr (.inl h)
      · exact .inl h
      · exact .inr (.inr h)
    · rintro (h | h | h)
      · exact .inl (.inr h)
      · exact .inl (.inl h)
      · exact .inr h
theorem setI_sorted (l : List IDE) : SortedI (setI l) := (setI_fold l [] List.Pairwise.nil).1
theorem setI_mem {l : List IDE} {x : IDE} : x ∈ setI l ↔ x ∈ l := by
  have := (setI_fold l [] List.Pairwise.nil).2 x
  simpa [setI] using this
theorem setI_unique {l q : List IDE} (hs : SortedI q) (hm : ∀ x, x ∈ q ↔ x ∈ l) : q = setI l := sortedI_unique hs (setI_sorted l) fun x => (hm x).trans setI_mem.symm
/-! ### Graphs -/
def firstN (l : List NodeC) (x : IDE) : Option NodeC := l.find? fun n => decide (n.id = x)
theorem firstN_some {l : List NodeC} {x : IDE} {n : NodeC} (h : firstN l x = some n) : n ∈ l ∧ n.id = x :=
  ⟨List.mem_of_find?_eq_some h, by simpa using List.find?_some h⟩
theorem firstN_none {l : List NodeC} {x : IDE} : firstN l x = none ↔ ∀ n ∈ l, n.id ≠ x := by
  unfold firstN; rw [List.find?_eq_none]; simp
theorem firstE_con {l : List NodeE} {x : IDE} : firstN (conL l) x = (l.find? fun n => decide (n.id = x)).map NodeE.con := by
  unfold firstN conL
  rw [List.find?_map]
  rfl
def ids (l : List NodeC) : List IDE := l.map NodeC.id
theorem firstN_ids {l : List NodeC} {x : IDE} : (firstN l x).isSome ↔ x ∈ ids l := by
  constructor
  · intro h
    obtain ⟨n, hn⟩ := Option.isSome_iff_exists.1 h
    obtain ⟨h1, h2⟩ := firstN_some hn
    exact h2 ▸ List.mem_map_of_mem h1
  · intro h
    obtain ⟨n, hn, he⟩ := List.mem_map.1 h
    cases hf : firstN l x with
    | some _ => rfl
    | none => exact absurd he (firstN_none.1 hf n hn)
/-- Where a node's fields lead, if they are followed. -/
def refsOf (n : NodeC) : List IDE := if n.kind = 2 then [] else (n.fields.filter fun v => v.kind == 2).map ValE.ref
theorem refsOf_len (n : NodeC) : (refsOf n).length ≤ n.fields.length := by
  unfold refsOf
  split
  · simp
  · rw [List.length_map]; exact List.length_filter_le _ _
theorem refsOf_mem {n : NodeC} {y : IDE} : y ∈ refsOf n ↔ n.kind ≠ 2 ∧ ∃ v ∈ n.fields, v.kind = 2 ∧ v.ref = y := by
  unfold refsOf
  split
  · rename_i h; simp [h]
  · rename_i h
    simp only [List.mem_map, List.mem_filter, beq_iff_eq]
    constructor
    · rintro ⟨v, ⟨h1, h2⟩, h3⟩; exact ⟨h, v, h1, h2, h3⟩
    · rintro ⟨_, v, h1, h2, h3⟩; exact ⟨v, ⟨h1, h2⟩, h3⟩
inductive Reach (l : List NodeC) (roots : List IDE) : IDE → Prop
  | root {r : IDE} : r ∈ roots → (firstN l r).isSome → Reach l roots r
  | step {a y : IDE} {n : NodeC} : Reach l roots a → firstN l a = some n → y ∈ refsOf n → (firstN l y).isSome → Reach l roots y
theorem Reach.node {l : List NodeC} {roots : List IDE} {x : IDE} (h : Reach l roots x) : (firstN l x).isSome := by cases h <;> assumption
/-- What a search keeps: what it has found, and what it has still to look at. -/
structure DInv (l : List NodeC) (roots out work : List IDE) : Prop where
  sound : ∀ x ∈ out, Reach l roots x
  wsound : ∀ x ∈ work, (firstN l x).isSome → Reach l roots x
  root : ∀ r ∈ roots, (firstN l r).isSome → r ∈ out ∨ r ∈ work
  closed : ∀ x ∈ out, ∀ n, firstN l x = some n → ∀ y ∈ refsOf n, (firstN l y).isSome → y ∈ out ∨ y ∈ work
theorem DInv.start (l : List NodeC) (roots : List IDE) : DInv l roots [] roots := ⟨(fun x h => by cases h), fun _ h k => .root h k, fun _ h _ => .inr h, (fun x h => by cases h)⟩
theorem DInv.skip {l : List NodeC} {roots out work work' : List IDE} {x : IDE} (h : DInv l roots out work) (hw : ∀ y, y ∈ work ↔ y = x ∨ y ∈ work') (hx : (firstN l x).isSome → x ∈ out) : DInv l roots out work' := by
  refine ⟨h.sound, fun y hy => h.wsound y ((hw y).2 (.inr hy)), fun r hr hn => ?_, fun a ha n hn y hy hs => ?_⟩
  · rcases h.root r hr hn with h1 | h1
    · exact .inl h1
    · rcases (hw r).1 h1 with e | e
      · exact .inl (e ▸ hx (e ▸ hn))
      · exact .inr e
  · rcases h.closed a ha n hn y hy hs with h1 | h1
    · exact .inl h1
    · rcases (hw y).1 h1 with e | e
      · exact .inl (e ▸ hx (e ▸ hs))
      · exact .inr e
theorem DInv.visit {l : List NodeC} {roots out out' work work' work2 : List IDE} {x : IDE} {n : NodeC} (h : DInv l roots out work) (hw : ∀ y, y ∈ work ↔ y = x ∨ y ∈ work') (hx : firstN l x = some n) (ho : ∀ y, y ∈ out' ↔ y = x ∨ y ∈ out) (hw2 : ∀ y, y ∈ work2 ↔ y ∈ work' ∨ y ∈ refsOf n) : DInv l roots out' work2 := by
  have hrx : Reach l roots x := h.wsound x ((hw x).2 (.inl rfl)) (by rw [hx]; rfl)
  refine ⟨fun y hy => ?_, fun y hy hs => ?_, fun r hr hn => ?_, fun a ha m hm y hy hs => ?_⟩
  · rcases (ho y).1 hy with rfl | hy
    · exact hrx
    · exact h.sound y hy
  · rcases (hw2 y).1 hy with hy | hy
    · exact h.wsound y ((hw y).2 (.inr hy)) hs
    · exact .step hrx hx hy hs
  · rcases h.root r hr hn with h1 | h1
    · exact .inl ((ho r).2 (.inr h1))
    · rcases (hw r).1 h1 with e | e
      · exact .inl ((ho r).2 (.inl e))
      · exact .inr ((hw2 r).2 (.inl e))
  · rcases (ho a).1 ha with rfl | ha
    · rw [hx] at hm; injection hm with hm; subst hm
      exact .inr ((hw2 y).2 (.inr hy))
    · rcases h.closed a ha m hm y hy hs with h1 | h1
      · exact .inl ((ho y).2 (.inr h1))
      · rcases (hw y).1 h1 with e | e
        · exact .inl ((ho y).2 (.inl e))
        · exact .inr ((hw2 y).2 (.inl e))
theorem DInv.done {l : List NodeC} {roots out : List IDE} (h : DInv l roots out []) (x : IDE) : x ∈ out ↔ Reach l roots x := by
  constructor
  · exact h.sound x
  · intro hr
    induction hr with
    | root hr hs =>
      rcases h.root _ hr hs with h1 | h1
      · exact h1
      · cases h1
    | step _ hn hy hs ih =>
      rcases h.closed _ ih _ hn _ hy hs with h1 | h1
      · exact h1
      · cases h1
/-- The reached identities, in order. -/
def ReachL (l : List NodeC) (roots q : List IDE) : Prop := SortedI q ∧ ∀ x, x ∈ q ↔ Reach l roots x
theorem ReachL.unique {l : List NodeC} {roots q q' : List IDE} (h : ReachL l roots q) (h' : ReachL l roots q') : q = q' := sortedI_unique h.1 h'.1 fun x => (h.2 x).trans (h'.2 x).symm
theorem nodup_len {α : Type} [DecidableEq α] : ∀ {a b : List α}, a.Nodup → (∀ x ∈ a, x ∈ b) → a.length ≤ b.length
  | [], b, _, _ => by simp
  | x :: a, b, hn, h => by
    obtain ⟨h1, h2⟩ := List.nodup_cons.1 hn
    have hx := h x List.mem_cons_self
    have := nodup_len (a := a) (b := b.erase x) h2 (fun y hy => (List.mem_erase_of_ne (fun e => h1 (by rw [← e]; exact hy))).2 (h y (List.mem_cons_of_mem _ hy)))
    rw [List.length_erase_of_mem hx] at this
    have := List.length_pos_of_mem hx
    simp only [List.length_cons]; omega
theorem reach_len {l : List NodeC} {out : List IDE} (hn : out.Nodup) (h : ∀ x ∈ out, x ∈ ids l) : out.length ≤ l.length := by
  have : out.length ≤ (ids l).length := nodup_len hn h
  rw [ids, List.length_map] at this
  exact this
theorem reach_room {l : List NodeC} {out : List IDE} {x : IDE} (hn : out.Nodup) (h : ∀ y ∈ out, y ∈ ids l) (hx : x ∈ ids l) (ho : x ∉ out) : out.length < l.length := by
  have := reach_len (l := l) (out := x :: out) (List.nodup_cons.2 ⟨ho, hn⟩) (fun y hy => by
    rcases List.mem_cons.1 hy with rfl | hy
    · exact hx
    · exact h y hy)
  simp only [List.length_cons] at this
  omega
def fieldsN (l : List NodeC) : Nat := (l.map fun n => n.fields.length).sum
theorem fieldsN_le : ∀ {l : List NodeC} {n : NodeC}, n ∈ l → n.fields.length ≤ fieldsN l
  | [], n, h => by cases h
  | m :: l, n, h => by
    have e : fieldsN (m :: l) = m.fields.length + fieldsN l := by simp [fieldsN]
    rcases List.mem_cons.1 h with rfl | h
    · omega
    · have := fieldsN_le h; omega
/-! ### Weak stubs -/
def isStubN (l : List NodeC) (x : IDE) : Bool := match firstN l x with | some n => n.kind == 3 | none => false
def refersN (n : NodeC) (x : IDE) : Bool := n.kind == 2 && n.fields.any fun v => v.kind == 2 && decide (v.ref = x)
def weakRef (l : List NodeC) (x s : IDE) : Bool := match firstN l s with | some w => refersN w x | none => false
def weakP (l : List NodeC) (strong weak : List IDE) (x : IDE) : Bool := isStubN l x && (!decide (x ∈ strong) && (decide (x ∈ weak) || strong.any (weakRef l x)))
def keepP (l : List NodeC) (strong weak : List IDE) (x : IDE) : Bool := weakP l strong weak x || (isStubN l x && decide (x ∈ strong))
theorem Reach.mono {l : List NodeC} {a b : List IDE} (h : ∀ x ∈ a, x ∈ b) {x : IDE} (hr : Reach l a x) : Reach l b x := by
  induction hr with
  | root hr hs => exact .root (h _ hr) hs
  | step _ hn hy hs ih => exact .step ih hn hy hs
theorem keepP_mono {l : List NodeC} {s s' weak : List IDE} (h : ∀ x ∈ s, x ∈ s') {x : IDE} (hk : keepP l s weak x = true) : keepP l s' weak x = true ∧ (weakP l s' weak x = true → weakP l s weak x = true) := by
  simp only [keepP, weakP, Bool.or_eq_true, Bool.and_eq_true, Bool.not_eq_true', decide_eq_true_eq, decide_eq_false_iff_not, List.any_eq_true] at hk ⊢
  by_cases hs' : x ∈ s'
  · refine ⟨.inr ⟨by rcases hk with h1 | h1 <;> exact h1.1, hs'⟩, fun hw => absurd hs' hw.2.1⟩
  · rcases hk with ⟨h1, h2, h3⟩ | ⟨_, h2⟩
    · refine ⟨.inl ⟨h1, hs', ?_⟩, fun _ => ⟨h1, h2, h3⟩⟩
      rcases h3 with h3 | ⟨y, hy, h3⟩
      · exact .inl h3
      · exact .inr ⟨y, h y hy, h3⟩
    · exact absurd (h x h2) hs'
/-- The nodes of the identities in a list. -/
def restr (l : List NodeC) (k : List IDE) : List NodeC := l.filter fun n => decide (n.id ∈ k)
theorem firstN_restr {l : List NodeC} {k : List IDE} {x : IDE} : firstN (restr l k) x = if x ∈ k then firstN l x else none := by
  unfold firstN restr
  induction l with
  | nil => simp
  | cons n l ih =>
    by_cases hn : n.id ∈ k
    · rw [List.filter_cons_of_pos (by simpa using hn), List.find?_cons, List.find?_cons]
      by_cases he : n.id = x
      · simp [he, he ▸ hn]
      · simp only [he, decide_false]
        exact ih
    · rw [List.filter_cons_of_neg (by simpa using hn), ih, List.find?_cons]
      by_cases he : n.id = x
      · have : ¬ x ∈ k := by rw [← he]; exact hn
        simp [this]
      · simp [he]
/-- What is reached lies in a restriction that holds it. -/
theorem reach_restr {l : List NodeC} {roots k : List IDE} (hk : ∀ x, Reach l roots x → x ∈ k) (x : IDE) : Reach (restr l k) roots x ↔ Reach l roots x := by
  constructor
  · intro h
    induction h with
    | root hr hs =>
      rw [firstN_restr] at hs
      split at hs
      · exact .root hr hs
      · cases hs
    | step _ hn hy hs ih =>
      rw [firstN_restr] at hn hs
      split at hn
      · split at hs
        · exact .step ih hn hy hs
        · cases hs
      · cases hn
  · intro h
    induction h with
    | root hr hs =>
      have := hk _ (.root hr hs)
      exact .root hr (by rw [firstN_restr, if_pos this]; exact hs)
    | step ha hn hy hs ih =>
      have h1 := hk _ ha
      have h2 := hk _ (.step ha hn hy hs)
      exact .step ih (by rw [firstN_restr, if_pos h1]; exact hn) hy (by rw [firstN_restr, if_pos h2]; exact hs)
theorem weakP_restr {l : List NodeC} {strong weak k : List IDE} (h1 : ∀ x ∈ strong, x ∈ k) (h2 : ∀ x, weakP l strong weak x = true → x ∈ k) (x : IDE) : weakP (restr l k) strong weak x = weakP l strong weak x ∧ (x ∈ strong → isStubN (restr l k) x = isStubN l x) := by
  have hw : strong.any (weakRef (restr l k) x) = strong.any (weakRef l x) := by
    rw [Bool.eq_iff_iff, List.any_eq_true, List.any_eq_true]
    have : ∀ s ∈ strong, weakRef (restr l k) x s = weakRef l x s := fun s hs => by
      unfold weakRef; rw [firstN_restr, if_pos (h1 s hs)]
    constructor
    · rintro ⟨s, hs, h⟩; exact ⟨s, hs, by rw [← this s hs]; exact h⟩
    · rintro ⟨s, hs, h⟩; exact ⟨s, hs, by rw [this s hs]; exact h⟩
  have hi : x ∈ k → isStubN (restr l k) x = isStubN l x := fun h => by unfold isStubN; rw [firstN_restr, if_pos h]
  refine ⟨?_, fun h => hi (h1 x h)⟩
  by_cases hx : x ∈ k
  · unfold weakP; rw [hi hx, hw]
  · have h3 : weakP l strong weak x = false := by
      cases hh : weakP l strong weak x with
      | false => rfl
      | true => exact absurd (h2 x hh) hx
    rw [h3]
    have : isStubN (restr l k) x = false := by unfold isStubN; rw [firstN_restr, if_neg hx]
    unfold weakP; rw [this]; rfl
end Go.Proofs.YtjegncmkebbdfaaGreatDoor

namespace Go.Proofs.YtjegncmkebbdfaaGreatDoor
open Go.RowKit
set_option maxHeartbeats 800000 in
theorem run_eql_IDE (x y : IDE) (w : World) : (binOp .eql 44 x.v y.v).run Tryz.prog w = .ok (.bool (IDE.beq x y)) w := by
  have ht : Tryz.prog.underlying 44 = some (.struct (Tryz.prog.fieldsOf 44)) := by kernel_rfl
  have hp : Tryz.prog.stoodInHeld 44 = false := by kernel_rfl
  have hu := Tryz.underlying44
  rw [run_eql_struct, run_equalIn_struct w 9999 44 _ _ ht hp]
  obtain ⟨fs, hfs⟩ : ∃ fs, Tryz.prog.fieldsOf 44 = fs := ⟨_, rfl⟩
  rw [hfs] at ht ⊢
  rw [hu] at ht
  have ht2 := TypeDesc.struct.inj (Option.some.inj ht)
  subst ht2
  simp only [Op.eqFields, ne_eq]
  simp [go_sem, IDE.beq]
  clear hfs hu ht hp
  by_cases h0 : x.machine = y.machine
  rotate_left
  · rw [if_neg h0]
    simp [beq_eq_false_iff_ne.2 h0]
  rw [if_pos h0]
  have e0 := beq_iff_eq.2 h0
  by_cases h1 : x.serial = y.serial
  rotate_left
  · rw [if_neg h1]
    simp [beq_eq_false_iff_ne.2 h1]
  rw [if_pos h1]
  have e1 := beq_iff_eq.2 h1
  simp only [e0, e1]
  rfl
set_option maxHeartbeats 800000 in
theorem run_neq_IDE (x y : IDE) (w : World) : (binOp .neq 44 x.v y.v).run Tryz.prog w = .ok (.bool (!IDE.beq x y)) w := by
  have ht : Tryz.prog.underlying 44 = some (.struct (Tryz.prog.fieldsOf 44)) := by kernel_rfl
  have hp : Tryz.prog.stoodInHeld 44 = false := by kernel_rfl
  have hu := Tryz.underlying44
  rw [run_neq_struct, run_equalIn_struct w 9999 44 _ _ ht hp]
  obtain ⟨fs, hfs⟩ : ∃ fs, Tryz.prog.fieldsOf 44 = fs := ⟨_, rfl⟩
  rw [hfs] at ht ⊢
  rw [hu] at ht
  have ht2 := TypeDesc.struct.inj (Option.some.inj ht)
  subst ht2
  simp only [Op.eqFields, ne_eq]
  simp [go_sem, IDE.beq]
  clear hfs hu ht hp
  by_cases h0 : x.machine = y.machine
  rotate_left
  · rw [if_neg h0]
    simp [beq_eq_false_iff_ne.2 h0]
  rw [if_pos h0]
  have e0 := beq_iff_eq.2 h0
  by_cases h1 : x.serial = y.serial
  rotate_left
  · rw [if_neg h1]
    simp [beq_eq_false_iff_ne.2 h1]
  rw [if_pos h1]
  have e1 := beq_iff_eq.2 h1
  simp only [e0, e1]
  rfl
theorem idT : ElemT Tryz.prog 55 44 2 16 := ElemT.mk' (z := .agg #[.int .i64 0, .int .i64 0]) Tryz.underlying55 (by kernel_rfl) rfl
def ideq (a b c d : Int) : Bool := IDE.beq ⟨a, b⟩ ⟨c, d⟩
theorem run_eql_id (a b c d : Int) (w : World) : (binOp .eql 44 (.agg #[.int .i64 a, .int .i64 b]) (.agg #[.int .i64 c, .int .i64 d])).run Tryz.prog w = .ok (.bool (ideq a b c d)) w := run_eql_IDE ⟨a, b⟩ ⟨c, d⟩ w
theorem run_neq_id (a b c d : Int) (w : World) : (binOp .neq 44 (.agg #[.int .i64 a, .int .i64 b]) (.agg #[.int .i64 c, .int .i64 d])).run Tryz.prog w = .ok (.bool (!ideq a b c d)) w := run_neq_IDE ⟨a, b⟩ ⟨c, d⟩ w
theorem ideq_iff {a b : IDE} : ideq a.machine a.serial b.machine b.serial = decide (a = b) := by
  rw [Bool.eq_iff_iff, decide_eq_true_eq]
  exact IDE.beq_iff
attribute [local go_sem ↓] run_eql_id run_neq_id
def cmpI (a b : IDE) : Int := if a = b then 0 else if ltI a b then -1 else 1
set_option maxHeartbeats 1000000 in
theorem compare16_any (a b : IDE) (w : World) : Calls Tryz.prog 61 #[a.v, b.v] w fun r w' => r = .returned (.int .i64 (cmpI a b)) ∧ Below w.heap.size w w' := by
  obtain ⟨c, hc⟩ : ∃ c, c = cmpI a b := ⟨_, rfl⟩
  rw [← hc]
  have Hc := hide hc
  clear hc
  cases he : ideq a.machine a.serial b.machine b.serial
  · have hn := hide (show a ≠ b by rw [ideq_iff] at he; simpa using he)
    go_enter Tryz.func61, Tryz.ntmps61
    go_wp2_with fail
    all_goals go_ret
    all_goals exact ⟨ret_int (by rw [Hc.out]; unfold cmpI; rw [if_neg hn.out]; first | rw [if_pos (by unfold ltI; omega)] | rw [if_neg (by unfold ltI; omega)]), below_of⟩
  · have hn := hide (show a = b by rw [ideq_iff] at he; simpa using he)
    go_enter Tryz.func61, Tryz.ntmps61
    go_wp2_with fail
    all_goals go_ret
    all_goals exact ⟨ret_int (by rw [Hc.out]; unfold cmpI; rw [if_pos hn.out]), below_of⟩
end Go.Proofs.YtjegncmkebbdfaaGreatDoor

namespace Go.Proofs.YtjegncmkebbdfaaGreatDoor
open Go.RowKit
attribute [local go_sem ↓] run_eql_id run_neq_id
attribute [local go_sem] Instr.makeFunc
def zeroC : NodeC := ⟨0, 0, 0, 0, []⟩
/-- What Find gives: the first node of that identity, with fields that can be read. -/
def FindPost (L : List NodeC) (x : IDE) (w : World) (r : Ending) (w' : World) : Prop := ∃ m : NodeE, r = .returned (.tuple #[m.v, .bool (firstN L x).isSome]) ∧ Hid (m.con = (firstN L x).getD zeroC) ∧ Own ValE.cells 4 46 w.heap.size w' (.slice m.A m.fields.length m.c) m.fields ∧ m.fields.length ≤ m.c ∧ m.c ≤ maxLen ∧ Below w.heap.size w w'
theorem firstN_hit {l : List NodeE} {k : Nat} {n : NodeE} {x : IDE} (hn : l[k]? = some n) (hx : n.id = x) (hno : ∀ (j : Nat) (m : NodeE), j < k → l[j]? = some m → m.id ≠ x) : firstN (conL l) x = some n.con := by
  rw [firstE_con]
  have : l.find? (fun n => decide (n.id = x)) = some n := by
    rw [List.find?_eq_some_iff_getElem]
    have hk : k < l.length := (List.getElem?_eq_some_iff.1 hn).1
    refine ⟨by simpa using hx, k, hk, (List.getElem?_eq_some_iff.1 hn).2, fun j hj => ?_⟩
    have := hno j l[j] hj (List.getElem?_eq_getElem (by omega))
    simpa using this
  rw [this]; rfl
theorem firstN_miss {l : List NodeE} {x : IDE} (hno : ∀ (j : Nat) (m : NodeE), j < l.length → l[j]? = some m → m.id ≠ x) : firstN (conL l) x = none := by
  rw [firstN_none]
  intro n hn
  obtain ⟨m, hm, rfl⟩ := List.mem_map.1 hn
  obtain ⟨j, hj⟩ := List.getElem?_of_mem hm
  exact hno j m (List.getElem?_eq_some_iff.1 hj).1 hj
/-! A result node in its cells (block w.heap.size + 1 + 1): W the world ahead of the store, n the node. -/
/-- The first node of an identity, with its place. -/
def firstE (l : List NodeE) (x : IDE) : Option NodeE := l.find? fun n => decide (n.id = x)
def zeroN : NodeE := ⟨0, 0, 0, 0, none, 0, []⟩
theorem firstE_N {l : List NodeE} {x : IDE} : firstN (conL l) x = (firstE l x).map NodeE.con := firstE_con
theorem firstE_some {l : List NodeE} {x : IDE} {n : NodeE} (h : firstE l x = some n) : n ∈ l ∧ n.id = x := ⟨List.mem_of_find?_eq_some h, by simpa using List.find?_some h⟩
theorem firstE_hit {l : List NodeE} {k : Nat} {n : NodeE} {x : IDE} (hn : l[k]? = some n) (hx : n.id = x) (hno : ∀ (j : Nat) (m : NodeE), j < k → l[j]? = some m → m.id ≠ x) : firstE l x = some n := by
  unfold firstE
  rw [List.find?_eq_some_iff_getElem]
  have hk : k < l.length := (List.getElem?_eq_some_iff.1 hn).1
  refine ⟨by simpa using hx, k, hk, (List.getElem?_eq_some_iff.1 hn).2, fun j hj => ?_⟩
  have := hno j l[j] hj (List.getElem?_eq_getElem (by omega))
  simpa using this
theorem firstE_miss {l : List NodeE} {x : IDE} (hno : ∀ (j : Nat) (m : NodeE), j < l.length → l[j]? = some m → m.id ≠ x) : firstE l x = none := by
  unfold firstE
  rw [List.find?_eq_none]
  intro n hn
  obtain ⟨j, hj⟩ := List.getElem?_of_mem hn
  simpa using hno j n (List.getElem?_eq_some_iff.1 hj).1 hj
def Find16Post (l : List NodeE) (x : IDE) (w : World) (r : Ending) (w' : World) : Prop := r = .returned (.tuple #[((firstE l x).getD zeroN).v, .bool (firstE l x).isSome]) ∧ Below w.heap.size w w'
set_option maxRecDepth 100000 in
set_option maxHeartbeats 4000000 in
theorem find16_any (A : Option Addr) (c : Nat) (l : List NodeE) (x : IDE) (w : World) (H : NodesAt w A l) (hl : l.length ≤ 1000000000) : Calls Tryz.prog 30 #[.agg #[.slice A l.length c], x.v] w (Find16Post l x w) := by
  have HL := H.later
  have hl' : l.length ≤ 9223372036854775807 := by omega
  go_enter Tryz.func30, Tryz.ntmps30
  go_upto_region 1 with fail
  refine wp_name ?_
  intro w0 hw0
  obtain ⟨B0, B1, B2, l0⟩ := box3 hw0
  clear hw0
  go_wp2_with fail
  go_loopw [6] (fun iv wr => ∃ k : Nat, k ≤ l.length ∧ iv = .int .i64 k ∧ (∀ (j : Nat) (y : NodeE), j < k → l[j]? = some y → y.id ≠ x) ∧ Below w0.heap.size w0 wr) (fun iv _ => l.length - (intOf iv).toNat)
  case atStart => exact ⟨0, by omega, rfl, fun j y h => absurd h (by omega), Below.refl _ _⟩
  case round =>
    obtain ⟨k, hk, rfl, hno, hbr⟩ := hrel
    have lr := later hbr
    have Hno := hide hno
    clear hno
    by_cases hlt : k < l.length
    · obtain ⟨b1, o1, n, rfl, hn, C1, F1, hf1, hf2⟩ := (HL wr).get hlt
      have Hn := hide hn
      clear hn
      cases hp : ideq n.iDMachine n.iDSerial x.machine x.serial
      · have hne := hide (show n.id ≠ x by have := @ideq_iff n.id x; unfold NodeE.id at this ⊢; rw [hp] at this; simpa using this.symm)
        go_upto_region 4 with fail
        (refine wp_region_after (by kernel_rfl) (by kernel_rfl) ?_
         repeat (any_goals (first | go_big_quiet_skip | (go_big_quiet_want; go_big_quiet_op; first | go_big_quiet_on | go_big_quiet_call (fail)) | quiet_step (fail) | (refine wpQuiet_step (fun K hK => ?_); go_simp; split <;> (refine hK _ ?_; clear hK K))))
         all_goals (refine wpQuiet_nil ?_; intro _ hw'; obtain ⟨u', hw''⟩ := hw'; subst hw''; obtain ⟨wd, hbd⟩ := u'; simp only [After.val_mk]))
        have ld := later hbd
        go_wp2_with fail
        go_roundw
        case rel => exact ⟨k + 1, by omega, by go_num, fun j z hj hz => by
          rcases Nat.lt_or_ge j k with h | h
          · exact Hno.out j z h hz
          · have : j = k := by omega
            subst this
            rw [Hn.out] at hz; injection hz with hz; subst hz; exact hne.out, below_of⟩
        case measure => simp [intOf]; omega
      · have he := hide (show firstE l x = some n from firstE_hit Hn.out (by have := @ideq_iff n.id x; unfold NodeE.id at this ⊢; rw [hp] at this; simpa using this.symm) Hno.out)
        go_upto_region 4 with fail
        (refine wp_region_after (by kernel_rfl) (by kernel_rfl) ?_
         repeat (any_goals (first | go_big_quiet_skip | (go_big_quiet_want; go_big_quiet_op; first | go_big_quiet_on | go_big_quiet_call (fail)) | quiet_step (fail) | (refine wpQuiet_step (fun K hK => ?_); go_simp; split <;> (refine hK _ ?_; clear hK K))))
         all_goals (refine wpQuiet_nil ?_; intro _ hw'; obtain ⟨u', hw''⟩ := hw'; subst hw''; obtain ⟨wd, hbd⟩ := u'; simp only [After.val_mk]))
        have ld := later hbd
        go_wp2_with fail
        have hbW : Below w.heap.size w wd := below_of
        have b5 := blk_set (blk_set (blk_set (blk_set (blk_set (B2 wd).1 0 (.int .i64 (n).iDMachine)) 1 (.int .i64 (n).iDSerial)) 2 (.int .i64 (n).kind)) 3 (.int .i64 (n).clas)) 4 (.slice (n).A (n).fields.length (n).c)
        have r0 := blk_cell b5 0
        have r1 := blk_cell b5 1
        have r2 := blk_cell b5 2
        have r3 := blk_cell b5 3
        have r4 := blk_cell b5 4
        simp at r0 r1 r2 r3 r4
        have hbf : Below w.heap.size w (((((wd.setCell ⟨w.heap.size + 1 + 1, 0, none⟩ (.int .i64 (n).iDMachine)).setCell ⟨w.heap.size + 1 + 1, 1, none⟩ (.int .i64 (n).iDSerial)).setCell ⟨w.heap.size + 1 + 1, 2, none⟩ (.int .i64 (n).kind)).setCell ⟨w.heap.size + 1 + 1, 3, none⟩ (.int .i64 (n).clas)).setCell ⟨w.heap.size + 1 + 1, 4, none⟩ (.slice (n).A (n).fields.length (n).c)) := (by repeat (first | with_reducible exact hbW | with_reducible exact Below.refl _ _ | (with_reducible refine Below.drew ?_) | (with_reducible refine below_drewN ?_ _) | (with_reducible refine Below.alloc ?_ ?_ _; rotate_left; (first | omega | (simp <;> omega))) | (with_reducible refine Below.setCell ?_ ?_ _; rotate_left; (first | omega | (simp <;> omega)))))
        refine bodyPost_ret (v := .tuple #[(n).v, .bool true]) (by simp [results, Tryz.results30, go_sem, r0, r1, r2, r3, r4]) rfl ⟨?_, hbf⟩
        rw [he.out]; rfl
    · have hk' : k = l.length := by omega
      subst hk'
      have he := hide (firstE_miss Hno.out)
      go_wp2_with fail
      have hbW : Below w.heap.size w wr := below_of
      have b5 := blk_set (blk_set (blk_set (blk_set (blk_set (B2 wr).1 0 (.int .i64 ((NodeE.mk 0 0 0 0 none 0 [])).iDMachine)) 1 (.int .i64 ((NodeE.mk 0 0 0 0 none 0 [])).iDSerial)) 2 (.int .i64 ((NodeE.mk 0 0 0 0 none 0 [])).kind)) 3 (.int .i64 ((NodeE.mk 0 0 0 0 none 0 [])).clas)) 4 (.slice ((NodeE.mk 0 0 0 0 none 0 [])).A ((NodeE.mk 0 0 0 0 none 0 [])).fields.length ((NodeE.mk 0 0 0 0 none 0 [])).c)
      have r0 := blk_cell b5 0
      have r1 := blk_cell b5 1
      have r2 := blk_cell b5 2
      have r3 := blk_cell b5 3
      have r4 := blk_cell b5 4
      simp at r0 r1 r2 r3 r4
      have hbf : Below w.heap.size w (((((wr.setCell ⟨w.heap.size + 1 + 1, 0, none⟩ (.int .i64 ((NodeE.mk 0 0 0 0 none 0 [])).iDMachine)).setCell ⟨w.heap.size + 1 + 1, 1, none⟩ (.int .i64 ((NodeE.mk 0 0 0 0 none 0 [])).iDSerial)).setCell ⟨w.heap.size + 1 + 1, 2, none⟩ (.int .i64 ((NodeE.mk 0 0 0 0 none 0 [])).kind)).setCell ⟨w.heap.size + 1 + 1, 3, none⟩ (.int .i64 ((NodeE.mk 0 0 0 0 none 0 [])).clas)).setCell ⟨w.heap.size + 1 + 1, 4, none⟩ (.slice ((NodeE.mk 0 0 0 0 none 0 [])).A ((NodeE.mk 0 0 0 0 none 0 [])).fields.length ((NodeE.mk 0 0 0 0 none 0 [])).c)) := (by repeat (first | with_reducible exact hbW | with_reducible exact Below.refl _ _ | (with_reducible refine Below.drew ?_) | (with_reducible refine below_drewN ?_ _) | (with_reducible refine Below.alloc ?_ ?_ _; rotate_left; (first | omega | (simp <;> omega))) | (with_reducible refine Below.setCell ?_ ?_ _; rotate_left; (first | omega | (simp <;> omega)))))
      refine bodyPost_ret (v := .tuple #[((NodeE.mk 0 0 0 0 none 0 [])).v, .bool false]) (by simp [results, Tryz.results30, go_sem, r0, r1, r2, r3, r4]) rfl ⟨?_, hbf⟩
      rw [he.out]; rfl
end Go.Proofs.YtjegncmkebbdfaaGreatDoor

namespace Go.Proofs.YtjegncmkebbdfaaGreatDoor
open Go.RowKit
attribute [local go_sem ↓] run_eql_id run_neq_id
attribute [local go_sem] Instr.makeFunc
theorem valT : ElemT Tryz.prog 49 46 4 32 := ElemT.mk' (z := .agg #[.int .i64 0, .int .i64 0, .int .i64 0, .int .i64 0]) Tryz.underlying49 (by kernel_rfl) rfl
/-- What Clone gives: a slice of the call's own. -/
def CloneP {α : Type} (f : α → List Value) (s : Nat) (e : TypeId) (l : List α) (w : World) (r : Ending) (w' : World) : Prop := ∃ (A : Option Addr) (c : Nat), r = .returned (.slice A l.length c) ∧ l.length ≤ c ∧ c ≤ maxLen ∧ Own f s e w.heap.size w' (.slice A l.length c) l ∧ Below w.heap.size w w'
set_option maxHeartbeats 1000000 in
theorem cloneV_any (A : Option Addr) (c : Nat) (l : List ValE) (w : World) (hs : SlAt ValE.cells 4 w A l) (hl : l.length ≤ 1000000000) :
    Calls Tryz.prog 57 #[.slice A l.length c] w (CloneP ValE.cells 4 46 l w) := by
  have hq := fun (W : World) n c => Lib.run_eql_slice_nil (P := Tryz.prog) W 49 46 A n c 0 0 Tryz.underlying49
  cases A with
  | none =>
    simp only [Option.isNone_none] at hq
    have hl0 : l = [] := by
      by_cases h : l = []
      · exact h
      · obtain ⟨b, off, e, _⟩ := hs h; cases e
    subst hl0
    go_enter Tryz.func57, Tryz.ntmps57
    go_wp2_with fail
    go_ret
    exact ⟨none, 0, rfl, by simp, by simp, Own.nil, below_of⟩
  | some a =>
    simp only [Option.isNone_some] at hq
    go_enter Tryz.func57, Tryz.ntmps57
    go_wp2_with (at_builtin; refine wpList_appE rfl (.tmp 5) (.tmp 6) rfl ValE.enc valT _ _ l rfl rfl hs (by omega) (by unfold maxLen; omega) ?_; intro A' c' w1 ho hm hb)
    go_ret
    obtain ⟨h1, h2, h3⟩ := ho.at_ ValE.enc
    exact ⟨A', c', rfl, h2, hm, ho, hb⟩
set_option maxHeartbeats 1000000 in
theorem cloneI_any (A : Option Addr) (c : Nat) (l : List IDE) (w : World) (hs : SlAt IDE.cells 2 w A l) (hl : l.length ≤ 1000000000) :
    Calls Tryz.prog 48 #[.slice A l.length c] w (CloneP IDE.cells 2 44 l w) := by
  have hq := fun (W : World) n c => Lib.run_eql_slice_nil (P := Tryz.prog) W 55 44 A n c 0 0 Tryz.underlying55
  cases A with
  | none =>
    simp only [Option.isNone_none] at hq
    have hl0 : l = [] := by
      by_cases h : l = []
      · exact h
      · obtain ⟨b, off, e, _⟩ := hs h; cases e
    subst hl0
    go_enter Tryz.func48, Tryz.ntmps48
    go_wp2_with fail
    go_ret
    exact ⟨none, 0, rfl, by simp, by simp, Own.nil, below_of⟩
  | some a =>
    simp only [Option.isNone_some] at hq
    go_enter Tryz.func48, Tryz.ntmps48
    go_wp2_with (at_builtin; refine wpList_appE rfl (.tmp 5) (.tmp 6) rfl IDE.enc idT _ _ l rfl rfl hs (by omega) (by unfold maxLen; omega) ?_; intro A' c' w1 ho hm hb)
    go_ret
    obtain ⟨h1, h2, h3⟩ := ho.at_ IDE.enc
    exact ⟨A', c', rfl, h2, hm, ho, hb⟩
/-! A result node in its cells (block w.heap.size + 1 + 1): W the world ahead of the store, n the node. -/
def CopyPost (n : NodeE) (w : World) (r : Ending) (w' : World) : Prop := ∃ A c, r = .returned (.agg #[.int .i64 n.iDMachine, .int .i64 n.iDSerial, .int .i64 n.kind, .int .i64 n.clas, .slice A n.fields.length c]) ∧ n.fields.length ≤ c ∧ c ≤ maxLen ∧ Own ValE.cells 4 46 w.heap.size w' (.slice A n.fields.length c) n.fields ∧ Below w.heap.size w w'
set_option maxRecDepth 100000 in
set_option maxHeartbeats 4000000 in
theorem copyNode_any (n : NodeE) (w : World) (hf : SlAt ValE.cells 4 w n.A n.fields) (hl : n.fields.length ≤ 1000000000) : Calls Tryz.prog 24 #[n.v] w (CopyPost n w) := by
  have HF : ∀ u [Later w u], SlAt ValE.cells 4 u n.A n.fields := fun u i => hf.below i.below
  go_enter Tryz.func24, Tryz.ntmps24
  go_upto_region 1 with fail
  refine wp_name ?_
  intro w0 hw0
  obtain ⟨B0, B1, l0⟩ := box2 hw0
  have hz0 : w.heap.size + 1 < w0.heap.size := by rw [← hw0]; simp
  clear hw0
  go_wp2_with (go_at_call 57; refine (cloneV_any n.A n.c n.fields _ (HF _) hl).mono ?_; rintro r w1 ⟨A1, c1, rfl, h1, h2, h3, hb1⟩; have l1 := later hb1)
  have hbW : Below w.heap.size w w1 := below_of
  have hn0 : (Value.slice A1 n.fields.length c1).ownBlock ≠ some w.heap.size := fun e => absurd (World.ownsRow.lt h3 _ e).1 (by omega)
  have hn1 : (Value.slice A1 n.fields.length c1).ownBlock ≠ some (w.heap.size + 1) := fun e => absurd (World.ownsRow.lt h3 _ e).1 (by omega)
  have b0 : (w1.setCell ⟨w.heap.size, 4, none⟩ (.slice A1 n.fields.length c1)).heap[w.heap.size + 1]? = _ := (blk_far (p := ⟨w.heap.size, 4, none⟩) (show w.heap.size + 1 ≠ w.heap.size by omega) _).trans (B1 w1).1
  have b5 := blk_set (blk_set (blk_set (blk_set (blk_set b0 0 (.int .i64 n.iDMachine)) 1 (.int .i64 n.iDSerial)) 2 (.int .i64 n.kind)) 3 (.int .i64 n.clas)) 4 (.slice A1 n.fields.length c1)
  have r0 := blk_cell b5 0
  have r1 := blk_cell b5 1
  have r2 := blk_cell b5 2
  have r3 := blk_cell b5 3
  have r4 := blk_cell b5 4
  simp at r0 r1 r2 r3 r4
  refine bodyPost_ret (v := .agg #[.int .i64 n.iDMachine, .int .i64 n.iDSerial, .int .i64 n.kind, .int .i64 n.clas, .slice A1 n.fields.length c1]) (by simp [results, Tryz.results24, go_sem, r0, r1, r2, r3, r4]) rfl ⟨A1, c1, rfl, h1, h2, ?_, (by repeat (first | with_reducible exact hbW | with_reducible exact Below.refl _ _ | (with_reducible refine Below.drew ?_) | (with_reducible refine below_drewN ?_ _) | (with_reducible refine Below.alloc ?_ ?_ _; rotate_left; (first | omega | (simp <;> omega))) | (with_reducible refine Below.setCell ?_ ?_ _; rotate_left; (first | omega | (simp <;> omega)))))⟩
  exact ((((((h3.far (p := ⟨w.heap.size, 4, none⟩) hn0 _).far (p := ⟨w.heap.size + 1, 0, none⟩) hn1 _).far (p := ⟨w.heap.size + 1, 1, none⟩) hn1 _).far (p := ⟨w.heap.size + 1, 2, none⟩) hn1 _).far (p := ⟨w.heap.size + 1, 3, none⟩) hn1 _).far (p := ⟨w.heap.size + 1, 4, none⟩) hn1 _).mono (by omega)
end Go.Proofs.YtjegncmkebbdfaaGreatDoor
