/-
  Small words and lemmas of my own, over any program: a slice that reads as a list of structs; worlds behind a world; a search's result. No condition.
-/
import Derived.WalkKit
import Derived.WalkSpells
import Derived.WalkLawsBesides
import Derived.Deep.QuietTactic
import Derived.BigQuiet
import Derived.Deep.AppendLies
import Derived.Laws.OwnMore
import Derived.Deep.Draws
import Derived.Deep.DeepCutAuto
import Derived.Lib.Hide
namespace Go.Proofs.Ytnfpbkimdhhmfaa
open Go.RowKit

theorem hide {p : Prop} (h : p) : Hid p := h

/-! ### Worlds behind a world -/
def After (w : World) : Type := { u : World // Below w.heap.size w u }
instance {w : World} : Nonempty (After w) := ⟨⟨w, Below.refl _ _⟩⟩
def After.val {w : World} (u : After w) : World := u.1
theorem After.val_mk {w w1 : World} (h : Below w.heap.size w w1) : After.val (w := w) ⟨w1, h⟩ = w1 := rfl
theorem After.below {w : World} (u : After w) : Below w.heap.size w u.val := u.2
theorem After.size {w : World} (u : After w) : w.heap.size ≤ u.val.heap.size := u.2.size
theorem below_drewN {B : Nat} {a w : World} (h : Below B a w) (n : Nat) : Below B a (w.drewN n) := ⟨h.os, h.tape, h.output, h.size, h.block⟩
theorem cell_below {w w' : World} {a : Addr} {v : Value} (h : w.cell? a = some v) (hb : Below w.heap.size w w') : w'.cell? a = some v :=
  (hb.cell (World.block_lt_of_cell? w a h)).trans h
theorem After.cell {w : World} {a : Addr} {v : Value} (h : w.cell? a = some v) (u : After w) : u.val.cell? a = some v := cell_below h u.below
theorem After.step {w : World} (u : After w) {w' : World} (hb : Below u.val.heap.size u.val w') : ∃ u' : After w, w' = u'.val :=
  ⟨⟨w', u.below.trans (hb.mono u.size)⟩, rfl⟩
theorem Calls.after {P : Program} {f : FuncId} {args : Array Value} {w : World} {u : After w} {v : Value}
    (h : Calls P f args u.val fun e w' => e = .returned v ∧ Below u.val.heap.size u.val w') : Calls P f args u.val fun e w' => e = .returned v ∧ ∃ u' : After w, w' = u'.val :=
  h.mono fun _ _ ⟨he, hb⟩ => ⟨he, u.step hb⟩
theorem wp_region_after {P : Program} {id : Nat} {Q : Exit → Act → World → Prop} {a : Act} {w : World} {l : List Oper} (hm : P.follows .mixedOrders = true) (hB : Region.lexB .any l.toArray = true)
    (h : wpQuiet P l.toArray (fun w' => ∃ u : After w, w' = u.val) (fun a' => ∀ w', (∃ u : After w, w' = u.val) → Q .normal a' w') l a) : (Code.region id l.toArray true).wp P Q a w :=
  wp_region_quiet (C := fun w' => ∃ u : After w, w' = u.val) hm hB ⟨⟨w.drew, (Below.refl _ _).drew⟩, rfl⟩ (by simpa using h)

/-- The world gets a name. -/
theorem wp_name {P : Program} {c : Code} {Q : Exit → Act → World → Prop} {a : Act} {W : World} (h : ∀ w0, W = w0 → c.wp P Q a w0) : c.wp P Q a W := h W rfl

/-! ### A slice that reads as a list of structs -/
/-- The slice with the address A reads, in w, as the list l; f gives an element's cells, s of them. -/
def SlAt {α : Type} (f : α → List Value) (s : Nat) (w : World) (A : Option Addr) (l : List α) : Prop :=
  l ≠ [] → ∃ b off, A = some ⟨b, off, none⟩ ∧ b < w.heap.size ∧ ∀ k x, l[k]? = some x → ∀ j u, (f x)[j]? = some u → w.cell? ⟨b, off + k * s + j, none⟩ = some u

section
variable {α : Type} {f : α → List Value} {s : Nat} {w w' : World} {A : Option Addr} {l : List α}
theorem SlAt.nil : SlAt f s w A [] := fun h => absurd rfl h
theorem SlAt.below (h : SlAt f s w A l) (hb : Below w.heap.size w w') : SlAt f s w' A l := fun hl => by
  obtain ⟨b, off, e, hlt, hc⟩ := h hl
  exact ⟨b, off, e, Nat.lt_of_lt_of_le hlt hb.size, fun k x hk j u hu => (hb.cell (p := ⟨b, _, none⟩) hlt).trans (hc k x hk j u hu)⟩
theorem SlAt.after (h : SlAt f s w A l) (u : After w) : SlAt f s u.val A l := h.below u.below
theorem SlAt.at_ (h : SlAt f s w A l) {k : Nat} (hk : k < l.length) : ∃ b off x, A = some ⟨b, off, none⟩ ∧ b < w.heap.size ∧ l[k]? = some x ∧ ∀ j u, (f x)[j]? = some u → w.cell? ⟨b, off + k * s + j, none⟩ = some u := by
  obtain ⟨b, off, e, hlt, hc⟩ := h (by rintro rfl; simp at hk)
  exact ⟨b, off, l[k], e, hlt, List.getElem?_eq_getElem hk, hc k _ (List.getElem?_eq_getElem hk)⟩
end

/-! ### A search's result -/
def idxOf {α : Type} (p : α → Bool) (l : List α) : Int := match l.findIdx? p with | some i => (i : Int) | none => -1
def NoneTo {α : Type} (p : α → Bool) (l : List α) (k : Nat) : Prop := ∀ j y, j < k → l[j]? = some y → p y = false
section
variable {α : Type} {p : α → Bool} {l : List α} {k : Nat} {x : α}
theorem NoneTo.zero : NoneTo p l 0 := fun j y h => absurd h (by omega)
theorem NoneTo.succ (h : NoneTo p l k) (hx : l[k]? = some x) (hf : p x = false) : NoneTo p l (k + 1) := by
  intro j y hj hy
  rcases Nat.lt_or_ge j k with hlt | hge
  · exact h j y hlt hy
  · have : j = k := by omega
    subst this
    rw [hx] at hy; injection hy with hy; subst hy; exact hf
theorem idxOf_hit (hx : l[k]? = some x) (hf : p x = true) (hno : NoneTo p l k) : idxOf p l = k := by
  have hk : k < l.length := (List.getElem?_eq_some_iff.1 hx).1
  have hxe : l[k] = x := (List.getElem?_eq_some_iff.1 hx).2
  have : l.findIdx? p = some k := by
    rw [List.findIdx?_eq_some_iff_getElem]
    exact ⟨hk, by rw [hxe]; exact hf, fun j hj => by rw [hno j _ hj (List.getElem?_eq_getElem (by omega))]; simp⟩
  unfold idxOf; rw [this]
theorem idxOf_miss (hno : NoneTo p l l.length) : idxOf p l = -1 := by
  have : l.findIdx? p = none := by
    rw [List.findIdx?_eq_none_iff]
    intro y hy
    obtain ⟨j, hj⟩ := List.getElem?_of_mem hy
    exact hno j y (List.getElem?_eq_some_iff.1 hj).1 hj
  unfold idxOf; rw [this]
theorem idxOf_cases (p : α → Bool) (l : List α) : (idxOf p l = -1 ∧ NoneTo p l l.length) ∨ ∃ (k : Nat) (x : α), idxOf p l = (k : Int) ∧ l[k]? = some x ∧ p x = true ∧ NoneTo p l k := by
  cases h : l.findIdx? p with
  | none =>
    refine .inl ⟨by unfold idxOf; rw [h], fun j y _ hy => ?_⟩
    rw [List.findIdx?_eq_none_iff] at h
    exact h y (List.mem_of_getElem? hy)
  | some i =>
    obtain ⟨hk, hp, hno⟩ := List.findIdx?_eq_some_iff_getElem.1 h
    refine .inr ⟨i, l[i], by unfold idxOf; rw [h], List.getElem?_eq_getElem hk, hp, fun j y hj hy => ?_⟩
    have := hno j hj
    rw [(List.getElem?_eq_some_iff.1 hy).2] at this
    simpa using this
end

theorem find_hit {α : Type} {p : α → Bool} {l : List α} {k : Nat} {x : α} (hx : l[k]? = some x) (hf : p x = true) (hno : NoneTo p l k) : l.find? p = some x := by
  induction l generalizing k with
  | nil => simp at hx
  | cons y l ih =>
    cases k with
    | zero => simp at hx; subst hx; simp [List.find?_cons, hf]
    | succ k =>
      have hy : p y = false := hno 0 y (by omega) (by simp)
      rw [List.find?_cons, hy]
      exact ih (by simpa using hx) (fun j z hj hz => hno (j + 1) z (by omega) (by simpa using hz))
theorem find_miss {α : Type} {p : α → Bool} {l : List α} (hno : NoneTo p l l.length) : l.find? p = none := by
  rw [List.find?_eq_none]
  intro y hy
  obtain ⟨j, hj⟩ := List.getElem?_of_mem hy
  simp [hno j y (List.getElem?_eq_some_iff.1 hj).1 hj]

/-! ### All so far -/
def AllTo {α : Type} (p : α → Bool) (l : List α) (k : Nat) : Prop := ∀ j y, j < k → l[j]? = some y → p y = true
section
variable {α : Type} {p : α → Bool} {l : List α} {k : Nat} {x : α}
theorem AllTo.zero : AllTo p l 0 := fun j y h => absurd h (by omega)
theorem AllTo.succ (h : AllTo p l k) (hx : l[k]? = some x) (hf : p x = true) : AllTo p l (k + 1) := by
  intro j y hj hy
  rcases Nat.lt_or_ge j k with hlt | hge
  · exact h j y hlt hy
  · have : j = k := by omega
    subst this
    rw [hx] at hy; injection hy with hy; subst hy; exact hf
theorem AllTo.all (h : AllTo p l l.length) : l.all p = true := by
  rw [List.all_eq_true]
  intro y hy
  obtain ⟨j, hj⟩ := List.getElem?_of_mem hy
  exact h j y (List.getElem?_eq_some_iff.1 hj).1 hj
theorem all_not (hx : l[k]? = some x) (hf : p x = false) : l.all p = false := by
  rw [List.all_eq_false]
  exact ⟨x, List.mem_of_getElem? hx, by simp [hf]⟩
end

/-! ### Integers -/
def I64.cells (x : Int) : List Value := [.int .i64 x]
theorem I64.fact {x : Int} {w : World} {b off k : Nat} (h : ∀ j u, (I64.cells x)[j]? = some u → w.cell? ⟨b, off + k * 1 + j, none⟩ = some u) : w.cell? ⟨b, off + k, none⟩ = some (.int .i64 x) := by
  simpa using h 0 _ rfl

theorem bnt {b : Bool} (h : (!b) = true) : b = false := by simpa using h
theorem bnf {b : Bool} (h : (!b) = false) : b = true := by simpa using h

/-! ### Results -/
theorem ret_int {k : IntKind} {a b : Int} (h : a = b) : Ending.returned (.int k a) = .returned (.int k b) := by rw [h]
theorem ret_bool {a b : Bool} (h : a = b) : Ending.returned (.bool a) = .returned (.bool b) := by rw [h]
end Go.Proofs.Ytnfpbkimdhhmfaa
