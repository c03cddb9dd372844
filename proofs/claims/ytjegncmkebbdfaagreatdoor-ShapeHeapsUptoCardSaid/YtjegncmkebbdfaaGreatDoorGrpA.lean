/-
  Small texts of this seat, put into one. Conditions stand in each theorem.
-/
import Derived.WalkKit
import Derived.WalkSpells
import Derived.WalkLawsBesides
import Derived.Deep.QuietTactic
import Derived.BigQuiet
import Derived.Deep.AppendLies
import Derived.Laws.OwnMore
import Derived.Deep.Draws
import Derived.Deep.DeepCutAuto
import Derived.Lib.Hide
import Derived.Maps.AppendAt
import Derived.Deep.RegionHeld3
set_option linter.unusedSimpArgs false
set_option linter.unusedVariables false
namespace Go.Proofs.YtjegncmkebbdfaaGreatDoor
open Go.RowKit

theorem hide {p : Prop} (h : p) : Hid p := h

/-! ### Worlds behind a world -/
def After (w : World) : Type := { u : World // Below w.heap.size w u }
instance {w : World} : Nonempty (After w) := ⟨⟨w, Below.refl _ _⟩⟩
def After.val {w : World} (u : After w) : World := u.1
theorem After.val_mk {w w1 : World} (h : Below w.heap.size w w1) : After.val (w := w) ⟨w1, h⟩ = w1 := rfl
theorem After.below {w : World} (u : After w) : Below w.heap.size w u.val := u.2
theorem After.size {w : World} (u : After w) : w.heap.size ≤ u.val.heap.size := u.2.size
theorem below_drewN {B : Nat} {a w : World} (h : Below B a w) (n : Nat) : Below B a (w.drewN n) := ⟨h.os, h.tape, h.output, h.size, h.block⟩
theorem cell_below {w w' : World} {a : Addr} {v : Value} (h : w.cell? a = some v) (hb : Below w.heap.size w w') : w'.cell? a = some v :=
  (hb.cell (World.block_lt_of_cell? w a h)).trans h
theorem After.cell {w : World} {a : Addr} {v : Value} (h : w.cell? a = some v) (u : After w) : u.val.cell? a = some v := cell_below h u.below
theorem After.step {w : World} (u : After w) {w' : World} (hb : Below u.val.heap.size u.val w') : ∃ u' : After w, w' = u'.val :=
  ⟨⟨w', u.below.trans (hb.mono u.size)⟩, rfl⟩
theorem Calls.after {P : Program} {f : FuncId} {args : Array Value} {w : World} {u : After w} {v : Value}
    (h : Calls P f args u.val fun e w' => e = .returned v ∧ Below u.val.heap.size u.val w') : Calls P f args u.val fun e w' => e = .returned v ∧ ∃ u' : After w, w' = u'.val :=
  h.mono fun _ _ ⟨he, hb⟩ => ⟨he, u.step hb⟩
theorem wp_region_after {P : Program} {id : Nat} {Q : Exit → Act → World → Prop} {a : Act} {w : World} {l : List Oper} (hm : P.follows .mixedOrders = true) (hB : Region.lexB .any l.toArray = true)
    (h : wpQuiet P l.toArray (fun w' => ∃ u : After w, w' = u.val) (fun a' => ∀ w', (∃ u : After w, w' = u.val) → Q .normal a' w') l a) : (Code.region id l.toArray true).wp P Q a w :=
  wp_region_quiet (C := fun w' => ∃ u : After w, w' = u.val) hm hB ⟨⟨w.drew, (Below.refl _ _).drew⟩, rfl⟩ (by simpa using h)

/-- The world gets a name. -/
theorem wp_name {P : Program} {c : Code} {Q : Exit → Act → World → Prop} {a : Act} {W : World} (h : ∀ w0, W = w0 → c.wp P Q a w0) : c.wp P Q a W := h W rfl

/-! ### A slice that reads as a list of structs -/
/-- The slice with the address A reads, in w, as the list l; f gives an element's cells, s of them. -/
def SlAt {α : Type} (f : α → List Value) (s : Nat) (w : World) (A : Option Addr) (l : List α) : Prop :=
  l ≠ [] → ∃ b off, A = some ⟨b, off, none⟩ ∧ b < w.heap.size ∧ ∀ k x, l[k]? = some x → ∀ j u, (f x)[j]? = some u → w.cell? ⟨b, off + k * s + j, none⟩ = some u

section
variable {α : Type} {f : α → List Value} {s : Nat} {w w' : World} {A : Option Addr} {l : List α}
theorem SlAt.nil : SlAt f s w A [] := fun h => absurd rfl h
theorem SlAt.below (h : SlAt f s w A l) (hb : Below w.heap.size w w') : SlAt f s w' A l := fun hl => by
  obtain ⟨b, off, e, hlt, hc⟩ := h hl
  exact ⟨b, off, e, Nat.lt_of_lt_of_le hlt hb.size, fun k x hk j u hu => (hb.cell (p := ⟨b, _, none⟩) hlt).trans (hc k x hk j u hu)⟩
theorem SlAt.after (h : SlAt f s w A l) (u : After w) : SlAt f s u.val A l := h.below u.below
theorem SlAt.at_ (h : SlAt f s w A l) {k : Nat} (hk : k < l.length) : ∃ b off x, A = some ⟨b, off, none⟩ ∧ b < w.heap.size ∧ l[k]? = some x ∧ ∀ j u, (f x)[j]? = some u → w.cell? ⟨b, off + k * s + j, none⟩ = some u := by
  obtain ⟨b, off, e, hlt, hc⟩ := h (by rintro rfl; simp at hk)
  exact ⟨b, off, l[k], e, hlt, List.getElem?_eq_getElem hk, hc k _ (List.getElem?_eq_getElem hk)⟩
end

/-! ### A search's result -/
def idxOf {α : Type} (p : α → Bool) (l : List α) : Int := match l.findIdx? p with | some i => (i : Int) | none => -1
def NoneTo {α : Type} (p : α → Bool) (l : List α) (k : Nat) : Prop := ∀ j y, j < k → l[j]? = some y → p y = false
section
variable {α : Type} {p : α → Bool} {l : List α} {k : Nat} {x : α}
theorem NoneTo.zero : NoneTo p l 0 := fun j y h => absurd h (by omega)
theorem NoneTo.succ (h : NoneTo p l k) (hx : l[k]? = some x) (hf : p x = false) : NoneTo p l (k + 1) := by
  intro j y hj hy
  rcases Nat.lt_or_ge j k with hlt | hge
  · exact h j y hlt hy
  · have : j = k := by omega
    subst this
    rw [hx] at hy; injection hy with hy; subst hy; exact hf
theorem idxOf_hit (hx : l[k]? = some x) (hf : p x = true) (hno : NoneTo p l k) : idxOf p l = k := by
  have hk : k < l.length := (List.getElem?_eq_some_iff.1 hx).1
  have hxe : l[k] = x := (List.getElem?_eq_some_iff.1 hx).2
  have : l.findIdx? p = some k := by
    rw [List.findIdx?_eq_some_iff_getElem]
    exact ⟨hk, by rw [hxe]; exact hf, fun j hj => by rw [hno j _ hj (List.getElem?_eq_getElem (by omega))]; simp⟩
  unfold idxOf; rw [this]
theorem idxOf_miss (hno : NoneTo p l l.length) : idxOf p l = -1 := by
  have : l.findIdx? p = none := by
    rw [List.findIdx?_eq_none_iff]
    intro y hy
    obtain ⟨j, hj⟩ := List.getElem?_of_mem hy
    exact hno j y (List.getElem?_eq_some_iff.1 hj).1 hj
  unfold idxOf; rw [this]
theorem idxOf_cases (p : α → Bool) (l : List α) : (idxOf p l = -1 ∧ NoneTo p l l.length) ∨ ∃ (k : Nat) (x : α), idxOf p l = (k : Int) ∧ l[k]? = some x ∧ p x = true ∧ NoneTo p l k := by
  cases h : l.findIdx? p with
  | none =>
    refine .inl ⟨by unfold idxOf; rw [h], fun j y _ hy => ?_⟩
    rw [List.findIdx?_eq_none_iff] at h
    exact h y (List.mem_of_getElem? hy)
  | some i =>
    obtain ⟨hk, hp, hno⟩ := List.findIdx?_eq_some_iff_getElem.1 h
    refine .inr ⟨i, l[i], by unfold idxOf; rw [h], List.getElem?_eq_getElem hk, hp, fun j y hj hy => ?_⟩
    have := hno j hj
    rw [(List.getElem?_eq_some_iff.1 hy).2] at this
    simpa using this
end

theorem find_hit {α : Type} {p : α → Bool} {l : List α} {k : Nat} {x : α} (hx : l[k]? = some x) (hf : p x = true) (hno : NoneTo p l k) : l.find? p = some x := by
  induction l generalizing k with
  | nil => simp at hx
  | cons y l ih =>
    cases k with
    | zero => simp at hx; subst hx; simp [List.find?_cons, hf]
    | succ k =>
      have hy : p y = false := hno 0 y (by omega) (by simp)
      rw [List.find?_cons, hy]
      exact ih (by simpa using hx) (fun j z hj hz => hno (j + 1) z (by omega) (by simpa using hz))
theorem find_miss {α : Type} {p : α → Bool} {l : List α} (hno : NoneTo p l l.length) : l.find? p = none := by
  rw [List.find?_eq_none]
  intro y hy
  obtain ⟨j, hj⟩ := List.getElem?_of_mem hy
  simp [hno j y (List.getElem?_eq_some_iff.1 hj).1 hj]

/-! ### All so far -/
def AllTo {α : Type} (p : α → Bool) (l : List α) (k : Nat) : Prop := ∀ j y, j < k → l[j]? = some y → p y = true
section
variable {α : Type} {p : α → Bool} {l : List α} {k : Nat} {x : α}
theorem AllTo.zero : AllTo p l 0 := fun j y h => absurd h (by omega)
theorem AllTo.succ (h : AllTo p l k) (hx : l[k]? = some x) (hf : p x = true) : AllTo p l (k + 1) := by
  intro j y hj hy
  rcases Nat.lt_or_ge j k with hlt | hge
  · exact h j y hlt hy
  · have : j = k := by omega
    subst this
    rw [hx] at hy; injection hy with hy; subst hy; exact hf
theorem AllTo.all (h : AllTo p l l.length) : l.all p = true := by
  rw [List.all_eq_true]
  intro y hy
  obtain ⟨j, hj⟩ := List.getElem?_of_mem hy
  exact h j y (List.getElem?_eq_some_iff.1 hj).1 hj
theorem all_not (hx : l[k]? = some x) (hf : p x = false) : l.all p = false := by
  rw [List.all_eq_false]
  exact ⟨x, List.mem_of_getElem? hx, by simp [hf]⟩
end

/-! ### Integers -/
def I64.cells (x : Int) : List Value := [.int .i64 x]
theorem I64.fact {x : Int} {w : World} {b off k : Nat} (h : ∀ j u, (I64.cells x)[j]? = some u → w.cell? ⟨b, off + k * 1 + j, none⟩ = some u) : w.cell? ⟨b, off + k, none⟩ = some (.int .i64 x) := by
  simpa using h 0 _ rfl

theorem bnt {b : Bool} (h : (!b) = true) : b = false := by simpa using h
theorem bnf {b : Bool} (h : (!b) = false) : b = true := by simpa using h

/-! ### Results -/
theorem ret_int {k : IntKind} {a b : Int} (h : a = b) : Ending.returned (.int k a) = .returned (.int k b) := by rw [h]
theorem ret_bool {a b : Bool} (h : a = b) : Ending.returned (.bool a) = .returned (.bool b) := by rw [h]
end Go.Proofs.YtjegncmkebbdfaaGreatDoor

namespace Go.Proofs.YtjegncmkebbdfaaGreatDoor
open Go.RowKit

structure Enc {α : Type} (f : α → List Value) (s : Nat) : Prop where
  len : ∀ x, (f x).length = s
  one : ∀ x, ∀ u ∈ f x, u.oneCell' = true
  pos : 0 < s
structure ElemT (P : Program) (t e : TypeId) (s bytes : Nat) : Prop where
  slice : P.underlying t = some (.slice e)
  info : ∃ i z, P.info? e = some i ∧ i.zero = some z ∧ i.size = s ∧ i.bytes = bytes ∧ z.cells.size = s
theorem ElemT.mk' {P : Program} {t e : TypeId} {s bytes : Nat} {z : Value} (h : P.underlying t = some (.slice e)) (hi : (P.info? e).map (fun i => (i.zero, i.size, i.bytes)) = some (some z, s, bytes)) (hz : z.cells.size = s) : ElemT P t e s bytes := by
  obtain ⟨i, a, b, c, d⟩ := info_parts hi
  exact ⟨h, i, z, a, b, c, d, hz⟩

section
variable {α : Type} {f : α → List Value} {s : Nat}
theorem Enc.flat_length (he : Enc f s) (l : List α) : (l.flatMap f).length = l.length * s := by
  induction l with
  | nil => simp
  | cons x l ih => rw [List.flatMap_cons, List.length_append, ih, he.len, List.length_cons, Nat.succ_mul, Nat.add_comm]
theorem Enc.flat_get (he : Enc f s) (l : List α) (k j : Nat) (x : α) (hk : l[k]? = some x) (hj : j < s) : (l.flatMap f)[k * s + j]? = (f x)[j]? := by
  induction l generalizing k with
  | nil => simp at hk
  | cons y l ih =>
    rw [List.flatMap_cons]
    cases k with
    | zero =>
      simp at hk; subst hk
      rw [List.getElem?_append_left (by rw [he.len]; omega)]; simp
    | succ k =>
      rw [List.getElem?_append_right (by rw [he.len, Nat.succ_mul]; omega), he.len]
      rw [show (k + 1) * s + j - s = k * s + j by rw [Nat.succ_mul]; omega]
      exact ih k (by simpa using hk)
theorem Enc.flat_set (he : Enc f s) (l : List α) (k j : Nat) (x x' : α) (u : Value) (hk : l[k]? = some x) (hj : j < s) (hf : f x' = (f x).set j u) : (l.flatMap f).set (k * s + j) u = (l.set k x').flatMap f := by
  induction l generalizing k with
  | nil => simp at hk
  | cons y l ih =>
    cases k with
    | zero =>
      simp at hk; subst hk
      rw [List.set_cons_zero, List.flatMap_cons, List.flatMap_cons, List.set_append_left _ _ (by rw [he.len]; omega), hf]
      simp
    | succ k =>
      rw [List.set_cons_succ, List.flatMap_cons, List.flatMap_cons, List.set_append_right _ _ (by rw [he.len, Nat.succ_mul]; omega), he.len]
      rw [show (k + 1) * s + j - s = k * s + j by rw [Nat.succ_mul]; omega, ih k (by simpa using hk)]
theorem Enc.flat_one (he : Enc f s) (l : List α) : ∀ u ∈ l.flatMap f, u.oneCell' = true := by
  intro u hu
  obtain ⟨x, _, hx⟩ := List.mem_flatMap.1 hu
  exact he.one x u hx
theorem Enc.slAt (he : Enc f s) {w : World} {l : List α} {b off : Nat} (hb : b < w.heap.size) (h : ∀ j u, (l.flatMap f)[j]? = some u → w.cell? ⟨b, off + j, none⟩ = some u) : SlAt f s w (some ⟨b, off, none⟩) l := fun _ =>
  ⟨b, off, rfl, hb, fun k x hk j u hu => by
    have hj : j < s := by rw [← he.len x]; exact (List.getElem?_eq_some_iff.1 hu).1
    have := h (k * s + j) u (by rw [he.flat_get l k j x hk hj]; exact hu)
    rw [← Nat.add_assoc] at this
    exact this⟩
theorem Enc.flat (he : Enc f s) {w : World} {l : List α} {A : Option Addr} (h : SlAt f s w A l) (hl : l ≠ []) : ∃ b off, A = some ⟨b, off, none⟩ ∧ b < w.heap.size ∧ ∀ j u, (l.flatMap f)[j]? = some u → w.cell? ((⟨b, off, none⟩ : Addr).add j) = some u := by
  obtain ⟨b, off, e, hb, hc⟩ := h hl
  refine ⟨b, off, e, hb, fun j u hu => ?_⟩
  have hadd : (⟨b, off, none⟩ : Addr).add j = ⟨b, off + j, none⟩ := by unfold Addr.add; split <;> simp_all
  rw [hadd]
  have hjl : j < l.length * s := by rw [← he.flat_length l]; exact (List.getElem?_eq_some_iff.1 hu).1
  have hs := he.pos
  have hk : j / s < l.length := by rw [Nat.div_lt_iff_lt_mul hs]; exact hjl
  have hr : j % s < s := Nat.mod_lt _ hs
  have hje : j / s * s + j % s = j := by rw [Nat.mul_comm]; exact Nat.div_add_mod j s
  have hx := List.getElem?_eq_getElem hk
  have h1 := he.flat_get l (j / s) (j % s) _ hx hr
  rw [hje, hu] at h1
  have h2 := hc (j / s) _ hx (j % s) u h1.symm
  rw [Nat.add_assoc, hje] at h2
  exact h2

/-- The slice value v, made by the call itself (its block is base or above), holds the list l. -/
def Own (f : α → List Value) (s : Nat) (e : TypeId) (base : Nat) (w : World) (v : Value) (l : List α) : Prop := w.ownsRow base e s v l.length (l.flatMap f)

variable {e : TypeId} {base : Nat} {w w' : World} {v : Value} {l : List α}
theorem Own.nil : Own f s e base w (.slice none 0 0) [] := World.ownsRow_nil w base e s
theorem Own.empty (hb : base ≤ w.heap.size) : Own f s e base (w.alloc (.cells #[] e)) (.slice (some ⟨w.heap.size, 0, none⟩) 0 0) ([] : List α) :=
  World.ownsRow_made w #[] 0 hb (by simp [maxLen]) (by simp)
theorem Own.belowGrown {w0 : World} {B : Nat} {w' : World} (h : Own f s e base w v l) (hb : Below B w0 w) (hg : w.grownBy w' v.ownBlock) (hB : B ≤ base) (hw : B ≤ w.heap.size) : Below B w0 w' :=
  hb.grown hg hw fun k hk => Nat.le_trans hB (World.ownsRow.lt h k hk).1
theorem Own.form (h : Own f s e base w v l) : (v = .slice none 0 0 ∧ l = []) ∨ ∃ g cap, v = .slice (some ⟨g, 0, none⟩) l.length cap ∧ base ≤ g ∧ g < w.heap.size ∧ l.length ≤ cap ∧ cap ≤ maxLen := by
  rcases h.2 with ⟨hv, h0⟩ | ⟨g, cap, cur, hv, hb, hg, hc, hm, _⟩
  · exact .inl ⟨hv, List.eq_nil_of_length_eq_zero h0⟩
  · exact .inr ⟨g, cap, hv, hb, (Array.getElem?_eq_some_iff.1 hg).1, hc, hm⟩
theorem Own.slAt (h : Own f s e base w v l) (he : Enc f s) : ∃ A c, v = .slice A l.length c ∧ l.length ≤ c ∧ c ≤ maxLen ∧ SlAt f s w A l := by
  rcases h.form with ⟨rfl, rfl⟩ | ⟨g, cap, rfl, hb, hg, hc, hm⟩
  · exact ⟨none, 0, rfl, by simp, by simp, SlAt.nil⟩
  · refine ⟨_, cap, rfl, hc, hm, he.slAt hg fun j u hu => ?_⟩
    have := h.cells (g := g) rfl j u hu
    have hadd : (⟨g, 0, none⟩ : Addr).add j = ⟨g, j, none⟩ := by unfold Addr.add; split <;> simp_all
    rw [hadd] at this
    simpa using this
theorem Own.at_ {A : Option Addr} {n c : Nat} (h : Own f s e base w (.slice A n c) l) (he : Enc f s) : n = l.length ∧ l.length ≤ c ∧ SlAt f s w A l := by
  obtain ⟨A', c', hv, hc, _, hs⟩ := h.slAt he
  injection hv with h1 h2 h3
  subst h1 h2 h3
  exact ⟨rfl, hc, hs⟩
theorem Own.isSome {A : Option Addr} {n c : Nat} (h : Own f s e base w (.slice A n c) l) (hl : l ≠ []) : ∃ g, A = some ⟨g, 0, none⟩ := by
  rcases h.form with ⟨_, h0⟩ | ⟨g, cap, hv, _⟩
  · exact absurd h0 hl
  · injection hv with h1
    exact ⟨g, h1⟩
theorem grown_below (hb : Below w.heap.size w w') (row : Option Nat) : w.grownBy w' row := ⟨hb.os, hb.tape, hb.output, hb.size, fun k hk _ => hb.block k hk⟩
theorem Own.below (h : Own f s e base w v l) (hb : Below w.heap.size w w') : Own f s e base w' v l :=
  World.ownsRow.kept h (grown_below hb none) (by cases v.ownBlock <;> simp)
theorem Own.mono {base' : Nat} (h : Own f s e base w v l) (hb : base' ≤ base) : Own f s e base' w v l := by
  refine ⟨h.1, ?_⟩
  rcases h.2 with h0 | ⟨g, cap, cur, hv, hg, rest⟩
  · exact .inl h0
  · exact .inr ⟨g, cap, cur, hv, Nat.le_trans hb hg, rest⟩
theorem Own.kept {row : Option Nat} (h : Own f s e base w v l) (hg : w.grownBy w' row) (hne : v.ownBlock = none ∨ v.ownBlock ≠ row) : Own f s e base w' v l := World.ownsRow.kept h hg hne
theorem grown_setCell (w : World) (p : Addr) (u : Value) : w.grownBy (w.setCell p u) (some p.block) :=
  ⟨rfl, rfl, rfl, by simp [World.setCell], fun k _ hk => Below.heap_setCell w p u k (fun e => hk (by rw [e]))⟩
theorem Own.far (h : Own f s e base w v l) {p : Addr} (hne : v.ownBlock ≠ some p.block) (u : Value) : Own f s e base (w.setCell p u) v l := h.kept (grown_setCell w p u) (.inr hne)
theorem Own.len {g cap n : Nat} (h : Own f s e base w (.slice (some ⟨g, 0, none⟩) n cap) l) : n = l.length := by
  rcases h.form with ⟨h0, _⟩ | ⟨g', cap', hv, _⟩
  · cases h0
  · injection hv
theorem Own.base_le {g cap n : Nat} (h : Own f s e base w (.slice (some ⟨g, 0, none⟩) n cap) l) : base ≤ g := by
  rcases h.form with ⟨h0, _⟩ | ⟨g', cap', hv, hb, _⟩
  · cases h0
  · injection hv with h1; injection h1 with h1; injection h1 with h1; rw [h1]; exact hb
theorem Own.lt {g cap n : Nat} (h : Own f s e base w (.slice (some ⟨g, 0, none⟩) n cap) l) : g < w.heap.size := by
  rcases h.form with ⟨h0, _⟩ | ⟨g', cap', hv, _, hb, _⟩
  · cases h0
  · injection hv with h1; injection h1 with h1; injection h1 with h1; rw [h1]; exact hb
theorem Own.cell {g cap n : Nat} (h : Own f s e base w (.slice (some ⟨g, 0, none⟩) n cap) l) (he : Enc f s) {k : Nat} {x : α} (hk : l[k]? = some x) {j : Nat} {u : Value} (hu : (f x)[j]? = some u) : w.cell? ⟨g, k * s + j, none⟩ = some u := by
  have hj : j < s := by rw [← he.len x]; exact (List.getElem?_eq_some_iff.1 hu).1
  have := World.ownsRow.cells h (g := g) rfl (k * s + j) u (by rw [he.flat_get l k j x hk hj]; exact hu)
  have hadd : (⟨g, 0, none⟩ : Addr).add (k * s + j) = ⟨g, k * s + j, none⟩ := by unfold Addr.add; split <;> simp_all
  rwa [hadd] at this
theorem Own.free {g cap n : Nat} (h : Own f s e base w (.slice (some ⟨g, 0, none⟩) n cap) l) (j : Nat) : w.frozen? ⟨g, j, none⟩ = false := by
  rcases h.2 with ⟨h0, _⟩ | ⟨g', cap', cur, hv, _, hg, _⟩
  · cases h0
  · injection hv with h1
    injection h1 with h1
    injection h1 with h1
    subst h1
    simp [World.frozen?, hg]
theorem Own.store {g cap n : Nat} (h : Own f s e base w (.slice (some ⟨g, 0, none⟩) n cap) l) (he : Enc f s) {k j : Nat} {x x' : α} {u : Value} (hk : l[k]? = some x) (hj : j < s) (hf : f x' = (f x).set j u) :
    Own f s e base (w.setCell ⟨g, k * s + j, none⟩ u) (.slice (some ⟨g, 0, none⟩) n cap) (l.set k x') := by
  have hn := h.len
  subst hn
  have := (World.ownsRow.stored h (k * s + j) u).1
  unfold Own
  rw [← he.flat_set l k j x x' u hk hj hf, List.length_set]
  exact this

theorem run_app {P : Program} {t ty : TypeId} {bytes : Nat} (he : Enc f s) (ht : ElemT P t e s bytes) (hown : Own f s e base w v l) (A : Option Addr) (c : Nat) (l2 : List α) (hsrc : SlAt f s w A l2)
    (hbytes : (l.length + l2.length) * bytes ≤ 140737488355328) (h63 : l.length + l2.length ≤ maxLen) (hbase : base ≤ w.heap.size) :
    ∃ v' w', (Builtin.append_ #[t, t] ty #[v, .slice A l2.length c]).run P w = .ok v' w' ∧ Own f s e base w' v' (l ++ l2) ∧ w.grownBy w' v.ownBlock ∧
      (v'.ownBlock = v.ownBlock ∨ v'.ownBlock = some w.heap.size) := by
  obtain ⟨hsl, i, z, hi, hz, hsize, hby, hzs⟩ := ht
  by_cases hl : l2 = []
  · subst hl
    refine ⟨v, w, ?_, by simpa using hown, World.grownBy.refl w _, .inl rfl⟩
    rcases hown.2 with ⟨rfl, h0⟩ | ⟨g, cap, cur, rfl, _, _, hnc, _⟩
    · cases A <;> simp [Builtin.append_, run_underlying hsl, sizeOf, typeInfo, hi, Builtin.lenOf, Builtin.firstCells, loadCells, loadCellsFrom]
    · cases A <;> simp [Builtin.append_, run_underlying hsl, sizeOf, typeInfo, hi, Builtin.lenOf, Builtin.firstCells, hnc, storeCells, loadCells, loadCellsFrom]
  · obtain ⟨b, off, rfl, hb, hc⟩ := he.flat hsrc hl
    obtain ⟨v', w', hrun, h2, h3, _, h5⟩ := run_append_own_at (P := P) w base t ty e i z s bytes hsl hi hz hsize hby hzs he.pos v l.length (l.flatMap f) hown ⟨b, off, none⟩ l2.length c (l2.flatMap f) (he.flat_length l2) hc (he.flat_one l2) h63 hbytes hbase
    refine ⟨v', w', hrun, ?_, h3, h5⟩
    unfold Own
    rw [List.length_append, List.flatMap_append]
    exact h2
theorem wpList_app {P : Program} {t : TypeId} {bytes : Nat} {ops : Array Oper} {rest : List Oper} {o : Oper} {a : Act} {Q : Exit → Act → World → Prop} (hgd : o.guard = none) (sl x : Operand)
    (ho : o.op = .call { callee := .builtin .append, args := #[sl, x], argTypes := #[t, t] }) (he : Enc f s) (ht : ElemT P t e s bytes) (hown : Own f s e base w v l) (A : Option Addr) (c : Nat) (l2 : List α) (hsrc : SlAt f s w A l2)
    (hs : a.eval sl = v) (hx : a.eval x = .slice A l2.length c)
    (hbytes : (l.length + l2.length) * bytes ≤ 140737488355328) (h63 : l.length + l2.length ≤ maxLen) (hbase : base ≤ w.heap.size)
    (h : ∀ v' w', Own f s e base w' v' (l ++ l2) → w.grownBy w' v.ownBlock → (v'.ownBlock = v.ownBlock ∨ v'.ownBlock = some w.heap.size) → wpList P ops Q rest (a.put o.dst v') w') : wpList P ops Q (o :: rest) a w :=
  wpList_plain hgd fun K hK => by
    obtain ⟨v', w', hrun, h2, h3, h4⟩ := run_app (P := P) (ty := o.type) he ht hown A c l2 hsrc hbytes h63 hbase
    unfold Oper.wp execOp
    simp only [ho, resolve, invoke, builtin, Sem.run_bind, Sem.run_pure, Result.andThen_ok, List.map_toArray, List.map_cons, List.map_nil, hs, hx, hrun]
    exact hK _ _ (h v' w' h2 h3 h4)
end
end Go.Proofs.YtjegncmkebbdfaaGreatDoor

namespace Go.Proofs.YtjegncmkebbdfaaGreatDoor
open Go.RowKit

def mapTo {α : Type} (F : α → α) (l : List α) (k : Nat) : List α := (l.take k).map F ++ l.drop k
section
variable {α : Type} {F : α → α} {l : List α} {k : Nat} {x : α}
theorem mapTo_zero : mapTo F l 0 = l := by simp [mapTo]
theorem mapTo_all : mapTo F l l.length = l.map F := by simp [mapTo]
theorem mapTo_length : (mapTo F l k).length = l.length := by simp [mapTo]; omega
theorem mapTo_get (hx : l[k]? = some x) : (mapTo F l k)[k]? = some x := by
  have hk := (List.getElem?_eq_some_iff.1 hx).1
  unfold mapTo
  rw [List.getElem?_append_right (by simp; omega)]
  simp
  have : k - min k l.length = 0 := by omega
  rw [this]; simpa using hx
theorem mapTo_set (hx : l[k]? = some x) : (mapTo F l k).set k (F x) = mapTo F l (k + 1) := by
  have hk := (List.getElem?_eq_some_iff.1 hx).1
  have hxe := (List.getElem?_eq_some_iff.1 hx).2
  unfold mapTo
  rw [List.set_append_right _ _ (by simp; omega)]
  have h1 : k - ((l.take k).map F).length = 0 := by simp; omega
  rw [h1, List.drop_eq_getElem_cons hk, hxe, List.set_cons_zero, List.take_add_one, hx]
  simp
theorem mapTo_same (hx : l[k]? = some x) (hf : F x = x) : mapTo F l (k + 1) = mapTo F l k := by
  rw [← mapTo_set hx, hf]
  apply List.ext_getElem?
  intro i
  by_cases hi : i = k
  · subst hi
    rw [List.getElem?_set_self (by rw [mapTo_length]; exact (List.getElem?_eq_some_iff.1 hx).1), mapTo_get hx]
  · rw [List.getElem?_set_ne (fun e => hi e.symm)]
end

theorem Own.empty_at {α : Type} {f : α → List Value} {s : Nat} {e : TypeId} {base : Nat} {w : World} {H : Nat} (hH : w.heap.size = H) (hb : base ≤ w.heap.size) : Own f s e base (w.alloc (.cells #[] e)) (.slice (some ⟨H, 0, none⟩) 0 0) ([] : List α) := by
  subst hH; exact Own.empty hb

theorem Own.of_heap {α : Type} {f : α → List Value} {s : Nat} {e : TypeId} {base : Nat} {w w' : World} {v : Value} {l : List α} (h : Own f s e base w v l) (hk : ∀ k, base ≤ k → w'.heap[k]? = w.heap[k]?) : Own f s e base w' v l := by
  refine ⟨h.1, ?_⟩
  rcases h.2 with h0 | ⟨g, cap, cur, hv, hg, hc, rest⟩
  · exact .inl h0
  · exact .inr ⟨g, cap, cur, hv, hg, (hk g hg).trans hc, rest⟩

/-! ### A block known whole -/
theorem blk_lt {w : World} {g : Nat} {o : Obj} (h : w.heap[g]? = some o) : g < w.heap.size := (Array.getElem?_eq_some_iff.1 h).1
theorem blk_below {w w' : World} {g : Nat} {o : Obj} (h : w.heap[g]? = some o) (hb : Below w.heap.size w w') : w'.heap[g]? = some o := (hb.block g (blk_lt h)).trans h
theorem heap_alloc_if (w : World) (o : Obj) (k : Nat) : (w.alloc o).heap[k]? = if k = w.heap.size then some o else w.heap[k]? := Array.getElem?_push
theorem blk_cell {w : World} {g : Nat} {cs : Array Value} {e : TypeId} {fr : Nat × Nat} (h : w.heap[g]? = some (.cells cs e fr)) (i : Nat) : w.cell? ⟨g, i, none⟩ = cs[i]? := cell_of_row w g i cs e fr h
theorem blk_free {w : World} {g : Nat} {cs : Array Value} {e : TypeId} (h : w.heap[g]? = some (.cells cs e (0, 0))) (i : Nat) : w.frozen? ⟨g, i, none⟩ = false := by simp [World.frozen?, h]
theorem blk_set {w : World} {g : Nat} {cs : Array Value} {e : TypeId} {fr : Nat × Nat} (h : w.heap[g]? = some (.cells cs e fr)) (i : Nat) (u : Value) : (w.setCell ⟨g, i, none⟩ u).heap[g]? = some (.cells (cs.setIfInBounds i u) e fr) := by
  simp [World.setCell, Array.getElem?_modify, h]
theorem blk_far {w : World} {k : Nat} {p : Addr} (hne : k ≠ p.block) (u : Value) : (w.setCell p u).heap[k]? = w.heap[k]? := Below.heap_setCell w p u k hne
theorem blk_slAt {α : Type} {f : α → List Value} {s : Nat} (he : Enc f s) {w : World} {g : Nat} {cs : Array Value} {e : TypeId} {fr : Nat × Nat} (h : w.heap[g]? = some (.cells cs e fr)) (l : List α) (hl : cs.toList = l.flatMap f) : SlAt f s w (some ⟨g, 0, none⟩) l :=
  he.slAt (blk_lt h) fun j u hu => by
    rw [Nat.zero_add, blk_cell h j, ← hu, ← hl]
    simp
end Go.Proofs.YtjegncmkebbdfaaGreatDoor

namespace Go.Proofs.YtjegncmkebbdfaaGreatDoor
open Go.RowKit

/-- w is b, some steps later: what lay in b lies in w unchanged. -/
abbrev Later (b w : World) : Prop := Nonempty (Below b.heap.size b w)
section
variable {b w w' : World}
theorem Later.below (h : Later b w) : Below b.heap.size b w := by obtain ⟨x⟩ := h; exact x
instance Later.refl : Later w w := ⟨Below.refl _ _⟩
instance Later.drew [h : Later b w] : Later b w.drew := ⟨h.below.drew⟩
instance Later.drewN {n : Nat} [h : Later b w] : Later b (w.drewN n) := ⟨below_drewN h.below n⟩
instance Later.alloc {o : Obj} [h : Later b w] : Later b (w.alloc o) := ⟨h.below.alloc h.below.size o⟩
instance Later.after {u : After w} [h : Later b w] : Later b u.val := ⟨h.below.trans (u.below.mono h.below.size)⟩
theorem later {W : World} (h : Below W.heap.size W w') : ∀ b [Later b W], Later b w' := fun _ i => ⟨i.below.trans (h.mono i.below.size)⟩
theorem Later.trans {c : World} (h : Later b w) (k : Later w c) : Later b c := ⟨h.below.trans (k.below.mono h.below.size)⟩
theorem Later.cell {a : Addr} {v : Value} (h : b.cell? a = some v) : ∀ u [Later b u], u.cell? a = some v := fun _ i => cell_below h i.below
theorem Later.slAt {α : Type} {f : α → List Value} {s : Nat} {A : Option Addr} {l : List α} (h : SlAt f s b A l) : ∀ u [Later b u], SlAt f s u A l := fun _ i => h.below i.below
theorem below_of [h : Later b w] : Below b.heap.size b w := h.below
/-- A store into a block that b does not have. -/
theorem Later.set {p : Addr} (hp : b.heap.size ≤ p.block) (v : Value) [h : Later b w] : Later b (w.setCell p v) := ⟨h.below.setCell hp v⟩
end
theorem calls_name {P : Program} {f : FuncId} {args : Array Value} {W : World} {Q : Ending → World → Prop} (h : ∀ w0, W = w0 → Calls P f args w0 Q) : Calls P f args W Q := h W rfl

/-! ### Boxes -/
/-- In each world behind w0 the block g reads as c, and may be written. -/
abbrev Boxed (w0 : World) (g : Nat) (c : Array Value) (t : TypeId) : Prop := ∀ (u : World) [Later w0 u], u.heap[g]? = some (.cells c t (0, 0)) ∧ ∀ (i : Nat), u.cell? ⟨g, i, none⟩ = c[i]? ∧ u.frozen? ⟨g, i, none⟩ = false
section
variable {w w0 w' u : World} {g : Nat} {c c0 c1 c2 c3 c4 c5 c6 : Array Value} {t t0 t1 t2 t3 t4 t5 t6 : TypeId}
theorem boxed (h : w0.heap[g]? = some (.cells c t (0, 0))) : Boxed w0 g c t := fun u i => by
  have e := blk_below h i.below
  exact ⟨e, fun j => ⟨blk_cell e j, blk_free e j⟩⟩
theorem boxed_at {w1 : World} (e : w.alloc (.cells c t) = w1) (h : Later w1 w0) : Boxed w0 w.heap.size c t :=
  boxed (blk_below (by rw [← e, heap_alloc_if, if_pos rfl]) h.below)
/-- A store into a block that is known: it is known behind it. -/
theorem boxed_set (h : Boxed w0 g c t) [Later w0 u] {i : Nat} {v : Value} (e : u.setCell ⟨g, i, none⟩ v = w') : Boxed w' g (c.setIfInBounds i v) t :=
  boxed (by rw [← e]; exact blk_set (h u).1 i v)
theorem boxed_set2 (h : Boxed w0 g c t) [Later w0 u] {i j : Nat} {v v' : Value} (e : (u.setCell ⟨g, i, none⟩ v).setCell ⟨g, j, none⟩ v' = w') : Boxed w' g ((c.setIfInBounds i v).setIfInBounds j v') t :=
  boxed (by rw [← e]; exact blk_set (blk_set (h u).1 i v) j v')
/-- A store into another block. -/
theorem boxed_far (h : Boxed w0 g c t) [Later w0 u] {p : Addr} {v : Value} (hp : g ≠ p.block) (e : u.setCell p v = w') : Boxed w' g c t :=
  boxed (by rw [← e]; exact (blk_far hp v).trans (h u).1)
theorem boxed_far2 (h : Boxed w0 g c t) [Later w0 u] {p q : Addr} {v v' : Value} (hp : g ≠ p.block) (hq : g ≠ q.block) (e : (u.setCell p v).setCell q v' = w') : Boxed w' g c t :=
  boxed (by rw [← e]; exact (blk_far hq v').trans ((blk_far hp v).trans (h u).1))
theorem boxed_lt (h : Boxed w0 g c t) : g < w0.heap.size := blk_lt (h w0).1
theorem later_set {W : World} [h : Later W u] {i : Nat} {v : Value} (e : u.setCell ⟨W.heap.size, i, none⟩ v = w') : ∀ b [Later b W], Later b w' := fun b k => by
  have := (k.trans h).below
  exact ⟨by rw [← e]; exact this.setCell k.below.size v⟩
theorem later_set2 {W : World} [h : Later W u] {i j : Nat} {v v' : Value} (e : (u.setCell ⟨W.heap.size, i, none⟩ v).setCell ⟨W.heap.size, j, none⟩ v' = w') : ∀ b [Later b W], Later b w' := fun b k => by
  have := (k.trans h).below
  exact ⟨by rw [← e]; exact (this.setCell k.below.size v).setCell k.below.size v'⟩
theorem box1 (h : w.alloc (.cells c0 t0) = w0) : Boxed w0 w.heap.size c0 t0 ∧ (∀ b [Later b w], Later b w0) :=
  ⟨boxed_at h Later.refl, fun _ _ => h ▸ inferInstance⟩
theorem box2 (h : (w.alloc (.cells c0 t0)).alloc (.cells c1 t1) = w0) : Boxed w0 w.heap.size c0 t0 ∧ Boxed w0 (w.heap.size + 1) c1 t1 ∧ (∀ b [Later b w], Later b w0) := by
  obtain ⟨w1, h1⟩ : ∃ w1, w.alloc (.cells c0 t0) = w1 := ⟨_, rfl⟩
  have e : w1.heap.size = w.heap.size + 1 := by rw [← h1]; simp
  rw [h1] at h
  obtain ⟨b, l⟩ := box1 h
  rw [e] at b
  have l1 : ∀ b [Later b w], Later b w1 := (box1 h1).2
  exact ⟨boxed_at h1 (l _), b, fun b _ => (l1 b).trans (l w1)⟩
theorem box3 (h : ((w.alloc (.cells c0 t0)).alloc (.cells c1 t1)).alloc (.cells c2 t2) = w0) : Boxed w0 w.heap.size c0 t0 ∧ Boxed w0 (w.heap.size + 1) c1 t1 ∧ Boxed w0 (w.heap.size + 1 + 1) c2 t2 ∧ (∀ b [Later b w], Later b w0) := by
  obtain ⟨w1, h1⟩ : ∃ w1, w.alloc (.cells c0 t0) = w1 := ⟨_, rfl⟩
  have e : w1.heap.size = w.heap.size + 1 := by rw [← h1]; simp
  rw [h1] at h
  obtain ⟨b, b', l⟩ := box2 h
  rw [e] at b b'
  have l1 : ∀ b [Later b w], Later b w1 := (box1 h1).2
  exact ⟨boxed_at h1 (l _), b, b', fun b _ => (l1 b).trans (l w1)⟩
theorem box4 (h : (((w.alloc (.cells c0 t0)).alloc (.cells c1 t1)).alloc (.cells c2 t2)).alloc (.cells c3 t3) = w0) : Boxed w0 w.heap.size c0 t0 ∧ Boxed w0 (w.heap.size + 1) c1 t1 ∧ Boxed w0 (w.heap.size + 1 + 1) c2 t2 ∧ Boxed w0 (w.heap.size + 1 + 1 + 1) c3 t3 ∧ (∀ b [Later b w], Later b w0) := by
  obtain ⟨w1, h1⟩ : ∃ w1, w.alloc (.cells c0 t0) = w1 := ⟨_, rfl⟩
  have e : w1.heap.size = w.heap.size + 1 := by rw [← h1]; simp
  rw [h1] at h
  obtain ⟨b, b', b'', l⟩ := box3 h
  rw [e] at b b' b''
  have l1 : ∀ b [Later b w], Later b w1 := (box1 h1).2
  exact ⟨boxed_at h1 (l _), b, b', b'', fun b _ => (l1 b).trans (l w1)⟩
theorem box5 (h : ((((w.alloc (.cells c0 t0)).alloc (.cells c1 t1)).alloc (.cells c2 t2)).alloc (.cells c3 t3)).alloc (.cells c4 t4) = w0) : Boxed w0 w.heap.size c0 t0 ∧ Boxed w0 (w.heap.size + 1) c1 t1 ∧ Boxed w0 (w.heap.size + 1 + 1) c2 t2 ∧ Boxed w0 (w.heap.size + 1 + 1 + 1) c3 t3 ∧ Boxed w0 (w.heap.size + 1 + 1 + 1 + 1) c4 t4 ∧ (∀ b [Later b w], Later b w0) := by
  obtain ⟨w1, h1⟩ : ∃ w1, w.alloc (.cells c0 t0) = w1 := ⟨_, rfl⟩
  have e : w1.heap.size = w.heap.size + 1 := by rw [← h1]; simp
  rw [h1] at h
  obtain ⟨b, b', b'', b3, l⟩ := box4 h
  rw [e] at b b' b'' b3
  have l1 : ∀ b [Later b w], Later b w1 := (box1 h1).2
  exact ⟨boxed_at h1 (l _), b, b', b'', b3, fun b _ => (l1 b).trans (l w1)⟩
theorem Own.set {α : Type} {f : α → List Value} {s : Nat} {e : TypeId} {base : Nat} {v : Value} {l : List α} (h : Own f s e base w v l) {p : Addr} (hp : p.block < base) (x : Value) : Own f s e base (w.setCell p x) v l :=
  h.of_heap fun k hk => blk_far (by omega) x
theorem Own.set2 {α : Type} {f : α → List Value} {s : Nat} {e : TypeId} {base : Nat} {v : Value} {l : List α} (h : Own f s e base w v l) {p q : Addr} {x y : Value} (E : (w.setCell p x).setCell q y = w') (hp : p.block < base) (hq : q.block < base) : Own f s e base w' v l :=
  E ▸ (h.set hp x).set hq y
theorem SlAt.later {α : Type} {f : α → List Value} {s : Nat} {A : Option Addr} {l : List α} (h : SlAt f s w A l) : ∀ u [Later w u], SlAt f s u A l := fun _ i => h.below i.below
end
end Go.Proofs.YtjegncmkebbdfaaGreatDoor

namespace Go.Proofs.YtjegncmkebbdfaaGreatDoor
open Go.RowKit
section
variable {b w w' u W : World}
theorem later_put {p : Addr} {v : Value} [h : Later W u] (hp : W.heap.size ≤ p.block) (e : u.setCell p v = w') : ∀ b [Later b W], Later b w' := fun b k => by
  have hs := k.below.size
  exact ⟨by rw [← e]; exact (k.trans h).below.setCell (by omega) v⟩
theorem later_put2 {p q : Addr} {v v' : Value} [h : Later W u] (hp : W.heap.size ≤ p.block) (hq : W.heap.size ≤ q.block) (e : (u.setCell p v).setCell q v' = w') : ∀ b [Later b W], Later b w' := fun b k => by
  have hs := k.below.size
  exact ⟨by rw [← e]; exact ((k.trans h).below.setCell (by omega) v).setCell (by omega) v'⟩
theorem later_put3 {p q r : Addr} {v v' v'' : Value} [h : Later W u] (hp : W.heap.size ≤ p.block) (hq : W.heap.size ≤ q.block) (hr : W.heap.size ≤ r.block) (e : ((u.setCell p v).setCell q v').setCell r v'' = w') : ∀ b [Later b W], Later b w' := fun b k => by
  have hs := k.below.size
  exact ⟨by rw [← e]; exact (((k.trans h).below.setCell (by omega) v).setCell (by omega) v').setCell (by omega) v''⟩
theorem boxed_set3 {w0 : World} {g : Nat} {c : Array Value} {t : TypeId} (h : Boxed w0 g c t) [Later w0 u] {i j k : Nat} {v v' v'' : Value} (e : ((u.setCell ⟨g, i, none⟩ v).setCell ⟨g, j, none⟩ v').setCell ⟨g, k, none⟩ v'' = w') : Boxed w' g (((c.setIfInBounds i v).setIfInBounds j v').setIfInBounds k v'') t :=
  boxed (by rw [← e]; exact blk_set (blk_set (blk_set (h u).1 i v) j v') k v'')
theorem boxed_later {w0 w1 : World} {g : Nat} {c : Array Value} {t : TypeId} (h : Boxed w0 g c t) [Later w0 w1] : Boxed w1 g c t := boxed (h w1).1
/-- What a world's name stands for is later than what its parts are later than. -/
theorem later_name {W0 : World} (e : W0 = w') [h : Later b W0] : Later b w' := e ▸ h
theorem later_name' {W0 : World} (e : W0 = w') (h : Later W W0) : ∀ b [Later b W], Later b w' := fun b k => e ▸ (k.trans h)
end
end Go.Proofs.YtjegncmkebbdfaaGreatDoor

namespace Go.Proofs.YtjegncmkebbdfaaGreatDoor
open Go.RowKit
section
variable {α : Type} {f : α → List Value} {s : Nat} {e : TypeId} {P : Program} {t : TypeId} {bytes : Nat} {ops : Array Oper} {rest : List Oper} {o : Oper} {a : Act} {Q : Exit → Act → World → Prop}
/-- append([]T{}, xs...) -/
theorem wpList_appE {w : World} (hgd : o.guard = none) (sl x : Operand) (ho : o.op = .call { callee := .builtin .append, args := #[sl, x], argTypes := #[t, t] }) (he : Enc f s) (ht : ElemT P t e s bytes) (A : Option Addr) (c : Nat) (l : List α)
    (hs : a.eval sl = .slice (some ⟨w.heap.size, 0, none⟩) 0 0) (hx : a.eval x = .slice A l.length c) (hsrc : SlAt f s w A l) (hbytes : l.length * bytes ≤ 140737488355328) (h63 : l.length ≤ maxLen)
    (h : ∀ A' c' w', Own f s e w.heap.size w' (.slice A' l.length c') l → c' ≤ maxLen → Below w.heap.size w w' → wpList P ops Q rest (a.put o.dst (.slice A' l.length c')) w') : wpList P ops Q (o :: rest) a (w.alloc (.cells #[] e)) := by
  have hown : Own f s e w.heap.size (w.alloc (.cells #[] e)) (.slice (some ⟨w.heap.size, 0, none⟩) 0 0) ([] : List α) := Own.empty (Nat.le_refl _)
  have hb : Below w.heap.size w (w.alloc (.cells #[] e)) := (Below.refl _ _).alloc (Nat.le_refl _) _
  refine wpList_app hgd sl x ho he ht hown A c l (hsrc.below hb) hs hx (by simpa using hbytes) (by simpa using h63) (by simp) ?_
  intro v' w' h1 h2 h3
  have h1' : Own f s e w.heap.size w' v' l := by simpa using h1
  obtain ⟨A', c', rfl, _, hm, _⟩ := h1'.slAt he
  exact h A' c' w' h1' hm (hown.belowGrown hb h2 (Nat.le_refl _) (by simp))
/-- append(xs, y), xs the call's own -/
theorem wpList_app1 {w : World} {C : Array Value} {v : Value} {l : List α} {base : Nat} (hgd : o.guard = none) (sl x : Operand) (ho : o.op = .call { callee := .builtin .append, args := #[sl, x], argTypes := #[t, t] }) (he : Enc f s) (ht : ElemT P t e s bytes) (y : α) {H : Nat}
    (hs : a.eval sl = v) (hx : a.eval x = .slice (some ⟨H, 0, none⟩) 1 1) (hH : w.heap.size = H) (hown : Own f s e base w v l) (hc : C.toList = f y) (hbytes : (l.length + 1) * bytes ≤ 140737488355328) (h63 : l.length + 1 ≤ maxLen) (hbase : base ≤ w.heap.size)
    (h : ∀ A' c' w', Own f s e base w' (.slice A' (l.length + 1) c') (l ++ [y]) → c' ≤ maxLen → Below base w w' → w.grownBy w' v.ownBlock → ((Value.slice A' (l.length + 1) c').ownBlock = v.ownBlock ∨ ∃ g, w.heap.size ≤ g ∧ (Value.slice A' (l.length + 1) c').ownBlock = some g) → wpList P ops Q rest (a.put o.dst (.slice A' (l.length + 1) c')) w') : wpList P ops Q (o :: rest) a (w.alloc (.cells C e)) := by
  subst hH
  have hb : Below w.heap.size w (w.alloc (.cells C e)) := (Below.refl _ _).alloc (Nat.le_refl _) _
  have hsrc : SlAt f s (w.alloc (.cells C e)) (some ⟨w.heap.size, 0, none⟩) [y] := blk_slAt he (fr := (0, 0)) (heap_alloc_new w _) [y] (by simpa using hc)
  refine wpList_app hgd sl x ho he ht (hown.below hb) _ 1 [y] hsrc hs hx (by simpa using hbytes) (by simpa using h63) (by simp; omega) ?_
  intro v' w' h1 h2 h3
  obtain ⟨A', c', rfl, _, hm, _⟩ := h1.slAt he
  rw [List.length_append, List.length_singleton] at h1 h3 ⊢
  refine h A' c' w' h1 hm ((hown.below hb).belowGrown (hb.mono hbase) h2 (Nat.le_refl _) (by simp; omega)) ?_ ?_
  · exact (World.grownBy_alloc w (.cells C e) v.ownBlock).trans h2
  · rcases h3 with h3 | h3
    · exact .inl h3
    · exact .inr ⟨(w.alloc (.cells C e)).heap.size, by simp, h3⟩
/-- append(xs, ys...), xs the call's own -/
theorem wpList_appN {w : World} {v : Value} {l : List α} {base : Nat} (hgd : o.guard = none) (sl x : Operand) (ho : o.op = .call { callee := .builtin .append, args := #[sl, x], argTypes := #[t, t] }) (he : Enc f s) (ht : ElemT P t e s bytes) (A : Option Addr) (c : Nat) (l2 : List α)
    (hs : a.eval sl = v) (hx : a.eval x = .slice A l2.length c) (hown : Own f s e base w v l) (hsrc : SlAt f s w A l2) (hbytes : (l.length + l2.length) * bytes ≤ 140737488355328) (h63 : l.length + l2.length ≤ maxLen) (hbase : base ≤ w.heap.size)
    (h : ∀ A' c' w', Own f s e base w' (.slice A' (l.length + l2.length) c') (l ++ l2) → c' ≤ maxLen → Below base w w' → w.grownBy w' v.ownBlock → ((Value.slice A' (l.length + l2.length) c').ownBlock = v.ownBlock ∨ ∃ g, w.heap.size ≤ g ∧ (Value.slice A' (l.length + l2.length) c').ownBlock = some g) → wpList P ops Q rest (a.put o.dst (.slice A' (l.length + l2.length) c')) w') : wpList P ops Q (o :: rest) a w := by
  refine wpList_app hgd sl x ho he ht hown A c l2 hsrc hs hx hbytes h63 hbase ?_
  intro v' w' h1 h2 h3
  obtain ⟨A', c', rfl, _, hm, _⟩ := h1.slAt he
  rw [List.length_append] at h1 h3 ⊢
  exact h A' c' w' h1 hm (hown.belowGrown (Below.refl _ _) h2 (Nat.le_refl _) hbase) h2 (h3.imp id fun e => ⟨_, Nat.le_refl _, e⟩)
end
/-- Two slice values that do not share a block. -/
def Apart (v v' : Value) : Prop := ∀ g, v.ownBlock = some g → v'.ownBlock ≠ some g
theorem Apart.nil {v : Value} : Apart (.slice none 0 0) v := fun g h => by cases h
theorem Apart.symm {v v' : Value} (h : Apart v v') : Apart v' v := fun g h1 h2 => h g h2 h1
/-- One of two has grown: they stay apart, and the other stays what it was. -/
theorem Apart.grown {α : Type} {f : α → List Value} {s : Nat} {e : TypeId} {base : Nat} {w w' : World} {v v' u : Value} {l : List α} (h : Apart v u) (hu : Own f s e base w u l) (hg : w.grownBy w' v.ownBlock) (hat : v'.ownBlock = v.ownBlock ∨ ∃ g, w.heap.size ≤ g ∧ v'.ownBlock = some g) :
    Apart v' u ∧ Own f s e base w' u l := by
  refine ⟨fun g h1 h2 => ?_, hu.kept hg ?_⟩
  · rcases hat with e1 | ⟨g', hg', e1⟩
    · exact h g (e1 ▸ h1) h2
    · rw [e1] at h1; injection h1 with h1; subst h1
      have := (World.ownsRow.lt hu g' h2).2
      omega
  · cases hv : u.ownBlock with
    | none => exact .inl rfl
    | some g => exact .inr fun e1 => h g e1.symm hv
/-- What lies below a bound and was known stays known where only blocks from that bound on change. -/
theorem later_from {B : Nat} {w w' : World} (h : Below B w w') : ∀ (b : World) (_ : b.heap.size ≤ B) [Later b w], Later b w' := fun b hb i => ⟨i.below.trans (h.mono hb)⟩
/-- .. for all worlds before the one whose size the bound is. -/
theorem later_base {W w w' : World} (h : Below W.heap.size w w') [k : Later W w] : ∀ b [Later b W], Later b w' := fun b i => ⟨(i.trans k).below.trans (h.mono i.below.size)⟩
theorem Own.later {α : Type} {f : α → List Value} {s : Nat} {e : TypeId} {base : Nat} {w : World} {v : Value} {l : List α} (h : Own f s e base w v l) : ∀ u [Later w u], Own f s e base u v l := fun _ i => h.below i.below
end Go.Proofs.YtjegncmkebbdfaaGreatDoor

namespace Go.Proofs.YtjegncmkebbdfaaGreatDoor
open Go.RowKit
section
variable {α : Type} {f : α → List Value} {s : Nat} {e : TypeId} {base : Nat} {w w' : World} {A : Option Addr} {l : List α} {v : Value}
theorem SlAt.take (h : SlAt f s w A l) (i : Nat) : SlAt f s w A (l.take i) := fun hl => by
  obtain ⟨b, off, e, hlt, hc⟩ := h (by rintro rfl; simp at hl)
  refine ⟨b, off, e, hlt, fun k x hk j u hu => hc k x ?_ j u hu⟩
  rw [List.getElem?_take] at hk
  split at hk
  · exact hk
  · cases hk
theorem SlAt.drop {b off : Nat} (h : SlAt f s w (some ⟨b, off, none⟩) l) (i : Nat) : SlAt f s w (some ⟨b, off + i * s, none⟩) (l.drop i) := fun hl => by
  obtain ⟨b', off', e, hlt, hc⟩ := h (by rintro rfl; simp at hl)
  injection e with e; injection e with e1 e2
  subst e1 e2
  refine ⟨b, off + i * s, rfl, hlt, fun k x hk j u hu => ?_⟩
  rw [List.getElem?_drop] at hk
  have := hc (i + k) x hk j u hu
  rw [Nat.add_mul] at this
  rw [show off + i * s + k * s + j = off + (i * s + k * s) + j by omega]
  exact this
theorem heap_drew (w : World) : w.drew.heap = w.heap := rfl
/-- An empty slice of the call's own, by its block. -/
theorem Own.empty_blk {g : Nat} (hb : base ≤ g) (h : w.heap[g]? = some (.cells #[] e (0, 0))) : Own f s e base w (.slice (some ⟨g, 0, none⟩) 0 0) ([] : List α) := by
  refine ⟨by simp, .inr ⟨g, 0, #[], rfl, hb, h, ?_⟩⟩
  simp [maxLen]
/-- append, as one step of a region that draws its order. -/
theorem step_app {P : Program} {t : TypeId} {bytes : Nat} {ops : Array Oper} {o : Oper} {a : Act} {K : Act → World → Prop} {Q : Exit → Act → World → Prop} {E : Prop} {m n : Nat} (hgd : o.guard = none) (sl x : Operand)
    (ho : o.op = .call { callee := .builtin .append, args := #[sl, x], argTypes := #[t, t] }) (he : Enc f s) (ht : ElemT P t e s bytes) (A : Option Addr) (c : Nat) (l2 : List α) (l : List α) (v : Value)
    (hs : a.eval sl = v) (hx : a.eval x = .slice A m c) (hm : l2.length = m) (hn : l.length + m = n) (hown : Own f s e base w v l) (hsrc : SlAt f s w A l2)
    (hbytes : n * bytes ≤ 140737488355328) (h63 : n ≤ maxLen) (hbase : base ≤ w.heap.size)
    (h : ∀ A' c' w', Own f s e base w' (.slice A' n c') (l ++ l2) → c' ≤ maxLen → Below base w w' → w.grownBy w' v.ownBlock → K (a.put o.dst (.slice A' n c')) w') :
    if Region.wanted o (yielded ops a.tmps) = true then Oper.wp P o a w K Q else E := by
  have hw : Region.wanted o (yielded ops a.tmps) = true := by simp [Region.wanted, hgd]
  rw [if_pos hw]
  subst hm hn
  obtain ⟨v', w', hrun, h2, h3, h4⟩ := run_app (P := P) (ty := o.type) he ht hown A c l2 hsrc hbytes h63 hbase
  unfold Oper.wp execOp
  simp only [ho, resolve, invoke, builtin, Sem.run_bind, Sem.run_pure, Result.andThen_ok, List.map_toArray, List.map_cons, List.map_nil, hs, hx, hrun]
  obtain ⟨A', c', rfl, _, hm, _⟩ := h2.slAt he
  rw [List.length_append] at h2 ⊢
  exact h A' c' w' h2 hm (hown.belowGrown (Below.refl _ _) h3 (Nat.le_refl _) hbase) h3
end
/-- The slice v has become v': other blocks stayed, and v' lies where v lay or in a new block. -/
def Step (w w' : World) (v v' : Value) : Prop := w.grownBy w' v.ownBlock ∧ (v'.ownBlock = v.ownBlock ∨ ∃ g, w.heap.size ≤ g ∧ v'.ownBlock = some g)
section
variable {w w' w'' : World} {v v' v'' : Value}
theorem Step.refl : Step w w v v := ⟨World.grownBy.refl w _, .inl rfl⟩
theorem Step.size (h : Step w w' v v') : w.heap.size ≤ w'.heap.size := by obtain ⟨⟨_, _, _, h, _⟩, _⟩ := h; exact h
theorem Step.block (h : Step w w' v v') {k : Nat} (hk : k < w.heap.size) (hne : v.ownBlock ≠ some k) : w'.heap[k]? = w.heap[k]? ∧ v'.ownBlock ≠ some k := by
  obtain ⟨⟨_, _, _, _, hg⟩, ha⟩ := h
  refine ⟨hg k hk (fun e => hne e.symm), ?_⟩
  rcases ha with ha | ⟨g, hge, ha⟩
  · rw [ha]; exact hne
  · rw [ha]; intro e; injection e with e; omega
theorem Step.trans (h : Step w w' v v') (k : Step w' w'' v' v'') : Step w w'' v v'' := by
  have hs := h.size
  have ks := k.size
  obtain ⟨⟨a, b, c, d, hg⟩, ha⟩ := id h
  obtain ⟨⟨a', b', c', d', kg⟩, ka⟩ := id k
  refine ⟨⟨a'.trans a, b'.trans b, c'.trans c, by omega, fun j hj hne => ?_⟩, ?_⟩
  · have := h.block hj (fun e => hne e.symm)
    exact (k.block (by omega) this.2).1.trans this.1
  · rcases ka with ka | ⟨g, hge, ka⟩
    · rw [ka]; exact ha
    · exact .inr ⟨g, by omega, ka⟩
theorem Step.drew (h : Step w w' v v') : Step w w'.drew v v' := by
  obtain ⟨⟨a, b, c, d, e⟩, f⟩ := h
  exact ⟨⟨a, b, c, d, e⟩, f⟩
/-- A block known whole, that is not the slice's. -/
theorem Step.boxed (h : Step w w' v v') {g : Nat} {c : Array Value} {t : TypeId} (hb : w.heap[g]? = some (.cells c t (0, 0))) (hne : v.ownBlock ≠ some g) : w'.heap[g]? = some (.cells c t (0, 0)) ∧ v'.ownBlock ≠ some g := by
  have := h.block (blk_lt hb) hne
  exact ⟨this.1.trans hb, this.2⟩
theorem Step.of_below (hb : Below w.heap.size w w') : Step w w' v v := ⟨grown_below hb _, .inl rfl⟩
end
end Go.Proofs.YtjegncmkebbdfaaGreatDoor

namespace Go.Proofs.YtjegncmkebbdfaaGreatDoor
/-- Two lists, element by element. -/
theorem eq_to {α : Type} {a b : List α} (hl : a.length = b.length) (h : ∀ (j : Nat) (x y : α), a[j]? = some x → b[j]? = some y → x = y) : a = b := by
  apply List.ext_getElem?
  intro i
  rcases Nat.lt_or_ge i a.length with hi | hi
  · rw [List.getElem?_eq_getElem hi, List.getElem?_eq_getElem (by omega)]
    exact congrArg some (h i _ _ (List.getElem?_eq_getElem hi) (List.getElem?_eq_getElem (by omega)))
  · rw [List.getElem?_eq_none hi, List.getElem?_eq_none (by omega)]
theorem take_snoc_get {α : Type} {l : List α} {k : Nat} {x : α} (h : l[k]? = some x) : l.take (k + 1) = l.take k ++ [x] := by rw [List.take_add_one, h]; rfl
end Go.Proofs.YtjegncmkebbdfaaGreatDoor
