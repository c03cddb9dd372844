/-
  Appends onto slices that the call made itself, in later worlds. Conditions stand in each theorem.
-/
import Derived.Test.YtnfpbkimdhhmfaaLater2
namespace Go.Proofs.Ytnfpbkimdhhmfaa
open Go.RowKit
section
variable {α : Type} {f : α → List Value} {s : Nat} {e : TypeId} {P : Program} {t : TypeId} {bytes : Nat} {ops : Array Oper} {rest : List Oper} {o : Oper} {a : Act} {Q : Exit → Act → World → Prop}
/-- append([]T{}, xs...) -/
theorem wpList_appE {w : World} (hgd : o.guard = none) (sl x : Operand) (ho : o.op = .call { callee := .builtin .append, args := #[sl, x], argTypes := #[t, t] }) (he : Enc f s) (ht : ElemT P t e s bytes) (A : Option Addr) (c : Nat) (l : List α)
    (hs : a.eval sl = .slice (some ⟨w.heap.size, 0, none⟩) 0 0) (hx : a.eval x = .slice A l.length c) (hsrc : SlAt f s w A l) (hbytes : l.length * bytes ≤ 140737488355328) (h63 : l.length ≤ maxLen)
    (h : ∀ A' c' w', Own f s e w.heap.size w' (.slice A' l.length c') l → c' ≤ maxLen → Below w.heap.size w w' → wpList P ops Q rest (a.put o.dst (.slice A' l.length c')) w') : wpList P ops Q (o :: rest) a (w.alloc (.cells #[] e)) := by
  have hown : Own f s e w.heap.size (w.alloc (.cells #[] e)) (.slice (some ⟨w.heap.size, 0, none⟩) 0 0) ([] : List α) := Own.empty (Nat.le_refl _)
  have hb : Below w.heap.size w (w.alloc (.cells #[] e)) := (Below.refl _ _).alloc (Nat.le_refl _) _
  refine wpList_app hgd sl x ho he ht hown A c l (hsrc.below hb) hs hx (by simpa using hbytes) (by simpa using h63) (by simp) ?_
  intro v' w' h1 h2 h3
  have h1' : Own f s e w.heap.size w' v' l := by simpa using h1
  obtain ⟨A', c', rfl, _, hm, _⟩ := h1'.slAt he
  exact h A' c' w' h1' hm (hown.belowGrown hb h2 (Nat.le_refl _) (by simp))
/-- append(xs, y), xs the call's own -/
theorem wpList_app1 {w : World} {C : Array Value} {v : Value} {l : List α} {base : Nat} (hgd : o.guard = none) (sl x : Operand) (ho : o.op = .call { callee := .builtin .append, args := #[sl, x], argTypes := #[t, t] }) (he : Enc f s) (ht : ElemT P t e s bytes) (y : α) {H : Nat}
    (hs : a.eval sl = v) (hx : a.eval x = .slice (some ⟨H, 0, none⟩) 1 1) (hH : w.heap.size = H) (hown : Own f s e base w v l) (hc : C.toList = f y) (hbytes : (l.length + 1) * bytes ≤ 140737488355328) (h63 : l.length + 1 ≤ maxLen) (hbase : base ≤ w.heap.size)
    (h : ∀ A' c' w', Own f s e base w' (.slice A' (l.length + 1) c') (l ++ [y]) → c' ≤ maxLen → Below base w w' → w.grownBy w' v.ownBlock → ((Value.slice A' (l.length + 1) c').ownBlock = v.ownBlock ∨ ∃ g, w.heap.size ≤ g ∧ (Value.slice A' (l.length + 1) c').ownBlock = some g) → wpList P ops Q rest (a.put o.dst (.slice A' (l.length + 1) c')) w') : wpList P ops Q (o :: rest) a (w.alloc (.cells C e)) := by
  subst hH
  have hb : Below w.heap.size w (w.alloc (.cells C e)) := (Below.refl _ _).alloc (Nat.le_refl _) _
  have hsrc : SlAt f s (w.alloc (.cells C e)) (some ⟨w.heap.size, 0, none⟩) [y] := blk_slAt he (fr := (0, 0)) (heap_alloc_new w _) [y] (by simpa using hc)
  refine wpList_app hgd sl x ho he ht (hown.below hb) _ 1 [y] hsrc hs hx (by simpa using hbytes) (by simpa using h63) (by simp; omega) ?_
  intro v' w' h1 h2 h3
  obtain ⟨A', c', rfl, _, hm, _⟩ := h1.slAt he
  rw [List.length_append, List.length_singleton] at h1 h3 ⊢
  refine h A' c' w' h1 hm ((hown.below hb).belowGrown (hb.mono hbase) h2 (Nat.le_refl _) (by simp; omega)) ?_ ?_
  · exact (World.grownBy_alloc w (.cells C e) v.ownBlock).trans h2
  · rcases h3 with h3 | h3
    · exact .inl h3
    · exact .inr ⟨(w.alloc (.cells C e)).heap.size, by simp, h3⟩
/-- append(xs, ys...), xs the call's own -/
theorem wpList_appN {w : World} {v : Value} {l : List α} {base : Nat} (hgd : o.guard = none) (sl x : Operand) (ho : o.op = .call { callee := .builtin .append, args := #[sl, x], argTypes := #[t, t] }) (he : Enc f s) (ht : ElemT P t e s bytes) (A : Option Addr) (c : Nat) (l2 : List α)
    (hs : a.eval sl = v) (hx : a.eval x = .slice A l2.length c) (hown : Own f s e base w v l) (hsrc : SlAt f s w A l2) (hbytes : (l.length + l2.length) * bytes ≤ 140737488355328) (h63 : l.length + l2.length ≤ maxLen) (hbase : base ≤ w.heap.size)
    (h : ∀ A' c' w', Own f s e base w' (.slice A' (l.length + l2.length) c') (l ++ l2) → c' ≤ maxLen → Below base w w' → w.grownBy w' v.ownBlock → ((Value.slice A' (l.length + l2.length) c').ownBlock = v.ownBlock ∨ ∃ g, w.heap.size ≤ g ∧ (Value.slice A' (l.length + l2.length) c').ownBlock = some g) → wpList P ops Q rest (a.put o.dst (.slice A' (l.length + l2.length) c')) w') : wpList P ops Q (o :: rest) a w := by
  refine wpList_app hgd sl x ho he ht hown A c l2 hsrc hs hx hbytes h63 hbase ?_
  intro v' w' h1 h2 h3
  obtain ⟨A', c', rfl, _, hm, _⟩ := h1.slAt he
  rw [List.length_append] at h1 h3 ⊢
  exact h A' c' w' h1 hm (hown.belowGrown (Below.refl _ _) h2 (Nat.le_refl _) hbase) h2 (h3.imp id fun e => ⟨_, Nat.le_refl _, e⟩)
end
/-- Two slice values that do not share a block. -/
def Apart (v v' : Value) : Prop := ∀ g, v.ownBlock = some g → v'.ownBlock ≠ some g
theorem Apart.nil {v : Value} : Apart (.slice none 0 0) v := fun g h => by cases h
theorem Apart.symm {v v' : Value} (h : Apart v v') : Apart v' v := fun g h1 h2 => h g h2 h1
/-- One of two has grown: they stay apart, and the other stays what it was. -/
theorem Apart.grown {α : Type} {f : α → List Value} {s : Nat} {e : TypeId} {base : Nat} {w w' : World} {v v' u : Value} {l : List α} (h : Apart v u) (hu : Own f s e base w u l) (hg : w.grownBy w' v.ownBlock) (hat : v'.ownBlock = v.ownBlock ∨ ∃ g, w.heap.size ≤ g ∧ v'.ownBlock = some g) :
    Apart v' u ∧ Own f s e base w' u l := by
  refine ⟨fun g h1 h2 => ?_, hu.kept hg ?_⟩
  · rcases hat with e1 | ⟨g', hg', e1⟩
    · exact h g (e1 ▸ h1) h2
    · rw [e1] at h1; injection h1 with h1; subst h1
      have := (World.ownsRow.lt hu g' h2).2
      omega
  · cases hv : u.ownBlock with
    | none => exact .inl rfl
    | some g => exact .inr fun e1 => h g e1.symm hv
/-- What lies below a bound and was known stays known where only blocks from that bound on change. -/
theorem later_from {B : Nat} {w w' : World} (h : Below B w w') : ∀ (b : World) (_ : b.heap.size ≤ B) [Later b w], Later b w' := fun b hb i => ⟨i.below.trans (h.mono hb)⟩
/-- .. for all worlds before the one whose size the bound is. -/
theorem later_base {W w w' : World} (h : Below W.heap.size w w') [k : Later W w] : ∀ b [Later b W], Later b w' := fun b i => ⟨(i.trans k).below.trans (h.mono i.below.size)⟩
theorem Own.later {α : Type} {f : α → List Value} {s : Nat} {e : TypeId} {base : Nat} {w : World} {v : Value} {l : List α} (h : Own f s e base w v l) : ∀ u [Later w u], Own f s e base u v l := fun _ i => h.below i.below
end Go.Proofs.Ytnfpbkimdhhmfaa
