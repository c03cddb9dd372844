/-
  Worlds that come later: what was known of a world stays known of each later one, found by instances. No condition.
-/
import Derived.Test.YtnfpbkimdhhmfaaLib3
import Derived.Deep.RegionHeld3
namespace Go.Proofs.Ytnfpbkimdhhmfaa
open Go.RowKit

/-- w is b, some steps later: what lay in b lies in w unchanged. -/
abbrev Later (b w : World) : Prop := Nonempty (Below b.heap.size b w)
section
variable {b w w' : World}
theorem Later.below (h : Later b w) : Below b.heap.size b w := by obtain ⟨x⟩ := h; exact x
instance Later.refl : Later w w := ⟨Below.refl _ _⟩
instance Later.drew [h : Later b w] : Later b w.drew := ⟨h.below.drew⟩
instance Later.drewN {n : Nat} [h : Later b w] : Later b (w.drewN n) := ⟨below_drewN h.below n⟩
instance Later.alloc {o : Obj} [h : Later b w] : Later b (w.alloc o) := ⟨h.below.alloc h.below.size o⟩
instance Later.after {u : After w} [h : Later b w] : Later b u.val := ⟨h.below.trans (u.below.mono h.below.size)⟩
theorem later {W : World} (h : Below W.heap.size W w') : ∀ b [Later b W], Later b w' := fun _ i => ⟨i.below.trans (h.mono i.below.size)⟩
theorem Later.trans {c : World} (h : Later b w) (k : Later w c) : Later b c := ⟨h.below.trans (k.below.mono h.below.size)⟩
theorem Later.cell {a : Addr} {v : Value} (h : b.cell? a = some v) : ∀ u [Later b u], u.cell? a = some v := fun _ i => cell_below h i.below
theorem Later.slAt {α : Type} {f : α → List Value} {s : Nat} {A : Option Addr} {l : List α} (h : SlAt f s b A l) : ∀ u [Later b u], SlAt f s u A l := fun _ i => h.below i.below
theorem below_of [h : Later b w] : Below b.heap.size b w := h.below
/-- A store into a block that b does not have. -/
theorem Later.set {p : Addr} (hp : b.heap.size ≤ p.block) (v : Value) [h : Later b w] : Later b (w.setCell p v) := ⟨h.below.setCell hp v⟩
end
theorem calls_name {P : Program} {f : FuncId} {args : Array Value} {W : World} {Q : Ending → World → Prop} (h : ∀ w0, W = w0 → Calls P f args w0 Q) : Calls P f args W Q := h W rfl

/-! ### Boxes -/
/-- In each world behind w0 the block g reads as c, and may be written. -/
abbrev Boxed (w0 : World) (g : Nat) (c : Array Value) (t : TypeId) : Prop := ∀ (u : World) [Later w0 u], u.heap[g]? = some (.cells c t (0, 0)) ∧ ∀ (i : Nat), u.cell? ⟨g, i, none⟩ = c[i]? ∧ u.frozen? ⟨g, i, none⟩ = false
section
variable {w w0 w' u : World} {g : Nat} {c c0 c1 c2 c3 c4 c5 c6 : Array Value} {t t0 t1 t2 t3 t4 t5 t6 : TypeId}
theorem boxed (h : w0.heap[g]? = some (.cells c t (0, 0))) : Boxed w0 g c t := fun u i => by
  have e := blk_below h i.below
  exact ⟨e, fun j => ⟨blk_cell e j, blk_free e j⟩⟩
theorem boxed_at {w1 : World} (e : w.alloc (.cells c t) = w1) (h : Later w1 w0) : Boxed w0 w.heap.size c t :=
  boxed (blk_below (by rw [← e, heap_alloc_if, if_pos rfl]) h.below)
/-- A store into a block that is known: it is known behind it. -/
theorem boxed_set (h : Boxed w0 g c t) [Later w0 u] {i : Nat} {v : Value} (e : u.setCell ⟨g, i, none⟩ v = w') : Boxed w' g (c.setIfInBounds i v) t :=
  boxed (by rw [← e]; exact blk_set (h u).1 i v)
theorem boxed_set2 (h : Boxed w0 g c t) [Later w0 u] {i j : Nat} {v v' : Value} (e : (u.setCell ⟨g, i, none⟩ v).setCell ⟨g, j, none⟩ v' = w') : Boxed w' g ((c.setIfInBounds i v).setIfInBounds j v') t :=
  boxed (by rw [← e]; exact blk_set (blk_set (h u).1 i v) j v')
/-- A store into another block. -/
theorem boxed_far (h : Boxed w0 g c t) [Later w0 u] {p : Addr} {v : Value} (hp : g ≠ p.block) (e : u.setCell p v = w') : Boxed w' g c t :=
  boxed (by rw [← e]; exact (blk_far hp v).trans (h u).1)
theorem boxed_far2 (h : Boxed w0 g c t) [Later w0 u] {p q : Addr} {v v' : Value} (hp : g ≠ p.block) (hq : g ≠ q.block) (e : (u.setCell p v).setCell q v' = w') : Boxed w' g c t :=
  boxed (by rw [← e]; exact (blk_far hq v').trans ((blk_far hp v).trans (h u).1))
theorem boxed_lt (h : Boxed w0 g c t) : g < w0.heap.size := blk_lt (h w0).1
theorem later_set {W : World} [h : Later W u] {i : Nat} {v : Value} (e : u.setCell ⟨W.heap.size, i, none⟩ v = w') : ∀ b [Later b W], Later b w' := fun b k => by
  have := (k.trans h).below
  exact ⟨by rw [← e]; exact this.setCell k.below.size v⟩
theorem later_set2 {W : World} [h : Later W u] {i j : Nat} {v v' : Value} (e : (u.setCell ⟨W.heap.size, i, none⟩ v).setCell ⟨W.heap.size, j, none⟩ v' = w') : ∀ b [Later b W], Later b w' := fun b k => by
  have := (k.trans h).below
  exact ⟨by rw [← e]; exact (this.setCell k.below.size v).setCell k.below.size v'⟩
theorem box1 (h : w.alloc (.cells c0 t0) = w0) : Boxed w0 w.heap.size c0 t0 ∧ (∀ b [Later b w], Later b w0) :=
  ⟨boxed_at h Later.refl, fun _ _ => h ▸ inferInstance⟩
theorem box2 (h : (w.alloc (.cells c0 t0)).alloc (.cells c1 t1) = w0) : Boxed w0 w.heap.size c0 t0 ∧ Boxed w0 (w.heap.size + 1) c1 t1 ∧ (∀ b [Later b w], Later b w0) := by
  obtain ⟨w1, h1⟩ : ∃ w1, w.alloc (.cells c0 t0) = w1 := ⟨_, rfl⟩
  have e : w1.heap.size = w.heap.size + 1 := by rw [← h1]; simp
  rw [h1] at h
  obtain ⟨b, l⟩ := box1 h
  rw [e] at b
  have l1 : ∀ b [Later b w], Later b w1 := (box1 h1).2
  exact ⟨boxed_at h1 (l _), b, fun b _ => (l1 b).trans (l w1)⟩
theorem box3 (h : ((w.alloc (.cells c0 t0)).alloc (.cells c1 t1)).alloc (.cells c2 t2) = w0) : Boxed w0 w.heap.size c0 t0 ∧ Boxed w0 (w.heap.size + 1) c1 t1 ∧ Boxed w0 (w.heap.size + 1 + 1) c2 t2 ∧ (∀ b [Later b w], Later b w0) := by
  obtain ⟨w1, h1⟩ : ∃ w1, w.alloc (.cells c0 t0) = w1 := ⟨_, rfl⟩
  have e : w1.heap.size = w.heap.size + 1 := by rw [← h1]; simp
  rw [h1] at h
  obtain ⟨b, b', l⟩ := box2 h
  rw [e] at b b'
  have l1 : ∀ b [Later b w], Later b w1 := (box1 h1).2
  exact ⟨boxed_at h1 (l _), b, b', fun b _ => (l1 b).trans (l w1)⟩
theorem box4 (h : (((w.alloc (.cells c0 t0)).alloc (.cells c1 t1)).alloc (.cells c2 t2)).alloc (.cells c3 t3) = w0) : Boxed w0 w.heap.size c0 t0 ∧ Boxed w0 (w.heap.size + 1) c1 t1 ∧ Boxed w0 (w.heap.size + 1 + 1) c2 t2 ∧ Boxed w0 (w.heap.size + 1 + 1 + 1) c3 t3 ∧ (∀ b [Later b w], Later b w0) := by
  obtain ⟨w1, h1⟩ : ∃ w1, w.alloc (.cells c0 t0) = w1 := ⟨_, rfl⟩
  have e : w1.heap.size = w.heap.size + 1 := by rw [← h1]; simp
  rw [h1] at h
  obtain ⟨b, b', b'', l⟩ := box3 h
  rw [e] at b b' b''
  have l1 : ∀ b [Later b w], Later b w1 := (box1 h1).2
  exact ⟨boxed_at h1 (l _), b, b', b'', fun b _ => (l1 b).trans (l w1)⟩
theorem box5 (h : ((((w.alloc (.cells c0 t0)).alloc (.cells c1 t1)).alloc (.cells c2 t2)).alloc (.cells c3 t3)).alloc (.cells c4 t4) = w0) : Boxed w0 w.heap.size c0 t0 ∧ Boxed w0 (w.heap.size + 1) c1 t1 ∧ Boxed w0 (w.heap.size + 1 + 1) c2 t2 ∧ Boxed w0 (w.heap.size + 1 + 1 + 1) c3 t3 ∧ Boxed w0 (w.heap.size + 1 + 1 + 1 + 1) c4 t4 ∧ (∀ b [Later b w], Later b w0) := by
  obtain ⟨w1, h1⟩ : ∃ w1, w.alloc (.cells c0 t0) = w1 := ⟨_, rfl⟩
  have e : w1.heap.size = w.heap.size + 1 := by rw [← h1]; simp
  rw [h1] at h
  obtain ⟨b, b', b'', b3, l⟩ := box4 h
  rw [e] at b b' b'' b3
  have l1 : ∀ b [Later b w], Later b w1 := (box1 h1).2
  exact ⟨boxed_at h1 (l _), b, b', b'', b3, fun b _ => (l1 b).trans (l w1)⟩
theorem Own.set {α : Type} {f : α → List Value} {s : Nat} {e : TypeId} {base : Nat} {v : Value} {l : List α} (h : Own f s e base w v l) {p : Addr} (hp : p.block < base) (x : Value) : Own f s e base (w.setCell p x) v l :=
  h.of_heap fun k hk => blk_far (by omega) x
theorem Own.set2 {α : Type} {f : α → List Value} {s : Nat} {e : TypeId} {base : Nat} {v : Value} {l : List α} (h : Own f s e base w v l) {p q : Addr} {x y : Value} (E : (w.setCell p x).setCell q y = w') (hp : p.block < base) (hq : q.block < base) : Own f s e base w' v l :=
  E ▸ (h.set hp x).set hq y
theorem SlAt.later {α : Type} {f : α → List Value} {s : Nat} {A : Option Addr} {l : List α} (h : SlAt f s w A l) : ∀ u [Later w u], SlAt f s u A l := fun _ i => h.below i.below
end
end Go.Proofs.Ytnfpbkimdhhmfaa
