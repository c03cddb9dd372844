/-
  Worlds that have changed in some named blocks alone. Conditions stand in each theorem.
-/
import Derived.Test.YtjegncmkebbdfaaGreatDoorGrpA
set_option linter.unusedSimpArgs false
set_option linter.unusedVariables false
namespace Go.Proofs.YtjegncmkebbdfaaGreatDoor
open Go.RowKit
/-- w' is w, but for the blocks that s names, and for new ones. -/
structure Only (s : Nat → Prop) (w w' : World) : Prop where
  os : w'.os = w.os
  tape : w'.tape = w.tape
  output : w'.output = w.output
  size : w.heap.size ≤ w'.heap.size
  block : ∀ k, k < w.heap.size → ¬ s k → w'.heap[k]? = w.heap[k]?
section
variable {s s' : Nat → Prop} {w w' w'' b : World}
theorem Only.refl : Only s w w := ⟨rfl, rfl, rfl, Nat.le_refl _, fun _ _ _ => rfl⟩
theorem Only.trans (h : Only s w w') (k : Only s w' w'') : Only s w w'' :=
  ⟨k.os.trans h.os, k.tape.trans h.tape, k.output.trans h.output, Nat.le_trans h.size k.size, fun i hi hs => (k.block i (Nat.lt_of_lt_of_le hi h.size) hs).trans (h.block i hi hs)⟩
/-- Behind a first step, blocks that the first world has not are free. -/
theorem Only.trans' (h : Only s w w') (k : Only s' w' w'') (hs : ∀ k, k < w.heap.size → s' k → s k) : Only s w w'' :=
  ⟨k.os.trans h.os, k.tape.trans h.tape, k.output.trans h.output, Nat.le_trans h.size k.size, fun i hi hn => (k.block i (Nat.lt_of_lt_of_le hi h.size) (fun e => hn (hs i hi e))).trans (h.block i hi hn)⟩
theorem Only.mono (h : Only s w w') (hs : ∀ k, k < w.heap.size → s k → s' k) : Only s' w w' := ⟨h.os, h.tape, h.output, h.size, fun k hk hn => h.block k hk fun e => hn (hs k hk e)⟩
theorem Only.drew (h : Only s w w') : Only s w w'.drew := ⟨h.os, h.tape, h.output, h.size, h.block⟩
theorem Only.alloc (h : Only s w w') (o : Obj) : Only s w (w'.alloc o) :=
  ⟨h.os, h.tape, h.output, by have := h.size; simp; omega, fun k hk hn => by rw [heap_alloc_if, if_neg (by have := h.size; omega)]; exact h.block k hk hn⟩
theorem Only.setCell (h : Only s w w') {p : Addr} (hp : s p.block ∨ w.heap.size ≤ p.block) (v : Value) : Only s w (w'.setCell p v) :=
  ⟨h.os, h.tape, h.output, by have := h.size; simpa [World.setCell] using this, fun k hk hn => by
    rw [blk_far (by rintro rfl; rcases hp with hp | hp; exact hn hp; omega)]; exact h.block k hk hn⟩
theorem Only.of_below (h : Below w.heap.size w w') : Only s w w' := ⟨h.os, h.tape, h.output, h.size, fun k hk _ => h.block k hk⟩
theorem Only.below {B : Nat} (h : Only s w w') (hs : ∀ k, s k → B ≤ k) (hB : B ≤ w.heap.size) : Below B w w' :=
  ⟨h.os, h.tape, h.output, h.size, fun k hk => h.block k (by omega) fun e => by have := hs k e; omega⟩
theorem Only.later {W : World} (h : Only s w w') (hs : ∀ k, s k → W.heap.size ≤ k) [l : Later W w] : ∀ b [Later b W], Later b w' := fun b i => ⟨by
  have hb := (i.trans l).below
  refine hb.trans (h.below (fun k hk => ?_) hb.size)
  have := hs k hk; have := i.below.size; omega⟩
theorem Only.boxed (h : Only s w w') {g : Nat} {o : Obj} (hb : w.heap[g]? = some o) (hg : ¬ s g) : w'.heap[g]? = some o := (h.block g (blk_lt hb) hg).trans hb
theorem Only.grown (h : Only s w w') {g : Nat} (hs : ∀ k, s k → k = g) : w.grownBy w' (some g) := ⟨h.os, h.tape, h.output, h.size, fun k hk hn => h.block k hk fun e => hn (by rw [hs k e])⟩
theorem Only.own {α : Type} {f : α → List Value} {z : Nat} {e : TypeId} {base : Nat} {v : Value} {l : List α} (h : Only s w w') (ho : Own f z e base w v l) (hs : ∀ g, v.ownBlock = some g → ¬ s g) : Own f z e base w' v l := by
  refine ⟨ho.1, ?_⟩
  rcases ho.2 with h0 | ⟨g, cap, cur, hv, hg, hc, rest⟩
  · exact .inl h0
  · exact .inr ⟨g, cap, cur, hv, hg, h.boxed hc (hs g (by rw [hv]; rfl)), rest⟩
end
end Go.Proofs.YtjegncmkebbdfaaGreatDoor
