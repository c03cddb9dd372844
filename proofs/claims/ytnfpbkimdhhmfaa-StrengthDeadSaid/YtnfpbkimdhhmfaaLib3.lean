/-
  A list of which the first k elements have been changed. No condition.
-/
import Derived.Test.YtnfpbkimdhhmfaaLib2
namespace Go.Proofs.Ytnfpbkimdhhmfaa
open Go.RowKit

def mapTo {α : Type} (F : α → α) (l : List α) (k : Nat) : List α := (l.take k).map F ++ l.drop k
section
variable {α : Type} {F : α → α} {l : List α} {k : Nat} {x : α}
theorem mapTo_zero : mapTo F l 0 = l := by simp [mapTo]
theorem mapTo_all : mapTo F l l.length = l.map F := by simp [mapTo]
theorem mapTo_length : (mapTo F l k).length = l.length := by simp [mapTo]; omega
theorem mapTo_get (hx : l[k]? = some x) : (mapTo F l k)[k]? = some x := by
  have hk := (List.getElem?_eq_some_iff.1 hx).1
  unfold mapTo
  rw [List.getElem?_append_right (by simp; omega)]
  simp
  have : k - min k l.length = 0 := by omega
  rw [this]; simpa using hx
theorem mapTo_set (hx : l[k]? = some x) : (mapTo F l k).set k (F x) = mapTo F l (k + 1) := by
  have hk := (List.getElem?_eq_some_iff.1 hx).1
  have hxe := (List.getElem?_eq_some_iff.1 hx).2
  unfold mapTo
  rw [List.set_append_right _ _ (by simp; omega)]
  have h1 : k - ((l.take k).map F).length = 0 := by simp; omega
  rw [h1, List.drop_eq_getElem_cons hk, hxe, List.set_cons_zero, List.take_add_one, hx]
  simp
theorem mapTo_same (hx : l[k]? = some x) (hf : F x = x) : mapTo F l (k + 1) = mapTo F l k := by
  rw [← mapTo_set hx, hf]
  apply List.ext_getElem?
  intro i
  by_cases hi : i = k
  · subst hi
    rw [List.getElem?_set_self (by rw [mapTo_length]; exact (List.getElem?_eq_some_iff.1 hx).1), mapTo_get hx]
  · rw [List.getElem?_set_ne (fun e => hi e.symm)]
end

theorem Own.empty_at {α : Type} {f : α → List Value} {s : Nat} {e : TypeId} {base : Nat} {w : World} {H : Nat} (hH : w.heap.size = H) (hb : base ≤ w.heap.size) : Own f s e base (w.alloc (.cells #[] e)) (.slice (some ⟨H, 0, none⟩) 0 0) ([] : List α) := by
  subst hH; exact Own.empty hb

theorem Own.of_heap {α : Type} {f : α → List Value} {s : Nat} {e : TypeId} {base : Nat} {w w' : World} {v : Value} {l : List α} (h : Own f s e base w v l) (hk : ∀ k, base ≤ k → w'.heap[k]? = w.heap[k]?) : Own f s e base w' v l := by
  refine ⟨h.1, ?_⟩
  rcases h.2 with h0 | ⟨g, cap, cur, hv, hg, hc, rest⟩
  · exact .inl h0
  · exact .inr ⟨g, cap, cur, hv, hg, (hk g hg).trans hc, rest⟩

/-! ### A block known whole -/
theorem blk_lt {w : World} {g : Nat} {o : Obj} (h : w.heap[g]? = some o) : g < w.heap.size := (Array.getElem?_eq_some_iff.1 h).1
theorem blk_below {w w' : World} {g : Nat} {o : Obj} (h : w.heap[g]? = some o) (hb : Below w.heap.size w w') : w'.heap[g]? = some o := (hb.block g (blk_lt h)).trans h
theorem heap_alloc_if (w : World) (o : Obj) (k : Nat) : (w.alloc o).heap[k]? = if k = w.heap.size then some o else w.heap[k]? := Array.getElem?_push
theorem blk_cell {w : World} {g : Nat} {cs : Array Value} {e : TypeId} {fr : Nat × Nat} (h : w.heap[g]? = some (.cells cs e fr)) (i : Nat) : w.cell? ⟨g, i, none⟩ = cs[i]? := cell_of_row w g i cs e fr h
theorem blk_free {w : World} {g : Nat} {cs : Array Value} {e : TypeId} (h : w.heap[g]? = some (.cells cs e (0, 0))) (i : Nat) : w.frozen? ⟨g, i, none⟩ = false := by simp [World.frozen?, h]
theorem blk_set {w : World} {g : Nat} {cs : Array Value} {e : TypeId} {fr : Nat × Nat} (h : w.heap[g]? = some (.cells cs e fr)) (i : Nat) (u : Value) : (w.setCell ⟨g, i, none⟩ u).heap[g]? = some (.cells (cs.setIfInBounds i u) e fr) := by
  simp [World.setCell, Array.getElem?_modify, h]
theorem blk_far {w : World} {k : Nat} {p : Addr} (hne : k ≠ p.block) (u : Value) : (w.setCell p u).heap[k]? = w.heap[k]? := Below.heap_setCell w p u k hne
theorem blk_slAt {α : Type} {f : α → List Value} {s : Nat} (he : Enc f s) {w : World} {g : Nat} {cs : Array Value} {e : TypeId} {fr : Nat × Nat} (h : w.heap[g]? = some (.cells cs e fr)) (l : List α) (hl : cs.toList = l.flatMap f) : SlAt f s w (some ⟨g, 0, none⟩) l :=
  he.slAt (blk_lt h) fun j u hu => by
    rw [Nat.zero_add, blk_cell h j, ← hu, ← hl]
    simp
end Go.Proofs.Ytnfpbkimdhhmfaa
