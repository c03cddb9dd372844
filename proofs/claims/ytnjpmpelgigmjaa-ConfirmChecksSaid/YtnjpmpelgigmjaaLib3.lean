/-
  A list of which the first k elements have been changed. No condition.
-/
import Derived.Test.YtnjpmpelgigmjaaLib2
namespace Go.Proofs.Ytnjpmpelgigmjaa
open Go.RowKit

def mapTo {α : Type} (F : α → α) (l : List α) (k : Nat) : List α := (l.take k).map F ++ l.drop k
section
variable {α : Type} {F : α → α} {l : List α} {k : Nat} {x : α}
theorem mapTo_zero : mapTo F l 0 = l := by simp [mapTo]
theorem mapTo_all : mapTo F l l.length = l.map F := by simp [mapTo]
theorem mapTo_length : (mapTo F l k).length = l.length := by simp [mapTo]; omega
theorem mapTo_get (hx : l[k]? = some x) : (mapTo F l k)[k]? = some x := by
  have hk := (List.getElem?_eq_some_iff.1 hx).1
  unfold mapTo
  rw [List.getElem?_append_right (by simp; omega)]
  simp
  have : k - min k l.length = 0 := by omega
  rw [this]; simpa using hx
theorem mapTo_set (hx : l[k]? = some x) : (mapTo F l k).set k (F x) = mapTo F l (k + 1) := by
  have hk := (List.getElem?_eq_some_iff.1 hx).1
  have hxe := (List.getElem?_eq_some_iff.1 hx).2
  unfold mapTo
  rw [List.set_append_right _ _ (by simp; omega)]
  have h1 : k - ((l.take k).map F).length = 0 := by simp; omega
  rw [h1, List.drop_eq_getElem_cons hk, hxe, List.set_cons_zero, List.take_add_one, hx]
  simp
theorem mapTo_same (hx : l[k]? = some x) (hf : F x = x) : mapTo F l (k + 1) = mapTo F l k := by
  rw [← mapTo_set hx, hf]
  apply List.ext_getElem?
  intro i
  by_cases hi : i = k
  · subst hi
    rw [List.getElem?_set_self (by rw [mapTo_length]; exact (List.getElem?_eq_some_iff.1 hx).1), mapTo_get hx]
  · rw [List.getElem?_set_ne (fun e => hi e.symm)]
end

/-! ### A block known whole -/
theorem blk_lt {w : World} {g : Nat} {o : Obj} (h : w.heap[g]? = some o) : g < w.heap.size := (Array.getElem?_eq_some_iff.1 h).1
theorem blk_below {w w' : World} {g : Nat} {o : Obj} (h : w.heap[g]? = some o) (hb : Below w.heap.size w w') : w'.heap[g]? = some o := (hb.block g (blk_lt h)).trans h
theorem heap_alloc_if (w : World) (o : Obj) (k : Nat) : (w.alloc o).heap[k]? = if k = w.heap.size then some o else w.heap[k]? := Array.getElem?_push
theorem blk_cell {w : World} {g : Nat} {cs : Array Value} {e : TypeId} {fr : Nat × Nat} (h : w.heap[g]? = some (.cells cs e fr)) (i : Nat) : w.cell? ⟨g, i, none⟩ = cs[i]? := cell_of_row w g i cs e fr h
theorem blk_slAt {α : Type} {f : α → List Value} {s : Nat} (he : Enc f s) {w : World} {g : Nat} {cs : Array Value} {e : TypeId} {fr : Nat × Nat} (h : w.heap[g]? = some (.cells cs e fr)) (l : List α) (hl : cs.toList = l.flatMap f) : SlAt f s w (some ⟨g, 0, none⟩) l :=
  he.slAt (blk_lt h) fun j u hu => by
    rw [Nat.zero_add, blk_cell h j, ← hu, ← hl]
    simp
end Go.Proofs.Ytnjpmpelgigmjaa
