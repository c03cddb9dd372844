/-
  Small plain lemmas on lists. No condition.
-/
import Derived.Test.YtnfpbkimdhhmfaaLater3
namespace Go.Proofs.Ytnfpbkimdhhmfaa
/-- Two lists, element by element. -/
theorem eq_to {α : Type} {a b : List α} (hl : a.length = b.length) (h : ∀ (j : Nat) (x y : α), a[j]? = some x → b[j]? = some y → x = y) : a = b := by
  apply List.ext_getElem?
  intro i
  rcases Nat.lt_or_ge i a.length with hi | hi
  · rw [List.getElem?_eq_getElem hi, List.getElem?_eq_getElem (by omega)]
    exact congrArg some (h i _ _ (List.getElem?_eq_getElem hi) (List.getElem?_eq_getElem (by omega)))
  · rw [List.getElem?_eq_none hi, List.getElem?_eq_none (by omega)]
theorem take_snoc_get {α : Type} {l : List α} {k : Nat} {x : α} (h : l[k]? = some x) : l.take (k + 1) = l.take k ++ [x] := by rw [List.take_add_one, h]; rfl
end Go.Proofs.Ytnfpbkimdhhmfaa
