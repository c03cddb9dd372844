/-
  What the functions of chapter 25 compute, in plain Lean. No condition.
-/
import Derived.Test.YthigjlllhnajbaaC25Data
namespace Go.Proofs.Ythigjlllhnajbaa
def settledB (received sent : Int) (s : ScionE) : Bool := decide (s.out ≤ received) && decide (s.inn ≤ sent)
def findL (l : List ListedE) (n : Int) : Option ListedE := l.find? fun x => decide (x.number = n)
def ScionE.upd (e : ListedE) (b : Bool) (s : ScionE) : ScionE := { s with distance := e.distance, weak := e.weak && (s.weak || b) }
/-- What is kept of a scion, or that it is removed. -/
def keep1 (l : List ListedE) (received sent : Int) (s : ScionE) : Option ScionE := match findL l s.number with
  | some e => some (s.upd e (settledB received sent s))
  | none => if settledB received sent s then none else some s
def keptL (l : List ListedE) (received sent : Int) (xs : List ScionE) : List ScionE := xs.filterMap (keep1 l received sent)
def remL (l : List ListedE) (received sent : Int) (xs : List ScionE) : List ScionE := xs.filter fun s => (keep1 l received sent s).isNone
theorem filterMap_snoc {α β : Type} (f : α → Option β) (l : List α) (x : α) : (l ++ [x]).filterMap f = l.filterMap f ++ (f x).toList := by
  rw [List.filterMap_append]; cases h : f x <;> simp [h]
theorem kept_take {l : List ListedE} {r s : Int} {xs : List ScionE} {k : Nat} {x : ScionE} (hx : xs[k]? = some x) : keptL l r s (xs.take (k + 1)) = keptL l r s (xs.take k) ++ (keep1 l r s x).toList := by
  unfold keptL; rw [List.take_add_one, hx]; exact filterMap_snoc _ _ _
theorem rem_take {l : List ListedE} {r s : Int} {xs : List ScionE} {k : Nat} {x : ScionE} (hx : xs[k]? = some x) : remL l r s (xs.take (k + 1)) = remL l r s (xs.take k) ++ (if (keep1 l r s x).isNone then [x] else []) := by
  unfold remL; rw [List.take_add_one, hx, List.filter_append]
  congr 1
  simp only [Option.toList_some, List.filter_cons, List.filter_nil]
theorem kept_len {l : List ListedE} {r s : Int} {xs : List ScionE} {k : Nat} : (keptL l r s (xs.take k)).length ≤ k := by
  unfold keptL
  exact Nat.le_trans (List.length_filterMap_le _ _) (by rw [List.length_take]; omega)
theorem rem_len {l : List ListedE} {r s : Int} {xs : List ScionE} {k : Nat} : (remL l r s (xs.take k)).length ≤ k := by
  unfold remL
  exact Nat.le_trans (List.length_filter_le _ _) (by rw [List.length_take]; omega)
end Go.Proofs.Ythigjlllhnajbaa
