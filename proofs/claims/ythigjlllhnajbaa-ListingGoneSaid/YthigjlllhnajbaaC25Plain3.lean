/-
  What the two Builds of chapter 25 compute, in plain Lean. No condition.
-/
import Derived.Test.YthigjlllhnajbaaC25Plain2
namespace Go.Proofs.Ythigjlllhnajbaa
def listedOf (e : StubE) : ListedE := ⟨e.number, e.distance, e.weak⟩
def hasN (l : List ListedE) (n : Int) : Bool := l.any fun x => decide (x.number = n)
def addN (owner : Int) (l : List ListedE) (e : StubE) : List ListedE := if e.owner = owner ∧ hasN l e.number = false then l ++ [listedOf e] else l
def dedL (owner : Int) (es : List StubE) : List ListedE := es.foldl (addN owner) []
theorem ded_take {o : Int} {es : List StubE} {k : Nat} {x : StubE} (hx : es[k]? = some x) : dedL o (es.take (k + 1)) = addN o (dedL o (es.take k)) x := by
  unfold dedL; rw [take_snoc_get hx, List.foldl_append]; rfl
theorem foldAdd_len {o : Int} : ∀ (es : List StubE) (l : List ListedE), (es.foldl (addN o) l).length ≤ l.length + es.length
  | [], l => by simp
  | e :: es, l => by
    have h := foldAdd_len (o := o) es (addN o l e)
    have h2 : (addN o l e).length ≤ l.length + 1 := by unfold addN; split <;> simp
    simp only [List.foldl_cons, List.length_cons]
    omega
theorem ded_len {o : Int} {es : List StubE} {k : Nat} : (dedL o (es.take k)).length ≤ k := by
  have h := foldAdd_len (o := o) (es.take k) []
  unfold dedL
  rw [List.length_take] at h
  simp at h; omega
def seenM (l : List ListedE) : Int → Option Bool := fun n => if hasN l n then some true else none
theorem hasN_snoc (l : List ListedE) (y : ListedE) (n : Int) : hasN (l ++ [y]) n = (hasN l n || decide (y.number = n)) := by simp [hasN]
/-! ### the specification's put -/
def countL (l : List ListedE) (n : Int) : Nat := (l.takeWhile fun x => decide (x.number < n)).length
def putL (l : List ListedE) (e : ListedE) : List ListedE := if (l[countL l e.number]?.elim false fun x => decide (x.number = e.number)) then l else l.take (countL l e.number) ++ [e] ++ l.drop (countL l e.number)
def refBuildL (owner : Int) (es : List StubE) : List ListedE := es.foldl (fun l e => if e.owner = owner then putL l (listedOf e) else l) []
theorem refBuild_take {o : Int} {es : List StubE} {k : Nat} {x : StubE} (hx : es[k]? = some x) : refBuildL o (es.take (k + 1)) = if x.owner = o then putL (refBuildL o (es.take k)) (listedOf x) else refBuildL o (es.take k) := by
  unfold refBuildL; rw [take_snoc_get hx, List.foldl_append]; rfl
theorem countL_le (l : List ListedE) (n : Int) : countL l n ≤ l.length := by
  unfold countL; exact (List.takeWhile_sublist _).length_le
theorem countL_eq {l : List ListedE} {n : Int} {k : Nat} (hk : k ≤ l.length) (h1 : ∀ (j : Nat) (x : ListedE), j < k → l[j]? = some x → x.number < n) (h2 : ∀ x, l[k]? = some x → ¬ x.number < n) : countL l n = k := by
  unfold countL
  induction l generalizing k with
  | nil => simp at hk; simp [hk]
  | cons y l ih =>
    cases k with
    | zero =>
      have := h2 y rfl
      simp [List.takeWhile_cons, this]
    | succ k =>
      have hy := h1 0 y (by omega) rfl
      rw [List.takeWhile_cons]
      simp only [hy, decide_true, if_true, List.length_cons]
      rw [ih (by simpa using hk) (fun j x hj hx => h1 (j + 1) x (by omega) (by simpa using hx)) (fun x hx => h2 x (by simpa using hx))]
theorem putL_len (l : List ListedE) (e : ListedE) : (putL l e).length ≤ l.length + 1 := by
  unfold putL
  have := countL_le l e.number
  split
  · omega
  · simp; omega
theorem refBuild_len {o : Int} (es : List StubE) : ∀ (l : List ListedE), (es.foldl (fun l e => if e.owner = o then putL l (listedOf e) else l) l).length ≤ l.length + es.length := by
  induction es with
  | nil => simp
  | cons e es ih =>
    intro l
    have h := ih (if e.owner = o then putL l (listedOf e) else l)
    have h2 : (if e.owner = o then putL l (listedOf e) else l).length ≤ l.length + 1 := by split; exact putL_len _ _; omega
    simp only [List.foldl_cons, List.length_cons]
    omega
end Go.Proofs.Ythigjlllhnajbaa
