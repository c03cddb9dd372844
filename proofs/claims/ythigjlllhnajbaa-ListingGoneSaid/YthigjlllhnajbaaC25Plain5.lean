/-
  Applying a list twice: plain Lean. No condition.
-/
import Derived.Test.YthigjlllhnajbaaC25Plain2
namespace Go.Proofs.Ythigjlllhnajbaa
theorem keep1_again {l : List ListedE} {r s : Int} {x y : ScionE} (h : keep1 l r s x = some y) : keep1 l r s y = some y := by
  unfold keep1 at h ⊢
  cases hf : findL l x.number with
  | none =>
    rw [hf] at h
    simp only at h
    split at h
    · cases h
    · rename_i hs
      injection h with h; subst h
      rw [hf]; simp [hs]
  | some e =>
    rw [hf] at h
    simp only at h
    injection h with h; subst h
    have hn : (ScionE.upd e (settledB r s x) x).number = x.number := rfl
    rw [hn, hf]
    simp only [Option.some.injEq]
    have hw : (e.weak && ((e.weak && (x.weak || settledB r s x)) || settledB r s x)) = (e.weak && (x.weak || settledB r s x)) := by cases e.weak <;> cases x.weak <;> cases settledB r s x <;> rfl
    exact congrArg (fun b => ({ x with distance := e.distance, weak := b } : ScionE)) hw
theorem kept_again {l : List ListedE} {r s : Int} {xs : List ScionE} : keptL l r s (keptL l r s xs) = keptL l r s xs := by
  unfold keptL
  induction xs with
  | nil => rfl
  | cons x xs ih =>
    rw [List.filterMap_cons]
    cases h : keep1 l r s x with
    | none => exact ih
    | some y => simp only [List.filterMap_cons, keep1_again h, ih]
theorem rem_again {l : List ListedE} {r s : Int} {xs : List ScionE} : remL l r s (keptL l r s xs) = [] := by
  unfold remL keptL
  rw [List.filter_eq_nil_iff]
  intro y hy
  obtain ⟨x, _, hx⟩ := List.mem_filterMap.1 hy
  rw [keep1_again hx]; simp
theorem kept_rem_len {l : List ListedE} {r s : Int} {xs : List ScionE} : (keptL l r s xs).length + (remL l r s xs).length = xs.length := by
  unfold keptL remL
  induction xs with
  | nil => rfl
  | cons x xs ih =>
    rw [List.filterMap_cons, List.filter_cons]
    cases h : keep1 l r s x <;> simp <;> omega
theorem rem_mem {l : List ListedE} {r s : Int} {xs : List ScionE} {x : ScionE} (h : x ∈ remL l r s xs) : findL l x.number = none ∧ x.out ≤ r ∧ x.inn ≤ s := by
  have h := (List.mem_filter.1 h).2
  unfold keep1 at h
  cases hf : findL l x.number with
  | some e => rw [hf] at h; simp at h
  | none => rw [hf] at h; simp [settledB] at h; exact ⟨rfl, h⟩
theorem kept_mem {l : List ListedE} {r s : Int} {xs : List ScionE} {x : ScionE} (h : x ∈ keptL l r s xs) : findL l x.number = none → ¬ (x.out ≤ r ∧ x.inn ≤ s) := by
  obtain ⟨y, _, hy⟩ := List.mem_filterMap.1 h
  have h := keep1_again hy
  intro hf hs
  unfold keep1 at h
  rw [hf] at h; simp [settledB, hs] at h
end Go.Proofs.Ythigjlllhnajbaa
