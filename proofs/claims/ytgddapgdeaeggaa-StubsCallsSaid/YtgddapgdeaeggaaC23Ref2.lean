/-
  Contracts of the functions of this seat that each theorem names: what a call returns, and that it writes nothing that was there before. The conditions stand in each theorem.
-/
import Derived.Test.YtgddapgdeaeggaaC23Ref1
namespace Go.Proofs.Ytgddapgdeaeggaa
open Go.RowKit
theorem insR_done {e x : StubE} : ∀ {l : List StubE}, (l.any fun y => decide (ltS e y)) = true → insR e (l ++ [x]) = insR e l ++ [x]
  | [], h => by simp at h
  | y :: l, h => by
    rw [List.cons_append, insR, insR]
    by_cases hy : ltS e y
    · simp [hy]
    · have h' : (l.any fun y => decide (ltS e y)) = true := by simpa [hy] using h
      simp [hy, insR_done h']
theorem insR_not {e x : StubE} : ∀ {l : List StubE}, (l.any fun y => decide (ltS e y)) = false → insR e (l ++ [x]) = if ltS e x then l ++ [e, x] else l ++ [x, e]
  | [], _ => by by_cases h : ltS e x <;> simp [insR, h]
  | y :: l, h => by
    have hy : ¬ ltS e y := by intro hh; simp [hh] at h
    have h' : (l.any fun y => decide (ltS e y)) = false := by simpa [hy] using h
    rw [List.cons_append, insR, if_neg hy, insR_not h']
    by_cases hx : ltS e x <;> simp [hx]
theorem insR_end {e : StubE} : ∀ {l : List StubE}, (l.any fun y => decide (ltS e y)) = false → insR e l = l ++ [e]
  | [], _ => rfl
  | y :: l, h => by
    have hy : ¬ ltS e y := by intro hh; simp [hh] at h
    have h' : (l.any fun y => decide (ltS e y)) = false := by simpa [hy] using h
    rw [insR, if_neg hy, insR_end h']; rfl
theorem insR_perm (e : StubE) : ∀ l : List StubE, (insR e l).Perm (e :: l)
  | [] => .refl _
  | x :: l => by
    rw [insR]
    split
    · exact .refl _
    · exact ((insR_perm e l).cons x).trans (.swap e x l)
theorem insR_sorted {e : StubE} : ∀ {l : List StubE}, SortedS l → (∀ x ∈ l, keyE x ≠ keyE e) → SortedS (insR e l)
  | [], _, _ => by simp [insR]
  | x :: l, hs, hn => by
    rw [insR]
    obtain ⟨h1, h2⟩ := List.pairwise_cons.1 hs
    split
    · rename_i hl
      refine List.pairwise_cons.2 ⟨fun y hy => ?_, hs⟩
      rcases List.mem_cons.1 hy with rfl | hy
      · exact hl
      · have := h1 y hy
        unfold ltS at *; omega
    · rename_i hl
      refine List.pairwise_cons.2 ⟨fun y hy => ?_, insR_sorted h2 fun z hz => hn z (List.mem_cons_of_mem _ hz)⟩
      rcases List.mem_cons.1 ((insR_perm e l).mem_iff.1 hy) with rfl | hy
      · have hk := hn x List.mem_cons_self
        have : ¬ (x.owner = y.owner ∧ x.number = y.number) := fun ⟨a, b⟩ => hk (KeyE.ext_iff.2 ⟨a, b⟩)
        unfold ltS at *; omega
      · exact h1 y hy
end Go.Proofs.Ytgddapgdeaeggaa
