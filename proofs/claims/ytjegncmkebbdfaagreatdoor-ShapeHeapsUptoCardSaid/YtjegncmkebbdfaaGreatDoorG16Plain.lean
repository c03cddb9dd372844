/-
  What the laws of chapter 16 on reached nodes ask: plain Lean. No condition.
-/
import Derived.Test.YtjegncmkebbdfaaGreatDoorGrp30
set_option linter.unusedSimpArgs false
set_option linter.unusedVariables false
namespace Go.Proofs.YtjegncmkebbdfaaGreatDoor
theorem reach_app {l : List NodeC} {a b : List IDE} {x : IDE} : Reach l (a ++ b) x ↔ Reach l a x ∨ Reach l b x := by
  constructor
  · intro h
    induction h with
    | root hr hs =>
      rcases List.mem_append.1 hr with h | h
      · exact .inl (.root h hs)
      · exact .inr (.root h hs)
    | step _ hn hy hs ih =>
      rcases ih with h | h
      · exact .inl (.step h hn hy hs)
      · exact .inr (.step h hn hy hs)
  · rintro (h | h)
    · exact h.mono fun y hy => List.mem_append_left _ hy
    · exact h.mono fun y hy => List.mem_append_right _ hy
/-- What is reached is a root, or another reached node refers to it. -/
theorem reach_held {l : List NodeC} {roots : List IDE} {x : IDE} (h : Reach l roots x) : x ∈ roots ∨ ∃ a n, a ≠ x ∧ Reach l roots a ∧ firstN l a = some n ∧ x ∈ refsOf n := by
  induction h with
  | root hr _ => exact .inl hr
  | @step a y n ha hn hy hs ih =>
    by_cases hay : a = y
    · subst hay; exact ih
    · exact .inr ⟨a, n, hay, ha, hn, hy⟩
theorem reach_root {l : List NodeC} {roots : List IDE} {r : IDE} (hr : r ∈ roots) : Reach l roots r ↔ (firstN l r).isSome := ⟨Reach.node, .root hr⟩
theorem reach_ref {l : List NodeC} {roots : List IDE} {a y : IDE} {n : NodeC} (ha : Reach l roots a) (hn : firstN l a = some n) (hy : y ∈ refsOf n) : Reach l roots y ↔ (firstN l y).isSome := ⟨Reach.node, .step ha hn hy⟩
end Go.Proofs.YtjegncmkebbdfaaGreatDoor
