/-
  What the laws of chapter 30 ask of graphs: plain Lean. Conditions stand in each theorem.
-/
import Derived.Test.YtnfpbkimdhhmfaaGPlain
namespace Go.Proofs.Ytnfpbkimdhhmfaa
/-- The first list lies in the second, element by element, in order. -/
inductive Emb {α β : Type} (R : α → β → Prop) : List α → List β → Prop
  | nil (ys : List β) : Emb R [] ys
  | skip {xs : List α} {y : β} {ys : List β} : Emb R xs ys → Emb R xs (y :: ys)
  | take {x : α} {xs : List α} {y : β} {ys : List β} : R x y → Emb R xs ys → Emb R (x :: xs) (y :: ys)
section
variable {α β : Type} {R : α → β → Prop} {x : α} {xs : List α} {y : β} {ys : List β}
theorem Emb.tail (h : Emb R (x :: xs) ys) : Emb R xs ys := by
  generalize hz : x :: xs = zs at h
  induction h with
  | nil _ => cases hz
  | skip _ ih => exact .skip (ih hz)
  | take _ h _ => injection hz with h1 h2; subst h2; exact .skip h
theorem Emb.next (h : Emb R (x :: xs) (y :: ys)) : Emb R xs ys := by
  cases h with
  | skip h => exact h.tail
  | take _ h => exact h
theorem Emb.past (h : Emb R (x :: xs) (y :: ys)) (hn : ¬ R x y) : Emb R (x :: xs) ys := by
  cases h with
  | skip h => exact h
  | take h _ => exact absurd h hn
theorem Emb.none (h : Emb R (x :: xs) []) : False := by cases h
theorem emb_filterMap {γ : Type} {f : γ → Option α} {g : γ → Option β} : ∀ (l : List γ), (∀ c ∈ l, ∀ a, f c = some a → ∃ b, g c = some b ∧ R a b) → Emb R (l.filterMap f) (l.filterMap g)
  | [], _ => .nil _
  | c :: l, h => by
    have ih := emb_filterMap l fun d hd => h d (List.mem_cons_of_mem _ hd)
    rw [List.filterMap_cons, List.filterMap_cons]
    cases hf : f c with
    | none =>
      cases hg : g c with
      | none => exact ih
      | some b => exact .skip ih
    | some a =>
      obtain ⟨b, hb, hR⟩ := h c List.mem_cons_self a hf
      rw [hb]
      exact .take hR ih
end
/-- A stub is held: weakly, by a root, or by a field of what is reached. -/
def heldP (l : List NodeC) (roots weak q : List IDE) (x : IDE) : Prop := x ∈ weak ∨ x ∈ roots ∨ ∃ s ∈ q, ∃ n, firstN l s = some n ∧ ∃ v ∈ n.fields, v.kind = 2 ∧ v.ref = x
theorem isStubN_some {l : List NodeC} {x : IDE} (h : isStubN l x = true) : (firstN l x).isSome := by
  unfold isStubN at h
  split at h
  · rename_i hn; rw [hn]; rfl
  · cases h
theorem keep_held {l : List NodeC} {roots weak q : List IDE} (hq : ReachL l roots q) (x : IDE) : keepP l q weak x = true ↔ isStubN l x = true ∧ heldP l roots weak q x := by
  have hk : keepP l q weak x = true ↔ isStubN l x = true ∧ (x ∈ q ∨ (x ∉ q ∧ (x ∈ weak ∨ ∃ s ∈ q, weakRef l x s = true))) := by
    simp only [keepP, weakP, Bool.or_eq_true, Bool.and_eq_true, Bool.not_eq_true', decide_eq_true_eq, decide_eq_false_iff_not, List.any_eq_true]
    constructor
    · rintro (⟨a, b, c⟩ | ⟨a, b⟩)
      · exact ⟨a, .inr ⟨b, c⟩⟩
      · exact ⟨a, .inl b⟩
    · rintro ⟨a, b | ⟨b, c⟩⟩
      · exact .inr ⟨a, b⟩
      · exact .inl ⟨a, b, c⟩
  rw [hk]
  constructor
  · rintro ⟨h1, h2⟩
    refine ⟨h1, ?_⟩
    rcases h2 with h2 | ⟨_, h2 | ⟨s, hs, h2⟩⟩
    · have hr := (hq.2 x).1 h2
      cases hr with
      | root hr _ => exact .inr (.inl hr)
      | step ha hn hy _ =>
        obtain ⟨_, v, hv, h3, h4⟩ := refsOf_mem.1 hy
        exact .inr (.inr ⟨_, (hq.2 _).2 ha, _, hn, v, hv, h3, h4⟩)
    · exact .inl h2
    · unfold weakRef at h2
      split at h2
      · rename_i n hn
        unfold refersN at h2
        simp only [Bool.and_eq_true, List.any_eq_true, beq_iff_eq, decide_eq_true_eq] at h2
        obtain ⟨_, v, hv, h3, h4⟩ := h2
        exact .inr (.inr ⟨s, hs, n, hn, v, hv, h3, h4⟩)
      · cases h2
  · rintro ⟨h1, h2⟩
    refine ⟨h1, ?_⟩
    by_cases hx : x ∈ q
    · exact .inl hx
    · refine .inr ⟨hx, ?_⟩
      rcases h2 with h2 | h2 | ⟨s, hs, n, hn, v, hv, h3, h4⟩
      · exact .inl h2
      · exact absurd ((hq.2 x).2 (.root h2 (isStubN_some h1))) hx
      · by_cases hk : n.kind = 2
        · refine .inr ⟨s, hs, ?_⟩
          unfold weakRef refersN
          rw [hn]
          simp only [Bool.and_eq_true, List.any_eq_true, beq_iff_eq, decide_eq_true_eq]
          exact ⟨hk, v, hv, h3, h4⟩
        · exact absurd ((hq.2 x).2 (.step ((hq.2 s).1 hs) hn (refsOf_mem.2 ⟨hk, v, hv, h3, h4⟩) (isStubN_some h1))) hx
end Go.Proofs.Ytnfpbkimdhhmfaa
