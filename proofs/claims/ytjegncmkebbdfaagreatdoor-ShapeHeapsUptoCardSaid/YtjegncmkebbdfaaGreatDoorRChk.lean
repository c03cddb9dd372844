/-
  What is reached in a given graph, checked: plain Lean. No condition.
-/
import Derived.Test.YtjegncmkebbdfaaGreatDoorGrp30
set_option linter.unusedSimpArgs false
set_option linter.unusedVariables false
namespace Go.Proofs.YtjegncmkebbdfaaGreatDoor
def chkC (L : List NodeC) (roots q : List IDE) : Bool :=
  roots.all (fun r => (firstN L r).isNone || decide (r ∈ q)) && q.all fun x => match firstN L x with | none => false | some n => (refsOf n).all fun y => (firstN L y).isNone || decide (y ∈ q)
/-- Each is a root, or an earlier one refers to it. -/
def chkS (L : List NodeC) (roots : List IDE) : List IDE → List IDE → Bool
  | _, [] => true
  | done, x :: q => (decide (x ∈ roots) || done.any fun a => match firstN L a with | none => false | some n => decide (x ∈ refsOf n)) && chkS L roots (x :: done) q
theorem chkS_sound {L : List NodeC} {roots : List IDE} : ∀ {q done : List IDE}, chkS L roots done q = true → (∀ x ∈ q, (firstN L x).isSome) → (∀ x ∈ done, Reach L roots x) → ∀ x ∈ q, Reach L roots x
  | [], _, _, _, _, x, hx => by cases hx
  | y :: q, done, h, hs, hd, x, hx => by
    unfold chkS at h
    rw [Bool.and_eq_true, Bool.or_eq_true, decide_eq_true_eq, List.any_eq_true] at h
    have hy : Reach L roots y := by
      rcases h.1 with h1 | ⟨a, ha, h1⟩
      · exact .root h1 (hs y List.mem_cons_self)
      · cases hn : firstN L a with
        | none => rw [hn] at h1; cases h1
        | some n => rw [hn] at h1; exact .step (hd a ha) hn (by simpa using h1) (hs y List.mem_cons_self)
    rcases List.mem_cons.1 hx with rfl | hx
    · exact hy
    · exact chkS_sound h.2 (fun z hz => hs z (List.mem_cons_of_mem _ hz)) (fun z hz => by
        rcases List.mem_cons.1 hz with rfl | hz
        · exact hy
        · exact hd z hz) x hx
theorem chk_reach {L : List NodeC} {roots q : List IDE} (hc : chkC L roots q = true) (hs : chkS L roots [] q = true) (x : IDE) : x ∈ q ↔ Reach L roots x := by
  unfold chkC at hc
  rw [Bool.and_eq_true, List.all_eq_true, List.all_eq_true] at hc
  obtain ⟨h1, h2⟩ := hc
  have hn : ∀ x ∈ q, ∃ n, firstN L x = some n ∧ ∀ y ∈ refsOf n, (firstN L y).isSome → y ∈ q := fun x hx => by
    have h3 := h2 x hx
    cases hf : firstN L x with
    | none => rw [hf] at h3; cases h3
    | some n =>
      rw [hf] at h3
      refine ⟨n, rfl, fun y hy hs => ?_⟩
      have h4 := List.all_eq_true.1 h3 y hy
      rw [Bool.or_eq_true, decide_eq_true_eq] at h4
      rcases h4 with h4 | h4
      · cases hz : firstN L y with
        | none => rw [hz] at hs; cases hs
        | some m => rw [hz] at h4; cases h4
      · exact h4
  constructor
  · exact fun hx => chkS_sound hs (fun z hz => by obtain ⟨n, e, _⟩ := hn z hz; rw [e]; rfl) (fun z hz => by cases hz) x hx
  · intro hr
    induction hr with
    | @root r hr hs =>
      have h4 := h1 r hr
      rw [Bool.or_eq_true, decide_eq_true_eq] at h4
      rcases h4 with h4 | h4
      · cases hz : firstN L r with
        | none => rw [hz] at hs; cases hs
        | some m => rw [hz] at h4; cases h4
      · exact h4
    | @step a y n ha hna hy hs ih =>
      obtain ⟨m, e, h5⟩ := hn a ih
      rw [hna] at e
      injection e with e
      subst e
      exact h5 y hy hs
def chkI : List IDE → Bool
  | [] => true
  | x :: q => q.all (fun y => decide (ltI x y)) && chkI q
theorem chkI_sorted : ∀ {q : List IDE}, chkI q = true → SortedI q
  | [], _ => .nil
  | x :: q, h => by
    unfold chkI at h
    rw [Bool.and_eq_true, List.all_eq_true] at h
    exact List.pairwise_cons.2 ⟨fun y hy => by simpa using h.1 y hy, chkI_sorted h.2⟩
theorem chk_reachL {L : List NodeC} {roots q : List IDE} (hi : chkI q = true) (hc : chkC L roots q = true) (hs : chkS L roots [] q = true) : ReachL L roots q := ⟨chkI_sorted hi, chk_reach hc hs⟩
end Go.Proofs.YtjegncmkebbdfaaGreatDoor
