/-
  Contracts of the functions of this seat that each theorem names: what a call returns, and that it writes nothing that was there before. The conditions stand in each theorem.
-/
import Derived.Test.YtjegncmkebbdfaaGreatDoorGrp33
import Derived.Test.YtjegncmkebbdfaaGreatDoorGrp70
set_option linter.unusedSimpArgs false
set_option linter.unusedVariables false
namespace Go.Proofs.YtjegncmkebbdfaaGreatDoor
open Go.RowKit
attribute [local go_sem ↓] run_eql_id run_neq_id
theorem ltI_tri {x y : IDE} (h : ¬ ltI x y) (k : x ≠ y) : ltI y x := by
  rcases ltI_total x y with h1 | h1 | h1
  · exact absurd h1 h
  · exact absurd h1 k
  · exact h1
theorem ideq_dec (x y : IDE) : ideq x.machine x.serial y.machine y.serial = decide (x = y) := ideq_iff
/-! ### Compact -/
def cptStep (acc : List IDE) (x : IDE) : List IDE := if acc.getLast? = some x then acc else acc ++ [x]
def cpt (l : List IDE) : List IDE := l.foldl cptStep []
theorem cpt_last (l : List IDE) : (cpt l).getLast? = l.getLast? := by
  rcases List.eq_nil_or_concat l with rfl | ⟨l', x, rfl⟩
  · rfl
  · rw [List.concat_eq_append]
    unfold cpt
    rw [List.foldl_append]
    simp only [List.foldl_cons, List.foldl_nil, cptStep]
    split
    · rename_i h; rw [h]; simp
    · simp
theorem cpt_snoc (l : List IDE) (x : IDE) : cpt (l ++ [x]) = if l.getLast? = some x then cpt l else cpt l ++ [x] := by
  have h : cpt (l ++ [x]) = cptStep (cpt l) x := by unfold cpt; rw [List.foldl_append]; rfl
  rw [h, cptStep, cpt_last]
theorem cpt_mem (l : List IDE) : ∀ x, x ∈ cpt l ↔ x ∈ l := by
  have : ∀ (r : List IDE) (x : IDE), x ∈ cpt r.reverse ↔ x ∈ r.reverse := by
    intro r
    induction r with
    | nil => intro x; simp [cpt]
    | cons y r ih =>
      intro x
      rw [List.reverse_cons, cpt_snoc]
      split
      · rename_i h
        rw [ih, List.mem_append, List.mem_singleton]
        constructor
        · exact .inl
        · rintro (h1 | rfl)
          · exact h1
          · exact List.mem_of_getLast? h
      · rw [List.mem_append, List.mem_append, ih]
  have h := this l.reverse
  rwa [List.reverse_reverse] at h
theorem cpt_take {l : List IDE} {k : Nat} {x y : IDE} (hx : l[k]? = some x) (hy : l[k + 1]? = some y) : cpt (l.take (k + 1 + 1)) = if x = y then cpt (l.take (k + 1)) else cpt (l.take (k + 1)) ++ [y] := by
  rw [take_snoc_get hy, cpt_snoc, take_snoc_get hx]
  simp
theorem cpt_le (l : List IDE) : (cpt l).length ≤ l.length := by
  have : ∀ (r : List IDE), (cpt r.reverse).length ≤ r.length := by
    intro r
    induction r with
    | nil => simp [cpt]
    | cons y r ih =>
      rw [List.reverse_cons, cpt_snoc]
      split
      · simp only [List.length_cons]; omega
      · simp only [List.length_append, List.length_cons, List.length_nil]; omega
  have h := this l.reverse
  rwa [List.reverse_reverse, List.length_reverse] at h
theorem cpt_strict {l : List IDE} (h : l.Pairwise fun x y => ¬ ltI y x) : SortedI (cpt l) := by
  have : ∀ (r : List IDE), r.reverse.Pairwise (fun x y => ¬ ltI y x) → SortedI (cpt r.reverse) := by
    intro r
    induction r with
    | nil => intro _; exact List.Pairwise.nil
    | cons y r ih =>
      rw [List.reverse_cons, cpt_snoc]
      intro hp
      rw [List.pairwise_append] at hp
      obtain ⟨h1, -, h3⟩ := hp
      split
      · exact ih h1
      · rename_i hl
        refine List.pairwise_append.2 ⟨ih h1, by simp, fun a ha b hb => ?_⟩
        rw [List.mem_singleton] at hb
        subst hb
        rw [cpt_mem] at ha
        obtain ⟨r', z, hr⟩ : ∃ r' z, r.reverse = r' ++ [z] := by
          rcases List.eq_nil_or_concat r.reverse with e | ⟨r', z, e⟩
          · rw [e] at ha; cases ha
          · exact ⟨r', z, by rw [e, List.concat_eq_append]⟩
        have hz : ltI z b := by
          have hzb : ¬ ltI b z := h3 z (by rw [hr]; simp) b (by simp)
          by_cases e : b = z
          · subst e; rw [hr] at hl; simp at hl
          · exact ltI_tri hzb e
        rw [hr] at ha h1
        rcases List.mem_append.1 ha with ha | ha
        · have haz := (List.pairwise_append.1 h1).2.2 a ha z (by simp)
          by_cases e : z = a
          · subst e; exact hz
          · exact ltI_trans (ltI_tri haz e) hz
        · rw [List.mem_singleton] at ha; subst ha; exact hz
  have k := this l.reverse
  rw [List.reverse_reverse] at k
  exact k h
theorem id_at {A : Option Addr} {l : List IDE} {w : World} (h : SlAt IDE.cells 2 w A l) {k : Nat} {x : IDE} (hx : l[k]? = some x) : ∃ b off, A = some ⟨b, off, none⟩ ∧ (∀ u [Later w u], u.cell? ⟨b, off + k * 2, none⟩ = some (.int .i64 x.machine)) ∧ (∀ u [Later w u], u.cell? ⟨b, off + k * 2 + 1, none⟩ = some (.int .i64 x.serial)) := by
  obtain ⟨b, off, e, hlt, hc⟩ := h (by rintro rfl; simp at hx)
  refine ⟨b, off, e, Later.cell (b := w) ?_, Later.cell (b := w) ?_⟩
  · simpa using hc k x hx 0 _ rfl
  · exact hc k x hx 1 _ rfl
theorem zeroId (w : World) : (zeroValue 44).run Tryz.prog w = .ok (.agg #[.int .i64 0, .int .i64 0]) w := by kernel_rfl
end Go.Proofs.YtjegncmkebbdfaaGreatDoor
