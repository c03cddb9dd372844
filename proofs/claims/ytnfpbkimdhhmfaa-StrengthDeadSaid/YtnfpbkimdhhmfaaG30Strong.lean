/-
  Contracts of the functions of this seat that each theorem names: what a call returns, and that it writes nothing that was there before. The conditions stand in each theorem.
-/
import Derived.Test.YtnfpbkimdhhmfaaGWeak
import Derived.Test.YtnfpbkimdhhmfaaG30Data
namespace Go.Proofs.Ytnfpbkimdhhmfaa
open Go.RowKit
attribute [local go_sem ↓] run_eql_id run_neq_id
theorem strong_any (A : Option Addr) (c : Nat) (l : List NodeE) (RA : Option Addr) (rc : Nat) (roots : List IDE) (w : World) (H : NodesAt w A l) (hs : SlAt IDE.cells 2 w RA roots) (hl : l.length ≤ 10000) (hf : ∀ n ∈ l, n.fields.length ≤ 10000) (hr : roots.length ≤ 10000) :
    Calls Try.prog 16 #[.agg #[.slice A l.length c], .slice RA roots.length rc] w (ReachPost (conL l) roots w) := by
  have HL := H.later
  have HR : ∀ u [Later w u], SlAt IDE.cells 2 u RA roots := fun u i => hs.below i.below
  go_enter Try.func16, Try.ntmps16
  go_upto_region 1 with fail
  refine wp_name ?_
  intro w0 hw0
  obtain ⟨B0, l0⟩ := box1 hw0
  clear hw0
  go_wp2_with (go_at_call 33; refine (reach_any A c l RA rc roots _ (HL _) (HR _) hl hf hr).mono ?_; rintro r w1 ⟨q, QA, Qc, hq, rfl, hoq, hb1⟩; have l1 := later hb1)
  go_ret
  exact ⟨q, QA, Qc, hq, rfl, hoq.mono (show Below w.heap.size w w0 from below_of).size, below_of⟩
theorem tgtS_mem {L : List NodeC} {strong : List IDE} {x : IDE} : x ∈ tgtS L strong ↔ strong.any (weakRef L x) = true := by
  unfold tgtS
  rw [List.mem_flatMap, List.any_eq_true]
  constructor
  · rintro ⟨s, hs, h⟩
    refine ⟨s, hs, ?_⟩
    unfold tgt1 at h
    unfold weakRef
    split at h
    · rename_i n hn
      split at h
      · rename_i hk
        obtain ⟨v, hv, hr⟩ := List.mem_map.1 h
        obtain ⟨hv1, hv2⟩ := List.mem_filter.1 hv
        rw [hn]
        unfold refersN
        simp only [Bool.and_eq_true, List.any_eq_true, beq_iff_eq, decide_eq_true_eq]
        exact ⟨hk, v, hv1, by simpa using hv2, hr⟩
      · cases h
    · cases h
  · rintro ⟨s, hs, h⟩
    refine ⟨s, hs, ?_⟩
    unfold weakRef at h
    unfold tgt1
    split at h
    · rename_i n hn
      unfold refersN at h
      simp only [Bool.and_eq_true, List.any_eq_true, beq_iff_eq, decide_eq_true_eq] at h
      obtain ⟨hk, v, hv, h1, h2⟩ := h
      rw [hn]
      simp only [hk, if_true]
      exact List.mem_map.2 ⟨v, List.mem_filter.2 ⟨hv, by simpa using h1⟩, h2⟩
    · cases h
theorem weakL_mem {L : List NodeC} {strong weak : List IDE} {x : IDE} : x ∈ weakL L strong weak ↔ weakP L strong weak x = true := by
  unfold weakL tgt wk weakP
  rw [List.mem_filter, List.mem_append, tgtS_mem]
  simp only [Bool.and_eq_true, Bool.or_eq_true, Bool.not_eq_true', decide_eq_true_eq, decide_eq_false_iff_not]
  constructor
  · rintro ⟨h1, h2, h3⟩; exact ⟨h2, h3, h1.symm⟩
  · rintro ⟨h1, h2, h3⟩; exact ⟨h3.symm, h1, h2⟩
theorem weakI_dec {L : List NodeC} {strong weak : List IDE} {x : IDE} : decide (x ∈ setI (weakL L strong weak)) = weakP L strong weak x := by
  rw [Bool.eq_iff_iff, decide_eq_true_iff, setI_mem, weakL_mem]
theorem weakI_len {l : List NodeE} {strong weak : List IDE} : (setI (weakL (conL l) strong weak)).length ≤ l.length := by
  have h1 := reach_len (l := conL l) (out := setI (weakL (conL l) strong weak)) (setI_sorted _).nodup fun x hx => by
    rw [setI_mem, weakL_mem] at hx
    unfold weakP at hx
    simp only [Bool.and_eq_true] at hx
    exact firstN_ids.1 (isStubN_some hx.1)
  have h2 : (conL l).length = l.length := by unfold conL; rw [List.length_map]
  omega
end Go.Proofs.Ytnfpbkimdhhmfaa
