/-
  Both programs list the same traces: plain Lean. No condition.
-/
import Derived.Test.YtnjpmpelgigmjaaC34Sort
import Derived.Test.YtnjpmpelgigmjaaC34PlainT
namespace Go.Proofs.Ytnjpmpelgigmjaa
theorem strict_unique {l l' : List TraceE} (h : StrictT l) (h' : StrictT l') (hm : ∀ x, x ∈ l ↔ x ∈ l') : l = l' :=
  sorted_unique (r := ltT) (fun _ _ a b => absurd b (ltT_asymm a)) ((List.perm_ext_iff_of_nodup h.nodup h'.nodup).2 hm) h h'
/-- Both programs list the same traces. -/
theorem locked_both {ls d : List TraceE} (hp : d.Perm ls) (hs : d.Pairwise fun x y => Go.Proofs.ltOf cmpT y x = false) : (cpt d).filter (fun t => !zeroT t) = lockedL ls := by
  have hs' : d.Pairwise fun x y => ¬ ltT y x := hs.imp fun h => by rw [cmpT_lt] at h; simpa [ltT] using h
  refine strict_unique ((cpt_strict hs').filter _) (locked_strict ls) fun x => ?_
  rw [List.mem_filter, cpt_mem, hp.mem_iff, locked_mem]
  simp
end Go.Proofs.Ytnjpmpelgigmjaa
