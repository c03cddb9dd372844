/-
  Contracts of the functions of this seat that each theorem names: what a call returns, and that it writes nothing that was there before. The conditions stand in each theorem.
-/
import Derived.Test.YtomgdkfoinojiaaS32Plain
namespace Go.Proofs.Ytomgdkfoinojiaa
open Go.RowKit
theorem reachL_len {L : List NodeC} {roots q : List IDE} (h : ReachL L roots q) : q.length ≤ L.length := by
  have hn := h.1.nodup
  have hs : ∀ x ∈ q, x ∈ ids L := fun x hx => firstN_ids.1 ((h.2 x).1 hx).node
  have := hn.length_le_of_subset hs
  simpa [ids] using this
end Go.Proofs.Ytomgdkfoinojiaa
