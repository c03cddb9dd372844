/-
  Contracts of the functions of this seat that each theorem names: what a call returns, and that it writes nothing that was there before. The conditions stand in each theorem.
-/
import Derived.Test.YtomgdkfoinojiaaS32Find2
import Derived.Deep.RegionHeld3
namespace Go.Proofs.Ytomgdkfoinojiaa
open Go.RowKit
attribute [local simp] heap_drew
/-- An answer, out of what a search found. -/
def AnsP (m o n ep lu : Int) (f : Option SumC) (w : World) (r : Ending) (w' : World) : Prop := ∃ (A : Option Addr) (c : Nat) (il : List InsetE), r = .returned (.agg #[.int .i64 m, .int .i64 o, .int .u64 n, .int .i64 ep, .bool f.isSome, .bool (f.getD zeroS).rooted, .int .i64 (if f.isSome then lu else 0), .slice A il.length c]) ∧
  Hid (il = (f.getD zeroS).inset) ∧ SlAt InsetE.cells 3 w' A il ∧ (il ≠ [] → ∀ b o', A = some ⟨b, o', none⟩ → w.heap.size ≤ b) ∧ Below w.heap.size w w'
theorem ans_set8 {w : World} {g : Nat} {a0 a1 a2 a3 a4 a5 a6 a7 v0 v1 v2 v3 v4 v5 v6 v7 : Value} {t : TypeId} (h : w.heap[g]? = some (.cells #[a0, a1, a2, a3, a4, a5, a6, a7] t (0, 0))) :
    ((((((((w.setCell ⟨g, 0, none⟩ v0).setCell ⟨g, 1, none⟩ v1).setCell ⟨g, 2, none⟩ v2).setCell ⟨g, 3, none⟩ v3).setCell ⟨g, 4, none⟩ v4).setCell ⟨g, 5, none⟩ v5).setCell ⟨g, 6, none⟩ v6).setCell ⟨g, 7, none⟩ v7).heap[g]? = some (.cells #[v0, v1, v2, v3, v4, v5, v6, v7] t (0, 0)) :=
  (blk_set (blk_set (blk_set (blk_set (blk_set (blk_set (blk_set (blk_set h 0 v0) 1 v1) 2 v2) 3 v3) 4 v4) 5 v5) 6 v6) 7 v7).trans (by simp)
theorem ans_below8 {B : Nat} {w0 w : World} {g : Nat} {v0 v1 v2 v3 v4 v5 v6 v7 : Value} (h : Below B w0 w) (hg : B ≤ g) :
    Below B w0 ((((((((w.setCell ⟨g, 0, none⟩ v0).setCell ⟨g, 1, none⟩ v1).setCell ⟨g, 2, none⟩ v2).setCell ⟨g, 3, none⟩ v3).setCell ⟨g, 4, none⟩ v4).setCell ⟨g, 5, none⟩ v5).setCell ⟨g, 6, none⟩ v6).setCell ⟨g, 7, none⟩ v7) :=
  (((((((h.setCell (p := ⟨g, 0, none⟩) hg v0).setCell (p := ⟨g, 1, none⟩) hg v1).setCell (p := ⟨g, 2, none⟩) hg v2).setCell (p := ⟨g, 3, none⟩) hg v3).setCell (p := ⟨g, 4, none⟩) hg v4).setCell (p := ⟨g, 5, none⟩) hg v5).setCell (p := ⟨g, 6, none⟩) hg v6).setCell (p := ⟨g, 7, none⟩) hg v7
/-- A slice whose block is none of the answer's. -/
theorem slAt_set8 {w : World} {g : Nat} {A : Option Addr} {il : List InsetE} {v0 v1 v2 v3 v4 v5 v6 v7 : Value} (h : SlAt InsetE.cells 3 w A il) (hg : il ≠ [] → ∀ b o, A = some ⟨b, o, none⟩ → b ≠ g) :
    SlAt InsetE.cells 3 ((((((((w.setCell ⟨g, 0, none⟩ v0).setCell ⟨g, 1, none⟩ v1).setCell ⟨g, 2, none⟩ v2).setCell ⟨g, 3, none⟩ v3).setCell ⟨g, 4, none⟩ v4).setCell ⟨g, 5, none⟩ v5).setCell ⟨g, 6, none⟩ v6).setCell ⟨g, 7, none⟩ v7) A il := fun hl => by
  obtain ⟨b, o, e, hb, hc⟩ := h hl
  refine ⟨b, o, e, by simpa [World.setCell] using hb, fun k x hk j u hu => ?_⟩
  have hne := hg hl b o e
  have := hc k x hk j u hu
  unfold World.cell? at this ⊢
  rw [blk_far (p := ⟨g, 7, none⟩) hne, blk_far (p := ⟨g, 6, none⟩) hne, blk_far (p := ⟨g, 5, none⟩) hne, blk_far (p := ⟨g, 4, none⟩) hne, blk_far (p := ⟨g, 3, none⟩) hne, blk_far (p := ⟨g, 2, none⟩) hne, blk_far (p := ⟨g, 1, none⟩) hne, blk_far (p := ⟨g, 0, none⟩) hne]
  exact this
end Go.Proofs.Ytomgdkfoinojiaa
