/-
  Contracts of the functions of this seat that each theorem names: what a call returns, and that it writes nothing that was there before. The conditions stand in each theorem.
-/
import Derived.Test.YtnfpbkimdhhmfaaGCompact
import Derived.Test.YtnfpbkimdhhmfaaGFind2
namespace Go.Proofs.Ytnfpbkimdhhmfaa
open Go.RowKit
/-- What Set gives: the increasing list of the members, in a slice of the call's own. -/
def SetIPost (l : List IDE) (w : World) (r : Ending) (w' : World) : Prop := ∃ q A c, Hid (q = setI l) ∧ r = .returned (.slice A q.length c) ∧ Own IDE.cells 2 37 w.heap.size w' (.slice A q.length c) q ∧ Below w.heap.size w w'
set_option maxRecDepth 100000 in
set_option maxHeartbeats 2000000 in
theorem setI_any (A : Option Addr) (c : Nat) (l : List IDE) (w : World) (hs : SlAt IDE.cells 2 w A l) (hl : l.length ≤ 1000000000) :
    Calls Try.prog 35 #[.slice A l.length c] w (SetIPost l w) := by
  go_enter Try.func35, Try.ntmps35
  go_wp2_with (go_at_call 45; refine (cloneI_any A c l w hs hl).mono ?_)
  rintro r w1 ⟨A1, c1, rfl, h1, h2, ho1, hb1⟩
  go_wp2_with (go_at_call 46; refine (sortIds A1 c1 l w.heap.size w1 ho1 (by omega) hb1.size).mono ?_)
  rintro r w2 ⟨rfl, d, hp, hpw, ho2, hb2, hg2⟩
  have hdl := hide hp.length_eq
  have hb02 : Below w.heap.size w w2 := hb1.trans hb2
  rw [← hdl.out] at ho2 ⊢
  have hq : cpt d = setI l := setI_unique (cpt_strict (sortedJ hpw)) fun x => (cpt_mem d x).trans hp.mem_iff
  go_wp2_with (go_at_call 50; refine (compact_any A1 c1 d w.heap.size w2 ho2 (by rw [hdl.out]; exact hl) hb02.size).mono ?_)
  rintro r w3 ⟨q, hqq, rfl, ho3, hb3⟩
  go_wp2_with fail
  go_ret
  exact ⟨q, A1, c1, hide (hqq.out.trans hq), rfl, ho3, hb02.trans hb3⟩
end Go.Proofs.Ytnfpbkimdhhmfaa
