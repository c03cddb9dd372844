/-
  Contracts of the functions of this seat that each theorem names: what a call returns, and that it writes nothing that was there before. The conditions stand in each theorem.
-/
import Derived.Test.YthigjlllhnajbaaC25PairAt
namespace Go.Proofs.Ythigjlllhnajbaa
open Go.RowKit
/-- What Ready answers of a list of the client. -/
theorem ready_eq (p : PairS) (L : LA) : readyB L.lv p.applied p.got = decide (readyP p L.lp) := by
  rw [Bool.eq_iff_iff, decide_eq_true_iff]
  simp only [readyB, validB, headB, LA.lv, readyP, Bool.and_eq_true, Bool.or_eq_true, Bool.not_eq_true', decide_eq_true_eq, decide_eq_false_iff_not]
  constructor <;> intro h <;> refine ⟨?_, ?_, ?_⟩ <;> first | omega | grind
end Go.Proofs.Ythigjlllhnajbaa
