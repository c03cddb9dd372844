/-
  Decoding a list, in plain Lean. No condition.
-/
import Derived.Test.YthigjlllhnajbaaWireRead6
import Derived.Test.YthigjlllhnajbaaC25Encode
namespace Go.Proofs.Ythigjlllhnajbaa
abbrev St := List Int × Int
def rdE (st : St) : ListedE × St := (⟨(rdU st).1, unzig (rdU (rdU st).2).1, (rdB (rdU (rdU st).2).2).1⟩, (rdB (rdU (rdU st).2).2).2)
def rdEs : Nat → St → List ListedE × St
  | 0, st => ([], st)
  | k + 1, st => ((rdEs k st).1 ++ [(rdE (rdEs k st).2).1], (rdE (rdEs k st).2).2)
theorem rdEs_len : ∀ (k : Nat) (st : St), (rdEs k st).1.length = k
  | 0, _ => rfl
  | k + 1, st => by simp [rdEs, rdEs_len k st]
/-- The three numbers ahead, and the reader behind them. -/
def rdH (b : List Int) : (Int × Int × Int) × St :=
  ((unzig (rdU (b, 0)).1, unzig (rdU (rdU (b, 0)).2).1, unzig (rdU (rdU (rdU (b, 0)).2).2).1), (rdU (rdU (rdU (b, 0)).2).2).2)
def rdN (b : List Int) : Int × St := rdC 1024 (rdH b).2
def rdL (b : List Int) : List ListedE × St := rdEs (rdN b).1.toNat (rdN b).2
def endE (st : St) : Int := if st.2 = 0 ∧ st.1 ≠ [] then 11 else st.2
/-- What Decode answers: three numbers, entries, an error. -/
def decL (b : List Int) : (Int × Int × Int) × List ListedE × Int :=
  if endE (rdL b).2 = 0 then
    (if headB (rdH b).1.1 (rdH b).1.2.1 (rdH b).1.2.2 (rdL b).1.length && okB (rdL b).1 then ((rdH b).1, (rdL b).1, 0) else ((0, 0, 0), [], 11))
  else ((0, 0, 0), [], endE (rdL b).2)
theorem rdC_range {m : Int} {st : St} (hm : 0 ≤ m) (h : Bytes st.1) : 0 ≤ (rdC m st).1 ∧ (rdC m st).1 ≤ m := by
  have hr := rdU_range h
  unfold rdC
  split
  · split
    · rename_i h2
      unfold cntE at h2
      split at h2
      · cases h2
      · exact ⟨hr.1, by omega⟩
    · exact ⟨by simp, by simpa using hm⟩
  · exact ⟨by simp, by simpa using hm⟩
end Go.Proofs.Ythigjlllhnajbaa
