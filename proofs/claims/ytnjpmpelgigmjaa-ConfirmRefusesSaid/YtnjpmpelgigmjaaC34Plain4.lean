/-
  Plain laws of chapter 34: what makes a claim fail. Conditions stand in each theorem.
-/
import Derived.Test.YtnjpmpelgigmjaaC34Plain3
namespace Go.Proofs.Ytnjpmpelgigmjaa
open Go.RowKit
theorem check_no_stub {c : ClaimV} {t : TraceE} {ep : Int} {S : List StubE} {N : List ScionE} {r : List Int} {n : NeedE} (hn : n ∈ c.stubs) (h : quietB n t S = false ∨ arrivedB n.peer n.stamp r = false) : checkB c t ep S N r = false := by
  cases hc : checkB c t ep S N r with
  | false => rfl
  | true =>
    obtain ⟨_, _, h2, _, _⟩ := check_iff.1 hc
    have := h2 n hn
    rcases h with h | h <;> simp_all
theorem check_no_scion {c : ClaimV} {t : TraceE} {ep : Int} {S : List StubE} {N : List ScionE} {r : List Int} {n : NeedE} (hn : n ∈ c.scions) (h : scionB n t N = false) : checkB c t ep S N r = false := by
  cases hc : checkB c t ep S N r with
  | false => rfl
  | true =>
    obtain ⟨_, _, _, _, h4⟩ := check_iff.1 hc
    have := h4 n hn
    simp_all
theorem check_no_epoch {c : ClaimV} {t : TraceE} {ep : Int} {S : List StubE} {N : List ScionE} {r : List Int} (h : c.epoch ≠ ep) : checkB c t ep S N r = false := by
  cases hc : checkB c t ep S N r with
  | false => rfl
  | true =>
    obtain ⟨_, h1, _⟩ := check_iff.1 hc
    exact absurd h1 h
/-- The entry that a need names is turned to one that refuses. -/
theorem StubE.refuse {n : NeedE} {t : TraceE} {S : List StubE} {k : Nat} {x x' : StubE} (hx : S[k]? = some x) (hp : isStub n.peer n.number x = true) (hno : NoneTo (isStub n.peer n.number) S k) (he : isStub n.peer n.number x' = true) (hq : quietE t x' = false) :
    quietB n t (S.set k x') = false := by
  have hk := (List.getElem?_eq_some_iff.1 hx).1
  unfold quietB
  rw [find_hit (k := k) (x := x') (by rw [List.getElem?_set_self hk]) he (fun j y hj hy => hno j y hj (by rwa [List.getElem?_set_ne (by omega)] at hy))]
  exact hq
theorem StubE.missing {n : NeedE} {t : TraceE} {S : List StubE} (h : idxOf (isStub n.peer n.number) S = -1) : quietB n t S = false := by
  rcases idxOf_cases (isStub n.peer n.number) S with ⟨_, hno⟩ | ⟨k, y, hi, _⟩
  · unfold quietB; rw [find_miss hno]
  · omega

/-- The entry that a need names is turned to one that refuses. -/
theorem ScionE.refuse {n : NeedE} {t : TraceE} {S : List ScionE} {k : Nat} {x x' : ScionE} (hx : S[k]? = some x) (hp : isScion n.peer n.number x = true) (hno : NoneTo (isScion n.peer n.number) S k) (he : isScion n.peer n.number x' = true) (hq : scionE t x' = false) :
    scionB n t (S.set k x') = false := by
  have hk := (List.getElem?_eq_some_iff.1 hx).1
  unfold scionB
  rw [find_hit (k := k) (x := x') (by rw [List.getElem?_set_self hk]) he (fun j y hj hy => hno j y hj (by rwa [List.getElem?_set_ne (by omega)] at hy))]
  exact hq
theorem ScionE.missing {n : NeedE} {t : TraceE} {S : List ScionE} (h : idxOf (isScion n.peer n.number) S = -1) : scionB n t S = false := by
  rcases idxOf_cases (isScion n.peer n.number) S with ⟨_, hno⟩ | ⟨k, y, hi, _⟩
  · unfold scionB; rw [find_miss hno]
  · omega
theorem refused_stub {c : ClaimV} {t : TraceE} {ep : Int} {S : List StubE} {N : List ScionE} {r : List Int} {n : NeedE} {k : Nat} {x x' : StubE} (hn : n ∈ c.stubs) (hx : S[k]? = some x) (hp : isStub n.peer n.number x = true) (hno : NoneTo (isStub n.peer n.number) S k) (he : isStub n.peer n.number x' = true) (hq : quietE t x' = false) :
    checkB c t ep (S.set k x') N r = false := check_no_stub hn (.inl (StubE.refuse hx hp hno he hq))
theorem refused_scion {c : ClaimV} {t : TraceE} {ep : Int} {S : List StubE} {N : List ScionE} {r : List Int} {n : NeedE} {k : Nat} {x x' : ScionE} (hn : n ∈ c.scions) (hx : N[k]? = some x) (hp : isScion n.peer n.number x = true) (hno : NoneTo (isScion n.peer n.number) N k) (he : isScion n.peer n.number x' = true) (hq : scionE t x' = false) :
    checkB c t ep S (N.set k x') r = false := check_no_scion hn (ScionE.refuse hx hp hno he hq)
theorem wrap_ne (s : Int) : wrap64 (s + 1) ≠ s := by unfold wrap64; omega
theorem wrap_ne' (s : Int) : wrap64 (s - 1) ≠ s := by unfold wrap64; omega
end Go.Proofs.Ytnjpmpelgigmjaa
