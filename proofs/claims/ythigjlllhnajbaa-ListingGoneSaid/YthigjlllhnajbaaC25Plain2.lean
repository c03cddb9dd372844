/-
  Valid lists of chapter 25, in plain Lean. No condition.
-/
import Derived.Test.YthigjlllhnajbaaC25Plain
import Derived.Test.YthigjlllhnajbaaGrpA
namespace Go.Proofs.Ythigjlllhnajbaa
/-- Up to k, distances are not negative and numbers increase. -/
def OkTo (l : List ListedE) (k : Nat) : Prop := ∀ (i : Nat) (e : ListedE), i < k → l[i]? = some e → 0 ≤ e.distance ∧ ∀ (j : Nat) (p : ListedE), i = j + 1 → l[j]? = some p → p.number < e.number
def okB : List ListedE → Bool
  | [] => true
  | [x] => decide (0 ≤ x.distance)
  | x :: y :: l => decide (0 ≤ x.distance) && (decide (x.number < y.number) && okB (y :: l))
theorem okB_iff : ∀ l : List ListedE, okB l = true ↔ OkTo l l.length
  | [] => by simp [okB, OkTo]
  | [x] => by
    simp only [okB, decide_eq_true_eq]
    constructor
    · intro h i e hi he
      have : i = 0 := by simp at hi; omega
      subst this
      simp at he; subst he
      exact ⟨h, fun j p hj => by omega⟩
    · intro h; exact (h 0 x (by simp) rfl).1
  | x :: y :: l => by
    simp only [okB, Bool.and_eq_true, decide_eq_true_eq, okB_iff (y :: l)]
    constructor
    · rintro ⟨h1, h2, h3⟩ i e hi he
      cases i with
      | zero => simp at he; subst he; exact ⟨h1, fun j p hj => by omega⟩
      | succ i =>
        have he' : (y :: l)[i]? = some e := by simpa using he
        obtain ⟨a, b⟩ := h3 i e (by simp at hi ⊢; omega) he'
        refine ⟨a, fun j p hj hp => ?_⟩
        cases j with
        | zero =>
          have : i = 0 := by omega
          subst this
          simp at he' hp; subst he' hp; exact h2
        | succ j => exact b j p (by omega) (by simpa using hp)
    · intro h
      refine ⟨(h 0 x (by simp) rfl).1, (h 1 y (by simp) rfl).2 0 x rfl rfl, fun i e hi he => ?_⟩
      obtain ⟨a, b⟩ := h (i + 1) e (by simp at hi ⊢; omega) (by simpa using he)
      exact ⟨a, fun j p hj hp => b (j + 1) p (by omega) (by simpa using hp)⟩
theorem OkTo.zero {l : List ListedE} : OkTo l 0 := fun i e h => absurd h (by omega)
theorem OkTo.succ {l : List ListedE} {k : Nat} {x : ListedE} (h : OkTo l k) (hx : l[k]? = some x) (hd : 0 ≤ x.distance) (hn : ∀ (j : Nat) (p : ListedE), k = j + 1 → l[j]? = some p → p.number < x.number) : OkTo l (k + 1) := by
  intro i e hi he
  rcases Nat.lt_or_ge i k with h' | h'
  · exact h i e h' he
  · have : i = k := by omega
    subst this
    rw [hx] at he; injection he with he; subst he
    exact ⟨hd, hn⟩
theorem okB_neg {l : List ListedE} {k : Nat} {x : ListedE} (hx : l[k]? = some x) (hd : x.distance < 0) : okB l = false := by
  cases h : okB l with
  | false => rfl
  | true => have := ((okB_iff l).1 h k x (List.getElem?_eq_some_iff.1 hx).1 hx).1; omega
theorem okB_num {l : List ListedE} {j : Nat} {x p : ListedE} (hx : l[j + 1]? = some x) (hp : l[j]? = some p) (hd : x.number ≤ p.number) : okB l = false := by
  cases h : okB l with
  | false => rfl
  | true => have := ((okB_iff l).1 h (j + 1) x (List.getElem?_eq_some_iff.1 hx).1 hx).2 j p rfl hp; omega
def headB (round sent received : Int) (n : Nat) : Bool := decide (1 ≤ round) && (decide (0 ≤ sent) && (decide (0 ≤ received) && decide (n ≤ 1024)))
def validB (L : ListV) : Bool := headB L.round L.sent L.received L.entries.length && okB L.entries
def readyB (L : ListV) (last received : Int) : Bool := validB L && (decide (last < L.round) && decide (L.sent ≤ received))
def entryI (l : List ListedE) (n : Int) : Int := idxOf (fun x => decide (x.number = n)) l
theorem entryI_find (l : List ListedE) (n : Int) : (entryI l n = -1 ∧ findL l n = none) ∨ ∃ (k : Nat) (x : ListedE), entryI l n = (k : Int) ∧ l[k]? = some x ∧ findL l n = some x := by
  rcases idxOf_cases (fun x : ListedE => decide (x.number = n)) l with ⟨h, hno⟩ | ⟨k, x, h, hx, hp, hno⟩
  · exact .inl ⟨h, find_miss hno⟩
  · exact .inr ⟨k, x, h, hx, find_hit hx hp hno⟩
end Go.Proofs.Ythigjlllhnajbaa
