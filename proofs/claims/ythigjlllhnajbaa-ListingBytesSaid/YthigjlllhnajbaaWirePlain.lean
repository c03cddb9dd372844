/-
  The byte forms of numbers and truth values, in plain Lean. No condition.
-/
import Derived.Test.YthigjlllhnajbaaPlainLib
namespace Go.Proofs.Ythigjlllhnajbaa
/-- The digits of a number at base 256, the greatest first. -/
def digs (n : Nat) : List Int := if h : n = 0 then [] else digs (n / 256) ++ [((n % 256 : Nat) : Int)]
termination_by n
decreasing_by omega
theorem digs_zero : digs 0 = [] := by rw [digs]; simp
theorem digs_pos {n : Nat} (h : 0 < n) : digs n = digs (n / 256) ++ [((n % 256 : Nat) : Int)] := by
  rw [digs]; simp [Nat.ne_of_gt h]
theorem digs_len_pos {n : Nat} (h : 0 < n) : (digs n).length = (digs (n / 256)).length + 1 := by rw [digs_pos h]; simp
theorem digs_len {k : Nat} : ∀ {n : Nat}, n < 256 ^ k → (digs n).length ≤ k := by
  induction k with
  | zero => intro n h; have : n = 0 := by simpa using h
            subst this; simp [digs_zero]
  | succ k ih =>
    intro n h
    by_cases h0 : n = 0
    · subst h0; simp [digs_zero]
    · rw [digs_len_pos (by omega)]
      have : n / 256 < 256 ^ k := by
        rw [Nat.div_lt_iff_lt_mul (by omega)]; rw [Nat.pow_succ] at h; exact h
      have := ih this
      omega
theorem digs_get : ∀ (n j : Nat), j < (digs n).length → (digs n)[j]? = some ((n / 256 ^ ((digs n).length - 1 - j) % 256 : Nat) : Int) := by
  intro n
  induction n using Nat.strongRecOn with
  | _ n ih =>
    intro j hj
    by_cases h0 : n = 0
    · subst h0; simp [digs_zero] at hj
    · have hp := digs_pos (n := n) (by omega)
      have hl := digs_len_pos (n := n) (by omega)
      by_cases hjl : j = (digs n).length - 1
      · rw [hjl, Nat.sub_self, hp, List.length_append, List.length_singleton, Nat.add_sub_cancel, List.getElem?_append_right (Nat.le_refl _)]
        simp
      · have hj' : j < (digs (n / 256)).length := by omega
        have h1 := ih (n / 256) (by omega) j hj'
        have e : (digs n)[j]? = (digs (n / 256))[j]? := by rw [hp, List.getElem?_append_left hj']
        rw [e, h1]
        have e2 : (digs n).length - 1 - j = (digs (n / 256)).length - 1 - j + 1 := by omega
        rw [e2, Nat.pow_succ, Nat.mul_comm, Nat.div_div_eq_div_mul]
theorem digs_range {n : Nat} : ∀ x ∈ digs n, 0 ≤ x ∧ x < 256 := by
  intro x hx
  obtain ⟨j, hj⟩ := List.getElem?_of_mem hx
  have hl := (List.getElem?_eq_some_iff.1 hj).1
  rw [digs_get n j hl] at hj
  injection hj with hj
  omega
def uintL (n : Int) : List Int := ((digs n.toNat).length : Int) :: digs n.toNat
def zig (n : Int) : Int := if 0 ≤ n then 2 * n else 2 * (-(n + 1)) + 1
def intL (n : Int) : List Int := uintL (zig n)
def boolL (b : Bool) : List Int := [if b then 1 else 0]
theorem uintL_len {n : Int} (h : n < 18446744073709551616) : (uintL n).length ≤ 9 := by
  unfold uintL
  have : (digs n.toNat).length ≤ 8 := digs_len (by omega)
  simp; omega
theorem zig_range {n : Int} (h1 : -9223372036854775808 ≤ n) (h2 : n < 9223372036854775808) : 0 ≤ zig n ∧ zig n < 18446744073709551616 := by
  unfold zig; split <;> omega
theorem intL_len {n : Int} (h1 : -9223372036854775808 ≤ n) (h2 : n < 9223372036854775808) : (intL n).length ≤ 9 := uintL_len (zig_range h1 h2).2
end Go.Proofs.Ythigjlllhnajbaa
