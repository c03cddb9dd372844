/-
  Reading numbers back from bytes, in plain Lean. No condition.
-/
import Derived.Test.YthigjlllhnajbaaWirePlain
namespace Go.Proofs.Ythigjlllhnajbaa
def Bytes (l : List Int) : Prop := ∀ x ∈ l, 0 ≤ x ∧ x < 256
theorem Bytes.tail {x : Int} {l : List Int} (h : Bytes (x :: l)) : Bytes l := fun y hy => h y (List.mem_cons_of_mem _ hy)
theorem Bytes.take {l : List Int} (h : Bytes l) (k : Nat) : Bytes (l.take k) := fun x hx => h x (List.mem_of_mem_take hx)
theorem Bytes.drop {l : List Int} (h : Bytes l) (k : Nat) : Bytes (l.drop k) := fun x hx => h x (List.mem_of_mem_drop hx)
/-- The number that digits of base 256 stand for. -/
def valN (l : List Int) : Nat := l.foldl (fun a x => a * 256 + x.toNat) 0
theorem valN_snoc (l : List Int) (x : Int) : valN (l ++ [x]) = valN l * 256 + x.toNat := by simp [valN, List.foldl_append]
theorem valN_lt : ∀ (k : Nat) (l : List Int), l.length = k → Bytes l → valN l < 256 ^ k := by
  intro k
  induction k with
  | zero => intro l h _; have : l = [] := List.eq_nil_of_length_eq_zero h
            subst this; simp [valN]
  | succ k ih =>
    intro l h hb
    obtain ⟨l', x, rfl⟩ : ∃ l' x, l = l' ++ [x] := ⟨l.dropLast, l.getLast (by rintro rfl; simp at h), (List.dropLast_concat_getLast _).symm⟩
    rw [valN_snoc]
    have h1 := ih l' (by simpa using h) (fun y hy => hb y (List.mem_append_left _ hy))
    have h2 := hb x (by simp)
    rw [Nat.pow_succ]
    omega
theorem digs_valN : ∀ (k : Nat) (l : List Int), l.length = k → Bytes l → (∀ x, l[0]? = some x → x ≠ 0) → digs (valN l) = l ∧ (l ≠ [] → 0 < valN l) := by
  intro k
  induction k with
  | zero => intro l h _ _; have : l = [] := List.eq_nil_of_length_eq_zero h
            subst this; simp [valN, digs_zero]
  | succ k ih =>
    intro l h hb h0
    obtain ⟨l', x, rfl⟩ : ∃ l' x, l = l' ++ [x] := ⟨l.dropLast, l.getLast (by rintro rfl; simp at h), (List.dropLast_concat_getLast _).symm⟩
    have hx := hb x (by simp)
    have hb' : Bytes l' := fun y hy => hb y (List.mem_append_left _ hy)
    rw [valN_snoc]
    by_cases hl : l' = []
    · subst hl
      have : x ≠ 0 := h0 x rfl
      have hp : 0 < valN ([] : List Int) * 256 + x.toNat := by simp [valN]; omega
      refine ⟨?_, fun _ => hp⟩
      rw [digs_pos hp]
      have e1 : (valN ([] : List Int) * 256 + x.toNat) / 256 = 0 := by simp [valN]; omega
      have e2 : (((valN ([] : List Int) * 256 + x.toNat) % 256 : Nat) : Int) = x := by simp [valN]; omega
      rw [e1, e2, digs_zero]
    · obtain ⟨i1, i2⟩ := ih l' (by simpa using h) hb' (fun y hy => h0 y (by
        rw [List.getElem?_append_left (by have := (List.getElem?_eq_some_iff.1 hy).1; exact this)]; exact hy))
      have := i2 hl
      have hp : 0 < valN l' * 256 + x.toNat := by omega
      refine ⟨?_, fun _ => hp⟩
      rw [digs_pos hp]
      have e1 : (valN l' * 256 + x.toNat) / 256 = valN l' := by omega
      have e2 : (((valN l' * 256 + x.toNat) % 256 : Nat) : Int) = x := by omega
      rw [e1, e2, i1]
theorem digs_bytes (n : Nat) : Bytes (digs n) := digs_range
theorem valN_digs : ∀ n : Nat, valN (digs n) = n := by
  intro n
  induction n using Nat.strongRecOn with
  | _ n ih =>
    by_cases h0 : n = 0
    · subst h0; simp [digs_zero, valN]
    · rw [digs_pos (by omega), valN_snoc, ih (n / 256) (by omega)]
      simp; omega
theorem digs_head : ∀ (n : Nat) (x : Int), (digs n)[0]? = some x → x ≠ 0 := by
  intro n
  induction n using Nat.strongRecOn with
  | _ n ih =>
    intro x hx
    by_cases h0 : n = 0
    · subst h0; simp [digs_zero] at hx
    · rw [digs_pos (by omega)] at hx
      by_cases h1 : n / 256 = 0
      · rw [h1, digs_zero] at hx
        simp at hx; omega
      · rw [List.getElem?_append_left (by rw [digs_pos (by omega)]; simp)] at hx
        exact ih _ (by omega) x hx
/-- Whether the bytes begin with a number's form. -/
def okU : List Int → Bool
  | [] => false
  | k :: t => decide (k ≤ 8) && (decide (k ≤ t.length) && !(decide (0 < k) && decide (t[0]? = some 0)))
/-- The number, and the bytes behind it. -/
def numU (l : List Int) : Int := match l with
  | [] => 0
  | k :: t => (valN (t.take k.toNat) : Int)
def restU (l : List Int) : List Int := match l with
  | [] => []
  | k :: t => t.drop k.toNat
theorem numU_range {l : List Int} (h : Bytes l) (ho : okU l = true) : 0 ≤ numU l ∧ numU l < 18446744073709551616 := by
  cases l with
  | nil => cases ho
  | cons k t =>
    simp only [okU, Bool.and_eq_true, decide_eq_true_eq] at ho
    obtain ⟨h1, h2, _⟩ := ho
    have hk := h k (by simp)
    have := valN_lt k.toNat (t.take k.toNat) (by rw [List.length_take]; omega) (h.tail.take _)
    have h8 : 256 ^ k.toNat ≤ 256 ^ 8 := Nat.pow_le_pow_right (by omega) (by omega)
    simp only [numU]
    omega
/-- What reads as a number is the number's form, and what is behind it. -/
theorem okU_form {l : List Int} (h : Bytes l) (ho : okU l = true) : l = uintL (numU l) ++ restU l := by
  cases l with
  | nil => cases ho
  | cons k t =>
    simp only [okU, Bool.and_eq_true, decide_eq_true_eq, Bool.not_eq_true', Bool.and_eq_false_iff, decide_eq_false_iff_not] at ho
    obtain ⟨h1, h2, h3⟩ := ho
    have hk := h k (by simp)
    have hlen : (t.take k.toNat).length = k.toNat := by rw [List.length_take]; omega
    have hd := (digs_valN k.toNat (t.take k.toNat) hlen (h.tail.take _) (fun x hx => by
      rw [List.getElem?_take] at hx
      split at hx
      · rename_i h0
        rintro rfl
        rcases h3 with h3 | h3
        · omega
        · exact h3 hx
      · cases hx)).1
    simp only [numU, restU, uintL, Int.toNat_natCast, hd, hlen]
    rw [Int.toNat_of_nonneg hk.1]
    simp
theorem okU_of {n : Int} (h0 : 0 ≤ n) (h1 : n < 18446744073709551616) (r : List Int) : okU (uintL n ++ r) = true ∧ numU (uintL n ++ r) = n ∧ restU (uintL n ++ r) = r := by
  have h8 : (digs n.toNat).length ≤ 8 := digs_len (by omega)
  refine ⟨?_, ?_, ?_⟩
  · simp only [uintL, List.cons_append, okU, Bool.and_eq_true, decide_eq_true_eq, Bool.not_eq_true', Bool.and_eq_false_iff, decide_eq_false_iff_not, List.length_append]
    refine ⟨by omega, by omega, ?_⟩
    by_cases hz : (digs n.toNat) = []
    · left; rw [hz]; simp
    · right
      intro h
      rw [List.getElem?_append_left (by cases hd : digs n.toNat with | nil => exact absurd hd hz | cons _ _ => simp)] at h
      exact digs_head _ _ h rfl
  · simp only [uintL, List.cons_append, numU, Int.toNat_natCast, List.take_left']
    rw [valN_digs]; omega
  · simp only [uintL, List.cons_append, restU, Int.toNat_natCast]
    rw [List.drop_left]
end Go.Proofs.Ythigjlllhnajbaa
