/-
  Small texts of this seat, put into one. Conditions stand in each theorem.
-/
import Derived.Test.YtomgdkfoinojiaaGrpA
import Derived.Test.YtomgdkfoinojiaaRows
import Derived.Laws.Bits64
set_option linter.unusedSimpArgs false
set_option linter.unusedVariables false
namespace Go.Proofs.Ytomgdkfoinojiaa
/-- The digits of a number at base 256, the greatest first. -/
def digs (n : Nat) : List Int := if h : n = 0 then [] else digs (n / 256) ++ [((n % 256 : Nat) : Int)]
termination_by n
decreasing_by omega
theorem digs_zero : digs 0 = [] := by rw [digs]; simp
theorem digs_pos {n : Nat} (h : 0 < n) : digs n = digs (n / 256) ++ [((n % 256 : Nat) : Int)] := by
  rw [digs]; simp [Nat.ne_of_gt h]
theorem digs_len_pos {n : Nat} (h : 0 < n) : (digs n).length = (digs (n / 256)).length + 1 := by rw [digs_pos h]; simp
theorem digs_len {k : Nat} : ∀ {n : Nat}, n < 256 ^ k → (digs n).length ≤ k := by
  induction k with
  | zero => intro n h; have : n = 0 := by simpa using h
            subst this; simp [digs_zero]
  | succ k ih =>
    intro n h
    by_cases h0 : n = 0
    · subst h0; simp [digs_zero]
    · rw [digs_len_pos (by omega)]
      have : n / 256 < 256 ^ k := by
        rw [Nat.div_lt_iff_lt_mul (by omega)]; rw [Nat.pow_succ] at h; exact h
      have := ih this
      omega
theorem digs_get : ∀ (n j : Nat), j < (digs n).length → (digs n)[j]? = some ((n / 256 ^ ((digs n).length - 1 - j) % 256 : Nat) : Int) := by
  intro n
  induction n using Nat.strongRecOn with
  | _ n ih =>
    intro j hj
    by_cases h0 : n = 0
    · subst h0; simp [digs_zero] at hj
    · have hp := digs_pos (n := n) (by omega)
      have hl := digs_len_pos (n := n) (by omega)
      by_cases hjl : j = (digs n).length - 1
      · rw [hjl, Nat.sub_self, hp, List.length_append, List.length_singleton, Nat.add_sub_cancel, List.getElem?_append_right (Nat.le_refl _)]
        simp
      · have hj' : j < (digs (n / 256)).length := by omega
        have h1 := ih (n / 256) (by omega) j hj'
        have e : (digs n)[j]? = (digs (n / 256))[j]? := by rw [hp, List.getElem?_append_left hj']
        rw [e, h1]
        have e2 : (digs n).length - 1 - j = (digs (n / 256)).length - 1 - j + 1 := by omega
        rw [e2, Nat.pow_succ, Nat.mul_comm, Nat.div_div_eq_div_mul]
theorem digs_range {n : Nat} : ∀ x ∈ digs n, 0 ≤ x ∧ x < 256 := by
  intro x hx
  obtain ⟨j, hj⟩ := List.getElem?_of_mem hx
  have hl := (List.getElem?_eq_some_iff.1 hj).1
  rw [digs_get n j hl] at hj
  injection hj with hj
  omega
def uintL (n : Int) : List Int := ((digs n.toNat).length : Int) :: digs n.toNat
def zig (n : Int) : Int := if 0 ≤ n then 2 * n else 2 * (-(n + 1)) + 1
def intL (n : Int) : List Int := uintL (zig n)
def boolL (b : Bool) : List Int := [if b then 1 else 0]
theorem uintL_len {n : Int} (h : n < 18446744073709551616) : (uintL n).length ≤ 9 := by
  unfold uintL
  have : (digs n.toNat).length ≤ 8 := digs_len (by omega)
  simp; omega
theorem zig_range {n : Int} (h1 : -9223372036854775808 ≤ n) (h2 : n < 9223372036854775808) : 0 ≤ zig n ∧ zig n < 18446744073709551616 := by
  unfold zig; split <;> omega
theorem intL_len {n : Int} (h1 : -9223372036854775808 ≤ n) (h2 : n < 9223372036854775808) : (intL n).length ≤ 9 := uintL_len (zig_range h1 h2).2
end Go.Proofs.Ytomgdkfoinojiaa

namespace Go.Proofs.Ytomgdkfoinojiaa
def Bytes (l : List Int) : Prop := ∀ x ∈ l, 0 ≤ x ∧ x < 256
theorem Bytes.tail {x : Int} {l : List Int} (h : Bytes (x :: l)) : Bytes l := fun y hy => h y (List.mem_cons_of_mem _ hy)
theorem Bytes.take {l : List Int} (h : Bytes l) (k : Nat) : Bytes (l.take k) := fun x hx => h x (List.mem_of_mem_take hx)
theorem Bytes.drop {l : List Int} (h : Bytes l) (k : Nat) : Bytes (l.drop k) := fun x hx => h x (List.mem_of_mem_drop hx)
/-- The number that digits of base 256 stand for. -/
def valN (l : List Int) : Nat := l.foldl (fun a x => a * 256 + x.toNat) 0
theorem valN_snoc (l : List Int) (x : Int) : valN (l ++ [x]) = valN l * 256 + x.toNat := by simp [valN, List.foldl_append]
theorem valN_lt : ∀ (k : Nat) (l : List Int), l.length = k → Bytes l → valN l < 256 ^ k := by
  intro k
  induction k with
  | zero => intro l h _; have : l = [] := List.eq_nil_of_length_eq_zero h
            subst this; simp [valN]
  | succ k ih =>
    intro l h hb
    obtain ⟨l', x, rfl⟩ : ∃ l' x, l = l' ++ [x] := ⟨l.dropLast, l.getLast (by rintro rfl; simp at h), (List.dropLast_concat_getLast _).symm⟩
    rw [valN_snoc]
    have h1 := ih l' (by simpa using h) (fun y hy => hb y (List.mem_append_left _ hy))
    have h2 := hb x (by simp)
    rw [Nat.pow_succ]
    omega
theorem digs_valN : ∀ (k : Nat) (l : List Int), l.length = k → Bytes l → (∀ x, l[0]? = some x → x ≠ 0) → digs (valN l) = l ∧ (l ≠ [] → 0 < valN l) := by
  intro k
  induction k with
  | zero => intro l h _ _; have : l = [] := List.eq_nil_of_length_eq_zero h
            subst this; simp [valN, digs_zero]
  | succ k ih =>
    intro l h hb h0
    obtain ⟨l', x, rfl⟩ : ∃ l' x, l = l' ++ [x] := ⟨l.dropLast, l.getLast (by rintro rfl; simp at h), (List.dropLast_concat_getLast _).symm⟩
    have hx := hb x (by simp)
    have hb' : Bytes l' := fun y hy => hb y (List.mem_append_left _ hy)
    rw [valN_snoc]
    by_cases hl : l' = []
    · subst hl
      have : x ≠ 0 := h0 x rfl
      have hp : 0 < valN ([] : List Int) * 256 + x.toNat := by simp [valN]; omega
      refine ⟨?_, fun _ => hp⟩
      rw [digs_pos hp]
      have e1 : (valN ([] : List Int) * 256 + x.toNat) / 256 = 0 := by simp [valN]; omega
      have e2 : (((valN ([] : List Int) * 256 + x.toNat) % 256 : Nat) : Int) = x := by simp [valN]; omega
      rw [e1, e2, digs_zero]
    · obtain ⟨i1, i2⟩ := ih l' (by simpa using h) hb' (fun y hy => h0 y (by
        rw [List.getElem?_append_left (by have := (List.getElem?_eq_some_iff.1 hy).1; exact this)]; exact hy))
      have := i2 hl
      have hp : 0 < valN l' * 256 + x.toNat := by omega
      refine ⟨?_, fun _ => hp⟩
      rw [digs_pos hp]
      have e1 : (valN l' * 256 + x.toNat) / 256 = valN l' := by omega
      have e2 : (((valN l' * 256 + x.toNat) % 256 : Nat) : Int) = x := by omega
      rw [e1, e2, i1]
theorem digs_bytes (n : Nat) : Bytes (digs n) := digs_range
theorem valN_digs : ∀ n : Nat, valN (digs n) = n := by
  intro n
  induction n using Nat.strongRecOn with
  | _ n ih =>
    by_cases h0 : n = 0
    · subst h0; simp [digs_zero, valN]
    · rw [digs_pos (by omega), valN_snoc, ih (n / 256) (by omega)]
      simp; omega
theorem digs_head : ∀ (n : Nat) (x : Int), (digs n)[0]? = some x → x ≠ 0 := by
  intro n
  induction n using Nat.strongRecOn with
  | _ n ih =>
    intro x hx
    by_cases h0 : n = 0
    · subst h0; simp [digs_zero] at hx
    · rw [digs_pos (by omega)] at hx
      by_cases h1 : n / 256 = 0
      · rw [h1, digs_zero] at hx
        simp at hx; omega
      · rw [List.getElem?_append_left (by rw [digs_pos (by omega)]; simp)] at hx
        exact ih _ (by omega) x hx
/-- Whether the bytes begin with a number's form. -/
def okU : List Int → Bool
  | [] => false
  | k :: t => decide (k ≤ 8) && (decide (k ≤ t.length) && !(decide (0 < k) && decide (t[0]? = some 0)))
/-- The number, and the bytes behind it. -/
def numU (l : List Int) : Int := match l with
  | [] => 0
  | k :: t => (valN (t.take k.toNat) : Int)
def restU (l : List Int) : List Int := match l with
  | [] => []
  | k :: t => t.drop k.toNat
theorem numU_range {l : List Int} (h : Bytes l) (ho : okU l = true) : 0 ≤ numU l ∧ numU l < 18446744073709551616 := by
  cases l with
  | nil => cases ho
  | cons k t =>
    simp only [okU, Bool.and_eq_true, decide_eq_true_eq] at ho
    obtain ⟨h1, h2, _⟩ := ho
    have hk := h k (by simp)
    have := valN_lt k.toNat (t.take k.toNat) (by rw [List.length_take]; omega) (h.tail.take _)
    have h8 : 256 ^ k.toNat ≤ 256 ^ 8 := Nat.pow_le_pow_right (by omega) (by omega)
    simp only [numU]
    omega
/-- What reads as a number is the number's form, and what is behind it. -/
theorem okU_form {l : List Int} (h : Bytes l) (ho : okU l = true) : l = uintL (numU l) ++ restU l := by
  cases l with
  | nil => cases ho
  | cons k t =>
    simp only [okU, Bool.and_eq_true, decide_eq_true_eq, Bool.not_eq_true', Bool.and_eq_false_iff, decide_eq_false_iff_not] at ho
    obtain ⟨h1, h2, h3⟩ := ho
    have hk := h k (by simp)
    have hlen : (t.take k.toNat).length = k.toNat := by rw [List.length_take]; omega
    have hd := (digs_valN k.toNat (t.take k.toNat) hlen (h.tail.take _) (fun x hx => by
      rw [List.getElem?_take] at hx
      split at hx
      · rename_i h0
        rintro rfl
        rcases h3 with h3 | h3
        · omega
        · exact h3 hx
      · cases hx)).1
    simp only [numU, restU, uintL, Int.toNat_natCast, hd, hlen]
    rw [Int.toNat_of_nonneg hk.1]
    simp
theorem okU_of {n : Int} (h0 : 0 ≤ n) (h1 : n < 18446744073709551616) (r : List Int) : okU (uintL n ++ r) = true ∧ numU (uintL n ++ r) = n ∧ restU (uintL n ++ r) = r := by
  have h8 : (digs n.toNat).length ≤ 8 := digs_len (by omega)
  refine ⟨?_, ?_, ?_⟩
  · simp only [uintL, List.cons_append, okU, Bool.and_eq_true, decide_eq_true_eq, Bool.not_eq_true', Bool.and_eq_false_iff, decide_eq_false_iff_not, List.length_append]
    refine ⟨by omega, by omega, ?_⟩
    by_cases hz : (digs n.toNat) = []
    · left; rw [hz]; simp
    · right
      intro h
      rw [List.getElem?_append_left (by cases hd : digs n.toNat with | nil => exact absurd hd hz | cons _ _ => simp)] at h
      exact digs_head _ _ h rfl
  · simp only [uintL, List.cons_append, numU, Int.toNat_natCast, List.take_left']
    rw [valN_digs]; omega
  · simp only [uintL, List.cons_append, restU, Int.toNat_natCast]
    rw [List.drop_left]
end Go.Proofs.Ytomgdkfoinojiaa

namespace Go.Proofs.Ytomgdkfoinojiaa
open Go.RowKit
def U8.cells (x : Int) : List Value := [.int .u8 x]
theorem U8.enc : Enc U8.cells 1 := ⟨fun _ => rfl, fun x u hu => by simp [U8.cells] at hu; subst hu; rfl, by omega⟩
theorem byteT : ElemT Try.prog 71 5 1 1 := ElemT.mk' (z := .int .u8 0) Try.underlying71 (by kernel_rfl) rfl
set_option maxRecDepth 100000 in
set_option maxHeartbeats 1000000 in
theorem appendUint_own {base : Nat} {A : Option Addr} {c : Nat} {l : List Int} (n : Int) {w : World} (hown : Own U8.cells 1 5 base w (.slice A l.length c) l) (hl : l.length ≤ 1000000000) (hb : base ≤ w.heap.size) (h0 : 0 ≤ n) (h1 : n < 18446744073709551616) :
    Calls Try.prog 58 #[.slice A l.length c, .int .u64 n] w fun r w' => ∃ A' c', r = .returned (.slice A' (l ++ uintL n).length c') ∧ Own U8.cells 1 5 base w' (.slice A' (l ++ uintL n).length c') (l ++ uintL n) ∧ Below base w w' ∧ Step w w' (.slice A l.length c) (.slice A' (l ++ uintL n).length c') := by
  obtain ⟨m, rfl⟩ : ∃ m : Nat, n = (m : Int) := ⟨n.toNat, by omega⟩
  have hd8 : (digs m).length ≤ 8 := digs_len (by omega)
  go_enter Try.func58, Try.ntmps58
  go_wp2_with fail
  go_loopw [5, 6] (fun k r wr => ∃ (i p : Nat), i + (digs p).length = (digs m).length ∧ k = .int .i64 i ∧ r = .int .u64 (p : Int) ∧ w = wr) (fun _ r _ => (intOf r).toNat)
  case atStart => exact ⟨0, m, by simp, rfl, rfl, rfl⟩
  case round =>
    obtain ⟨i, p, hip, rfl, rfl, rfl⟩ := hrel
    by_cases hp : 0 < p
    · have hl := digs_len_pos hp
      have hi8 : i + 1 ≤ 8 := by omega
      have hpi : decide ((0 : Int) < (p : Int)) = true := by simpa using hp
      go_wp2_with fail
      go_roundw
      case rel => exact ⟨i + 1, p / 256, by omega, by go_num, by go_num, trivial⟩
      case measure => simp [intOf]; omega
    · have hpi : decide ((0 : Int) < (p : Int)) = false := by simpa using hp
      have hp0 : p = 0 := by omega
      subst hp0
      rw [digs_zero, List.length_nil, Nat.add_zero] at hip
      subst hip
      go_upto_region 6 with fail
      have hwr : ((digs m).length : Int) % 256 = ((digs m).length : Int) := by omega
      go_wp2_with (at_builtin; refine wpList_app1 rfl (.tmp 15) (.tmp 18) rfl U8.enc byteT ((digs m).length : Int) rfl rfl rfl hown (by rfl) (by omega) (by unfold maxLen; omega) hb ?_; intro A1 c1 w1 ho1 hm1 hb1 hg1 ha1)
      have hz1 := hb1.size
      go_loopw [0, 7] (fun v i w2 => ∃ (p : Nat) (A2 : Option Addr) (c2 : Nat), p ≤ (digs m).length ∧ v = .slice A2 (l.length + 1 + ((digs m).length - p)) c2 ∧ i = .int .i64 ((p : Int) - 1) ∧ Own U8.cells 1 5 base w2 (.slice A2 (l.length + 1 + ((digs m).length - p)) c2) (l ++ [((digs m).length : Int)] ++ (digs m).take ((digs m).length - p)) ∧ Below base w w2 ∧ Step w w2 (.slice A l.length c) v) (fun _ i _ => (intOf i + 1).toNat)
      case atStart => exact ⟨(digs m).length, A1, c1, Nat.le_refl _, by simp, by go_num, by simpa using ho1, hb1, ⟨hg1, ha1⟩⟩
      case round =>
        obtain ⟨p, A2, c2, hp, rfl, rfl, ho2, hb2, hst2⟩ := hrel
        have hz2 := hb2.size
        by_cases hp0 : p = 0
        · subst hp0
          go_wp2_with fail
          go_ret
          have hll : (l ++ uintL (m : Int)).length = l.length + 1 + (digs m).length := by simp [uintL]; omega
          have hle : l ++ [((digs m).length : Int)] ++ (digs m).take (digs m).length = l ++ uintL (m : Int) := by simp [uintL]
          rw [Nat.sub_zero, hle] at ho2
          rw [Nat.sub_zero] at hst2
          exact ⟨A2, c2, by rw [hll]; rfl, by rw [hll]; exact ho2, hb2, by rw [hll]; exact hst2⟩
        · obtain ⟨q, rfl⟩ : ∃ q, p = q + 1 := ⟨p - 1, by omega⟩
          have hq8 : q < 8 := by omega
          have hqi : (((q + 1 : Nat) : Int) - 1) = (q : Int) := by omega
          have hg := digs_get m ((digs m).length - (q + 1)) (by omega)
          rw [show (digs m).length - 1 - ((digs m).length - (q + 1)) = q by omega] at hg
          simp only [hqi]
          go_upto_region 10 with fail
          have hy : (((m / 256 ^ q % 256 : Nat) : Int)) = (m : Int) / 2 ^ (8 * q) % 256 := by
            rw [show (256 ^ q : Nat) = 2 ^ (8 * q) by rw [Nat.pow_mul]]; simp
          rw [hy] at hg
          have htl : ((digs m).take ((digs m).length - (q + 1))).length = (digs m).length - (q + 1) := by rw [List.length_take]; omega
          have hll : (l ++ [((digs m).length : Int)] ++ (digs m).take ((digs m).length - (q + 1))).length = l.length + 1 + ((digs m).length - (q + 1)) := by simp only [List.length_append, List.length_singleton, htl]
          have Hg := hide hg
          clear hg hy
          go_wp2_with (at_builtin; refine wpList_app1 rfl (.tmp 26) (.tmp 32) rfl U8.enc byteT ((m : Int) / 2 ^ (8 * q) % 256) rfl rfl rfl ho2 (by rfl) (by rw [hll]; omega) (by rw [hll]; unfold maxLen; omega) (by omega) ?_; intro A3 c3 w3 ho3 hm3 hb3 hg3 ha3; rw [hll] at ho3 ha3 ⊢)
          go_roundw
          case rel =>
            have hn : l.length + 1 + ((digs m).length - (q + 1)) + 1 = l.length + 1 + ((digs m).length - q) := by omega
            refine ⟨q, A3, c3, by omega, by rw [hn], by go_num, ?_, hb2.trans hb3, hst2.trans ⟨hg3, ha3⟩⟩
            rw [hn, List.append_assoc, ← take_snoc_get Hg.out] at ho3
            rw [show (digs m).length - (q + 1) + 1 = (digs m).length - q by omega] at ho3
            exact ho3
          case measure => simp [intOf]
set_option maxHeartbeats 1000000 in
theorem appendBool_own {base : Nat} {A : Option Addr} {c : Nat} {l : List Int} (b : Bool) {w : World} (hown : Own U8.cells 1 5 base w (.slice A l.length c) l) (hl : l.length ≤ 1000000000) (hb : base ≤ w.heap.size) :
    Calls Try.prog 59 #[.slice A l.length c, .bool b] w fun r w' => ∃ A' c', r = .returned (.slice A' (l ++ boolL b).length c') ∧ Own U8.cells 1 5 base w' (.slice A' (l ++ boolL b).length c') (l ++ boolL b) ∧ Below base w w' ∧ Step w w' (.slice A l.length c) (.slice A' (l ++ boolL b).length c') := by
  cases b
  · go_enter Try.func59, Try.ntmps59
    go_upto_region 3 with fail
    go_wp2_with (at_builtin; refine wpList_app1 rfl (.tmp 9) (.tmp 10) rfl U8.enc byteT 0 rfl rfl rfl hown (by rfl) (by omega) (by unfold maxLen; omega) hb ?_; intro A1 c1 w1 ho1 hm1 hb1 hg1 ha1)
    go_ret
    exact ⟨A1, c1, by rw [boolL, List.length_append]; rfl, by rw [boolL, List.length_append]; exact ho1, hb1, by rw [boolL, List.length_append]; exact ⟨hg1, ha1⟩⟩
  · go_enter Try.func59, Try.ntmps59
    go_upto_region 2 with fail
    go_wp2_with (at_builtin; refine wpList_app1 rfl (.tmp 6) (.tmp 7) rfl U8.enc byteT 1 rfl rfl rfl hown (by rfl) (by omega) (by unfold maxLen; omega) hb ?_; intro A1 c1 w1 ho1 hm1 hb1 hg1 ha1)
    go_ret
    exact ⟨A1, c1, by rw [boolL, List.length_append]; rfl, by rw [boolL, List.length_append]; exact ho1, hb1, by rw [boolL, List.length_append]; exact ⟨hg1, ha1⟩⟩
theorem xor_all {a : Nat} (h : a < 18446744073709551616) : a ^^^ 18446744073709551615 = 18446744073709551615 - a := by
  have e : (BitVec.ofNat 64 a ^^^ BitVec.allOnes 64).toNat = 18446744073709551615 - a := by
    rw [BitVec.xor_allOnes, BitVec.toNat_not, BitVec.toNat_ofNat, Nat.mod_eq_of_lt h]
  rw [BitVec.toNat_xor, BitVec.toNat_ofNat, Nat.mod_eq_of_lt h, BitVec.toNat_allOnes] at e
  exact e
theorem zig_bits {n : Int} (h0 : -9223372036854775808 ≤ n) (h1 : n < 9223372036854775808) :
    bits BinOp.xor IntKind.u64 (IntKind.u64.wrap (IntKind.u64.wrap n * 2)) (IntKind.u64.wrap (n / 9223372036854775808)) = zig n := by
  simp only [IntKind.wrap_u64]
  by_cases h : 0 ≤ n
  · obtain ⟨m, rfl⟩ : ∃ m : Nat, n = (m : Int) := ⟨n.toNat, by omega⟩
    have e1 : ((m : Int) % 18446744073709551616 * 2) % 18446744073709551616 = ((2 * m : Nat) : Int) := by omega
    have e2 : ((m : Int) / 9223372036854775808) % 18446744073709551616 = ((0 : Nat) : Int) := by omega
    rw [e1, e2, bits_xor_u64_nat _ _ (by omega) (by omega)]
    simp [zig]
  · obtain ⟨m, hm⟩ : ∃ m : Nat, n = -1 - (m : Int) := ⟨(-1 - n).toNat, by omega⟩
    have e1 : (n % 18446744073709551616 * 2) % 18446744073709551616 = ((18446744073709551614 - 2 * m : Nat) : Int) := by omega
    have e2 : (n / 9223372036854775808) % 18446744073709551616 = ((18446744073709551615 : Nat) : Int) := by omega
    rw [e1, e2, bits_xor_u64_nat _ _ (by omega) (by omega), xor_all (by omega)]
    unfold zig; rw [if_neg h]; omega
/-! The same with the new list named: its length stays closed to the walk. -/
theorem appendUint_q {base : Nat} {A : Option Addr} {c : Nat} {l : List Int} (n : Int) {w : World} (hown : Own U8.cells 1 5 base w (.slice A l.length c) l) (hl : l.length ≤ 1000000000) (hb : base ≤ w.heap.size) (h0 : 0 ≤ n) (h1 : n < 18446744073709551616) :
    Calls Try.prog 58 #[.slice A l.length c, .int .u64 n] w fun r w' => ∃ q A' c', Hid (q = l ++ uintL n) ∧ r = .returned (.slice A' q.length c') ∧ Own U8.cells 1 5 base w' (.slice A' q.length c') q ∧ Below base w w' ∧ Step w w' (.slice A l.length c) (.slice A' q.length c') :=
  (appendUint_own n hown hl hb h0 h1).mono fun r w' ⟨A', c', h1, h2, h3, h4⟩ => ⟨_, A', c', rfl, h1, h2, h3, h4⟩
theorem appendBool_q {base : Nat} {A : Option Addr} {c : Nat} {l : List Int} (b : Bool) {w : World} (hown : Own U8.cells 1 5 base w (.slice A l.length c) l) (hl : l.length ≤ 1000000000) (hb : base ≤ w.heap.size)  :
    Calls Try.prog 59 #[.slice A l.length c, .bool b] w fun r w' => ∃ q A' c', Hid (q = l ++ boolL b) ∧ r = .returned (.slice A' q.length c') ∧ Own U8.cells 1 5 base w' (.slice A' q.length c') q ∧ Below base w w' ∧ Step w w' (.slice A l.length c) (.slice A' q.length c') :=
  (appendBool_own b hown hl hb).mono fun r w' ⟨A', c', h1, h2, h3, h4⟩ => ⟨_, A', c', rfl, h1, h2, h3, h4⟩
end Go.Proofs.Ytomgdkfoinojiaa

namespace Go.Proofs.Ytomgdkfoinojiaa
open Go.RowKit
/-- w' is w, but for the blocks that s names, and for new ones. -/
structure Only (s : Nat → Prop) (w w' : World) : Prop where
  os : w'.os = w.os
  tape : w'.tape = w.tape
  output : w'.output = w.output
  size : w.heap.size ≤ w'.heap.size
  block : ∀ k, k < w.heap.size → ¬ s k → w'.heap[k]? = w.heap[k]?
section
variable {s s' : Nat → Prop} {w w' w'' b : World}
theorem Only.refl : Only s w w := ⟨rfl, rfl, rfl, Nat.le_refl _, fun _ _ _ => rfl⟩
theorem Only.trans (h : Only s w w') (k : Only s w' w'') : Only s w w'' :=
  ⟨k.os.trans h.os, k.tape.trans h.tape, k.output.trans h.output, Nat.le_trans h.size k.size, fun i hi hs => (k.block i (Nat.lt_of_lt_of_le hi h.size) hs).trans (h.block i hi hs)⟩
/-- Behind a first step, blocks that the first world has not are free. -/
theorem Only.trans' (h : Only s w w') (k : Only s' w' w'') (hs : ∀ k, k < w.heap.size → s' k → s k) : Only s w w'' :=
  ⟨k.os.trans h.os, k.tape.trans h.tape, k.output.trans h.output, Nat.le_trans h.size k.size, fun i hi hn => (k.block i (Nat.lt_of_lt_of_le hi h.size) (fun e => hn (hs i hi e))).trans (h.block i hi hn)⟩
theorem Only.mono (h : Only s w w') (hs : ∀ k, k < w.heap.size → s k → s' k) : Only s' w w' := ⟨h.os, h.tape, h.output, h.size, fun k hk hn => h.block k hk fun e => hn (hs k hk e)⟩
theorem Only.drew (h : Only s w w') : Only s w w'.drew := ⟨h.os, h.tape, h.output, h.size, h.block⟩
theorem Only.alloc (h : Only s w w') (o : Obj) : Only s w (w'.alloc o) :=
  ⟨h.os, h.tape, h.output, by have := h.size; simp; omega, fun k hk hn => by rw [heap_alloc_if, if_neg (by have := h.size; omega)]; exact h.block k hk hn⟩
theorem Only.setCell (h : Only s w w') {p : Addr} (hp : s p.block ∨ w.heap.size ≤ p.block) (v : Value) : Only s w (w'.setCell p v) :=
  ⟨h.os, h.tape, h.output, by have := h.size; simpa [World.setCell] using this, fun k hk hn => by
    rw [blk_far (by rintro rfl; rcases hp with hp | hp; exact hn hp; omega)]; exact h.block k hk hn⟩
theorem Only.of_below (h : Below w.heap.size w w') : Only s w w' := ⟨h.os, h.tape, h.output, h.size, fun k hk _ => h.block k hk⟩
theorem Only.below {B : Nat} (h : Only s w w') (hs : ∀ k, s k → B ≤ k) (hB : B ≤ w.heap.size) : Below B w w' :=
  ⟨h.os, h.tape, h.output, h.size, fun k hk => h.block k (by omega) fun e => by have := hs k e; omega⟩
theorem Only.later {W : World} (h : Only s w w') (hs : ∀ k, s k → W.heap.size ≤ k) [l : Later W w] : ∀ b [Later b W], Later b w' := fun b i => ⟨by
  have hb := (i.trans l).below
  refine hb.trans (h.below (fun k hk => ?_) hb.size)
  have := hs k hk; have := i.below.size; omega⟩
theorem Only.boxed (h : Only s w w') {g : Nat} {o : Obj} (hb : w.heap[g]? = some o) (hg : ¬ s g) : w'.heap[g]? = some o := (h.block g (blk_lt hb) hg).trans hb
theorem Only.grown (h : Only s w w') {g : Nat} (hs : ∀ k, s k → k = g) : w.grownBy w' (some g) := ⟨h.os, h.tape, h.output, h.size, fun k hk hn => h.block k hk fun e => hn (by rw [hs k e])⟩
theorem Only.own {α : Type} {f : α → List Value} {z : Nat} {e : TypeId} {base : Nat} {v : Value} {l : List α} (h : Only s w w') (ho : Own f z e base w v l) (hs : ∀ g, v.ownBlock = some g → ¬ s g) : Own f z e base w' v l := by
  refine ⟨ho.1, ?_⟩
  rcases ho.2 with h0 | ⟨g, cap, cur, hv, hg, hc, rest⟩
  · exact .inl h0
  · exact .inr ⟨g, cap, cur, hv, hg, h.boxed hc (hs g (by rw [hv]; rfl)), rest⟩
end
end Go.Proofs.Ytomgdkfoinojiaa
