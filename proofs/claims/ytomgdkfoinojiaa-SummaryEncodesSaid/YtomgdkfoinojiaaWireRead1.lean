/-
  Contracts of the functions of this seat that each theorem names: what a call returns, and that it writes nothing that was there before. The conditions stand in each theorem.
-/
import Derived.Test.YtomgdkfoinojiaaGrpC
import Derived.Laws.Bits64b
set_option linter.unusedSimpArgs false
set_option linter.unusedVariables false
namespace Go.Proofs.Ytomgdkfoinojiaa
open Go.RowKit
theorem byte_at {A : Option Addr} {l : List Int} {w : World} (h : SlAt U8.cells 1 w A l) {k : Nat} {x : Int} (hx : l[k]? = some x) : ∃ b off, A = some ⟨b, off, none⟩ ∧ b < w.heap.size ∧ ∀ u [Later w u], u.cell? ⟨b, off + k, none⟩ = some (.int .u8 x) := by
  obtain ⟨b, off, e, hlt, hc⟩ := h (by rintro rfl; simp at hx)
  refine ⟨b, off, e, hlt, Later.cell (b := w) ?_⟩
  have := hc k x hx 0 _ rfl
  simpa using this
set_option maxRecDepth 100000 in
set_option maxHeartbeats 4000000 in
theorem uint1_bad (wb : World) (g br bn : Nat) (A : Option Addr) (c : Nat) (l : List Int) (e : Int) (w : World) [hw : Later wb w] (hA : SlAt U8.cells 1 wb A l) (hlc : l.length ≤ c) (hcm : c ≤ maxLen) (hb : Bytes l) (ho : okU l = false)
    (hg : w.heap[g]? = some (.cells #[.slice A l.length c, .int .i64 e] 135 (0, 0))) (hbr : w.heap[br]? = some (.cells #[.pointer (some ⟨g, 0, none⟩)] 103 (0, 0))) (hbn : w.heap[bn]? = some (.cells #[.int .u64 0] 38 (0, 0)))
    (hgw : wb.heap.size ≤ g) (hbw : wb.heap.size ≤ bn) (hn1 : bn ≠ g) (hn2 : br ≠ g) (hn3 : br ≠ bn) :
    Calls Try.prog 84 #[.pointer (some ⟨br, 0, none⟩), .pointer (some ⟨bn, 0, none⟩)] w (fun r w' => r = .returned (.int .i64 11) ∧ Below w.heap.size w w') := by
  have BG := boxed hg
  have BR := boxed hbr
  cases l with
  | nil =>
    go_enter Try.func84, Try.ntmps84
    go_upto_region 1 with fail
    (refine wp_region_after (by kernel_rfl) (by kernel_rfl) ?_
     repeat (any_goals (first | go_big_quiet_skip | (go_big_quiet_want; go_big_quiet_op; first | go_big_quiet_on | go_big_quiet_call (fail)) | quiet_step (fail) | (refine wpQuiet_step (fun K hK => ?_); go_simp; split <;> (refine hK _ ?_; clear hK K))))
     all_goals (refine wpQuiet_nil ?_; intro _ hw'; obtain ⟨u', hw''⟩ := hw'; subst hw''; obtain ⟨wd, hbd⟩ := u'; simp only [After.val_mk]))
    have ld := later hbd
    go_wp2_with fail
    go_ret
    exact ⟨rfl, below_of⟩
  | cons k t =>
    have hk := hb k (by simp)
    obtain ⟨b, off, rfl, hbl, K0⟩ := byte_at hA (k := 0) (x := k) rfl
    rw [Nat.add_zero] at K0
    simp only [List.length_cons] at hlc hg BG
    by_cases h8 : 8 < k
    · have h8' : decide (8 < k) = true := by simpa using h8
      go_enter Try.func84, Try.ntmps84
      go_upto_region 1 with fail
      (refine wp_region_after (by kernel_rfl) (by kernel_rfl) ?_
       repeat (any_goals (first | go_big_quiet_skip | (go_big_quiet_want; go_big_quiet_op; first | go_big_quiet_on | go_big_quiet_call (fail)) | quiet_step (fail) | (refine wpQuiet_step (fun K hK => ?_); go_simp; split <;> (refine hK _ ?_; clear hK K))))
       all_goals (refine wpQuiet_nil ?_; intro _ hw'; obtain ⟨u', hw''⟩ := hw'; subst hw''; obtain ⟨wd, hbd⟩ := u'; simp only [After.val_mk]))
      have ld := later hbd
      go_wp2_with fail
      go_ret
      exact ⟨rfl, below_of⟩
    have h8' : decide (8 < k) = false := by simpa using h8
    by_cases hs : (t.length : Int) < k
    · have hs' : decide ((t.length : Int) + 1 ≤ k) = true := by simp; omega
      go_enter Try.func84, Try.ntmps84
      go_upto_region 1 with fail
      (refine wp_region_after (by kernel_rfl) (by kernel_rfl) ?_
       repeat (any_goals (first | go_big_quiet_skip | (go_big_quiet_want; go_big_quiet_op; first | go_big_quiet_on | go_big_quiet_call (fail)) | quiet_step (fail) | (refine wpQuiet_step (fun K hK => ?_); go_simp; split <;> (refine hK _ ?_; clear hK K))))
       all_goals (refine wpQuiet_nil ?_; intro _ hw'; obtain ⟨u', hw''⟩ := hw'; subst hw''; obtain ⟨wd, hbd⟩ := u'; simp only [After.val_mk]))
      have ld := later hbd
      go_wp2_with fail
      go_ret
      exact ⟨rfl, below_of⟩
    have hs' : decide ((t.length : Int) + 1 ≤ k) = false := by simp; omega
    by_cases hz : 0 < k ∧ t[0]? = some 0
    · obtain ⟨hz1, hz2⟩ := hz
      have hz1' : decide (0 < k) = true := by simpa using hz1
      obtain ⟨b', off', e1, -, K1⟩ := byte_at hA (k := 1) (x := 0) (by simpa using hz2)
      injection e1 with e1
      injection e1 with e1 e2
      subst e1 e2
      have ht : (1 : Int) < (t.length : Int) + 1 := by have := (List.getElem?_eq_some_iff.1 hz2).1; omega
      go_enter Try.func84, Try.ntmps84
      go_upto_region 1 with fail
      (refine wp_region_after (by kernel_rfl) (by kernel_rfl) ?_
       repeat (any_goals (first | go_big_quiet_skip | (go_big_quiet_want; go_big_quiet_op; first | go_big_quiet_on | go_big_quiet_call (fail)) | quiet_step (fail) | (refine wpQuiet_step (fun K hK => ?_); go_simp; split <;> (refine hK _ ?_; clear hK K))))
       all_goals (refine wpQuiet_nil ?_; intro _ hw'; obtain ⟨u', hw''⟩ := hw'; subst hw''; obtain ⟨wd, hbd⟩ := u'; simp only [After.val_mk]))
      have ld := later hbd
      go_wp2_with fail
      go_ret
      exact ⟨rfl, below_of⟩
    have hok : okU (k :: t) = true := by
      simp only [okU, Bool.and_eq_true, decide_eq_true_eq, Bool.not_eq_true', Bool.and_eq_false_iff, decide_eq_false_iff_not]
      exact ⟨by omega, by omega, by by_cases h : 0 < k; exact .inr fun h2 => hz ⟨h, h2⟩; exact .inl h⟩
    rw [hok] at ho; cases ho
end Go.Proofs.Ytomgdkfoinojiaa
