/-
  Contracts of the functions of this seat that each theorem names: what a call returns, and that it writes nothing that was there before. The conditions stand in each theorem.
-/
import Derived.Test.YtjegncmkebbdfaaGreatDoorF16Fmt
import Derived.Test.YtjegncmkebbdfaaGreatDoorF16Union
set_option linter.unusedSimpArgs false
set_option linter.unusedVariables false
namespace Go.Proofs.YtjegncmkebbdfaaGreatDoor
open Go.RowKit
attribute [local simp] heap_drew
set_option maxHeartbeats 800000 in
attribute [local go_sem ↓] run_neq_IDE in
theorem sameIDs_any (aA : Option Addr) (aC : Nat) (a : List IDE) (bA : Option Addr) (bC : Nat) (b : List IDE) (w : World) (ha : SlAt IDE.cells 2 w aA a) (hb : SlAt IDE.cells 2 w bA b) (hal : a.length ≤ 9223372036854775807) (_ : b.length ≤ 9223372036854775807) :
    Calls Tryz.prog 19 #[.slice aA a.length aC, .slice bA b.length bC] w fun r w' => ∃ q : Bool, r = .returned (.bool q) ∧ (q = true ↔ a = b) ∧ Below w.heap.size w w' := by
  by_cases hl : a.length = b.length
  rotate_left
  · have hl' : ¬ (a.length : Int) = (b.length : Int) := by omega
    have Hl := hide hl
    clear hl
    go_enter Tryz.func19, Tryz.ntmps19
    go_wp2
    go_ret
    exact ⟨false, rfl, ⟨(fun h => by cases h), fun h => absurd (congrArg List.length h) Hl.out⟩, Below.refl _ _⟩
  have Hl := hide hl
  have hl' : ((a.length : Int) != (b.length : Int)) = false := by simp [hl]
  clear hl
  have Ha := ha.later
  have Hb := hb.later
  go_enter Tryz.func19, Tryz.ntmps19
  go_wp2
  go_loopw [5] (fun i wr => ∃ k : Nat, k ≤ a.length ∧ i = .int .i64 k ∧ (∀ (j : Nat) (x y : IDE), j < k → a[j]? = some x → b[j]? = some y → x = y) ∧ Below w.heap.size w wr) (fun i _ => a.length - (intOf i).toNat)
  case atStart => exact ⟨0, by omega, rfl, fun j _ _ h => absurd h (by omega), Below.refl _ _⟩
  case round =>
    obtain ⟨k, hk, rfl, hall, hbw⟩ := hrel
    have lr := later hbw
    by_cases hlt : k < a.length
    · have hlt2 : k < b.length := by rw [← Hl.out]; exact hlt
      obtain ⟨g1, o1, x, rfl, hx, C1⟩ := IDE.get (Ha wr) hlt
      obtain ⟨g2, o2, y, rfl, hy, C2⟩ := IDE.get (Hb wr) hlt2
      have Hall := hide hall
      have Hx := hide hx
      have Hy := hide hy
      clear hall hx hy
      go_wp2
      (refine wp_region_after (by kernel_rfl) (by kernel_rfl) ?_
       repeat (any_goals (first | go_big_quiet_skip | (go_big_quiet_want; go_big_quiet_op; first | go_big_quiet_on | go_big_quiet_call (fail)) | quiet_step (fail) | (refine wpQuiet_step (fun K hK => ?_); go_simp; split <;> (refine hK _ ?_; clear hK K))))
       all_goals (refine wpQuiet_nil ?_; intro _ hw'; obtain ⟨u', hw''⟩ := hw'; subst hw''; obtain ⟨wd, hbd⟩ := u'; simp only [After.val_mk]))
      have ld := later hbd
      cases hxy : IDE.beq x y
      · go_wp2_with fail
        go_ret
        exact ⟨false, rfl, ⟨(fun h => by cases h), fun h => by
          have hx := Hx.out
          have hy := Hy.out
          rw [h, hy] at hx
          injection hx with hx
          rw [IDE.beq_iff.2 hx.symm] at hxy
          cases hxy⟩, hbw.trans (hbd.mono hbw.size)⟩
      · go_wp2_with fail
        go_roundw
        case rel => exact ⟨k + 1, by omega, by go_num, fun j x' y' hj hx' hy' => by
          rcases Nat.lt_or_ge j k with h | h
          · exact Hall.out j x' y' h hx' hy'
          · have : j = k := by omega
            subst this
            have hx := Hx.out
            have hy := Hy.out
            rw [hx] at hx'; injection hx' with hx'
            rw [hy] at hy'; injection hy' with hy'
            rw [← hx', ← hy']
            exact IDE.beq_iff.1 hxy, hbw.trans (hbd.mono hbw.size)⟩
        case measure => simp [intOf]; omega
    · have hk' : k = a.length := by omega
      subst hk'
      have Hall := hide hall
      clear hall
      go_wp2
      go_ret
      exact ⟨true, rfl, ⟨fun _ => eq_to Hl.out fun j x y hx hy => Hall.out j x y (List.getElem?_eq_some_iff.1 hx).1 hx hy, fun _ => rfl⟩, hbw⟩
theorem strC.get {w : World} {A : Option Addr} {l : List (List UInt8)} (h : SlAt strC 1 w A l) {k : Nat} (hk : k < l.length) : ∃ b off x, A = some ⟨b, off, none⟩ ∧ l[k]? = some x ∧ ∀ u [Later w u], u.cell? ⟨b, off + k, none⟩ = some (.string (bs x)) := by
  obtain ⟨b, off, x, hA, hb, hx, hc⟩ := h.at_ hk
  refine ⟨b, off, x, hA, hx, fun u i => ?_⟩
  have := cell_below (hc 0 _ rfl) i.below
  simpa using this
theorem bs_beq (x y : List UInt8) : ((bs x).toList == (bs y).toList) = decide (x = y) := by
  rw [Lib.toList_data, Lib.toList_data]
  by_cases h : x = y <;> simp [h]
theorem bs_inj {x y : List UInt8} (h : bs x = bs y) : x = y := by
  have := congrArg ByteArray.data h
  simpa using congrArg Array.toList this
set_option maxHeartbeats 800000 in
theorem sameLines_any (aA : Option Addr) (aC : Nat) (a : List (List UInt8)) (bA : Option Addr) (bC : Nat) (b : List (List UInt8)) (w : World) (ha : SlAt strC 1 w aA a) (hb : SlAt strC 1 w bA b) (hal : a.length ≤ 1000000000) (hbl : b.length ≤ 1000000000) :
    Calls Tryz.prog 21 #[.slice aA a.length aC, .slice bA b.length bC] w fun r w' => r = .returned (.bool (decide (a = b))) ∧ Below w.heap.size w w' := by
  have hal' : a.length ≤ 9223372036854775807 := by omega
  have hbl' : b.length ≤ 9223372036854775807 := by omega
  obtain ⟨R, hR⟩ : ∃ R, R = decide (a = b) := ⟨_, rfl⟩
  rw [← hR]
  have HR := hide hR
  clear hR
  by_cases hl : a.length = b.length
  rotate_left
  · have hl' : ((a.length : Int) != (b.length : Int)) = true := by simp; omega
    have hr := hide (show R = false by rw [HR.out]; exact decide_eq_false fun h => hl (by rw [h]))
    clear hl
    go_enter Tryz.func21, Tryz.ntmps21
    go_wp2_with fail
    go_ret
    exact ⟨ret_bool hr.out.symm, Below.refl _ _⟩
  have Hl := hide hl
  have hl' : ((a.length : Int) != (b.length : Int)) = false := by simp [hl]
  clear hl
  have Ha : ∀ u [Later w u], SlAt strC 1 u aA a := fun u i => ha.below i.below
  have Hb : ∀ u [Later w u], SlAt strC 1 u bA b := fun u i => hb.below i.below
  go_enter Tryz.func21, Tryz.ntmps21
  go_wp2_with fail
  go_loopw [5] (fun i wr => ∃ k : Nat, k ≤ a.length ∧ i = .int .i64 k ∧ (∀ (j : Nat) (x y : List UInt8), j < k → a[j]? = some x → b[j]? = some y → x = y) ∧ Below w.heap.size w wr) (fun i _ => a.length - (intOf i).toNat)
  case atStart => exact ⟨0, by omega, rfl, fun j _ _ h => absurd h (by omega), Below.refl _ _⟩
  case round =>
    obtain ⟨k, hk, rfl, hall, hbw⟩ := hrel
    have lr := later hbw
    have Hall := hide hall
    clear hall
    by_cases hlt : k < a.length
    · have hlt2 : k < b.length := by rw [← Hl.out]; exact hlt
      have hki : (k : Int) < (a.length : Int) := by omega
      have hki2 : (k : Int) < (b.length : Int) := by omega
      obtain ⟨g1, o1, x, rfl, hx, C1⟩ := strC.get (Ha wr) hlt
      obtain ⟨g2, o2, y, rfl, hy, C2⟩ := strC.get (Hb wr) hlt2
      have Hx := hide hx
      have Hy := hide hy
      clear hx hy
      by_cases hxy : x = y
      · have hne : (x == y) = true := by simp [hxy]
        have Hxy := hide hxy
        clear hxy
        go_upto_region 6 with fail
        (refine wp_region_after (by kernel_rfl) (by kernel_rfl) ?_
         repeat (any_goals (first | go_big_quiet_skip | (go_big_quiet_want; go_big_quiet_op; first | go_big_quiet_on | go_big_quiet_call (fail)) | quiet_step (fail) | (refine wpQuiet_step (fun K hK => ?_); go_simp; split <;> (refine hK _ ?_; clear hK K))))
         all_goals (refine wpQuiet_nil ?_; intro _ hw'; obtain ⟨u', hw''⟩ := hw'; subst hw''; obtain ⟨wd, hbd⟩ := u'; simp only [After.val_mk]))
        have ld := later hbd
        go_wp2_with fail
        go_roundw
        case rel => exact ⟨k + 1, by omega, by go_num, fun j x' y' hj hx' hy' => by
          rcases Nat.lt_or_ge j k with h | h
          · exact Hall.out j x' y' h hx' hy'
          · have : j = k := by omega
            subst this
            rw [Hx.out] at hx'; injection hx' with hx'
            rw [Hy.out] at hy'; injection hy' with hy'
            rw [← hx', ← hy']; exact Hxy.out, hbw.trans (hbd.mono hbw.size)⟩
        case measure => simp [intOf]; omega
      · have hne : (x == y) = false := by simp [hxy]
        have hr := hide (show R = false by
          rw [HR.out]; refine decide_eq_false fun h => hxy ?_
          have h1 := Hx.out
          rw [h, Hy.out] at h1
          injection h1 with h1
          exact h1.symm)
        clear hxy
        go_upto_region 6 with fail
        (refine wp_region_after (by kernel_rfl) (by kernel_rfl) ?_
         repeat (any_goals (first | go_big_quiet_skip | (go_big_quiet_want; go_big_quiet_op; first | go_big_quiet_on | go_big_quiet_call (fail)) | quiet_step (fail) | (refine wpQuiet_step (fun K hK => ?_); go_simp; split <;> (refine hK _ ?_; clear hK K))))
         all_goals (refine wpQuiet_nil ?_; intro _ hw'; obtain ⟨u', hw''⟩ := hw'; subst hw''; obtain ⟨wd, hbd⟩ := u'; simp only [After.val_mk]))
        have ld := later hbd
        go_wp2_with fail
        go_ret
        exact ⟨ret_bool hr.out.symm, hbw.trans (hbd.mono hbw.size)⟩
    · have hk' : k = a.length := by omega
      subst hk'
      have hr := hide (show R = true by rw [HR.out]; exact decide_eq_true (eq_to Hl.out fun j x y hx hy => Hall.out j x y (List.getElem?_eq_some_iff.1 hx).1 hx hy))
      go_wp2_with fail
      go_ret
      exact ⟨ret_bool hr.out.symm, hbw⟩
end Go.Proofs.YtjegncmkebbdfaaGreatDoor
