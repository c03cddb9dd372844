/-
  Small texts of this seat, put into one. Conditions stand in each theorem.
-/
import Derived.Test.YtpkfenlfgdbkcaaGreatDoorF16Union
set_option linter.unusedSimpArgs false
set_option linter.unusedVariables false
namespace Go.Proofs.YtpkfenlfgdbkcaaGreatDoor
open Go.RowKit
attribute [local go_sem ↓] run_eql_id run_neq_id run_neq_ValE run_eql_ValE
attribute [local simp] heap_drew
theorem con_eq {a b : NodeC} : a = b ↔ a.id = b.id ∧ a.kind = b.kind ∧ a.clas = b.clas ∧ a.fields = b.fields := ⟨fun h => by subst h; exact ⟨rfl, rfl, rfl, rfl⟩, fun h => NodeC.ext' h.1 h.2.1 h.2.2.1 h.2.2.2⟩
set_option maxRecDepth 100000 in
set_option maxHeartbeats 4000000 in
theorem sameNode16_any (a1 a2 ak ac : Int) (aA : Option Addr) (ap : Nat) (af : List ValE) (b1 b2 bk bc : Int) (bA : Option Addr) (bp : Nat) (bf : List ValE) (w : World) (ha : SlAt ValE.cells 4 w aA af) (hb : SlAt ValE.cells 4 w bA bf) (hal : af.length ≤ 1000000000) (hbl : bf.length ≤ 1000000000) :
    Calls Tryz.prog 142 #[.agg #[.int .i64 a1, .int .i64 a2, .int .i64 ak, .int .i64 ac, .slice aA af.length ap], .agg #[.int .i64 b1, .int .i64 b2, .int .i64 bk, .int .i64 bc, .slice bA bf.length bp]] w fun r w' => r = .returned (.bool (decide ((⟨a1, a2, ak, ac, af⟩ : NodeC) = ⟨b1, b2, bk, bc, bf⟩))) ∧ Below w.heap.size w w' := by
  have HA : ∀ u [Later w u], SlAt ValE.cells 4 u aA af := fun u i => ha.below i.below
  have HB : ∀ u [Later w u], SlAt ValE.cells 4 u bA bf := fun u i => hb.below i.below
  have hal' : af.length ≤ 9223372036854775807 := by omega
  have hbl' : bf.length ≤ 9223372036854775807 := by omega
  obtain ⟨R, hR⟩ : ∃ R, R = decide ((⟨a1, a2, ak, ac, af⟩ : NodeC) = ⟨b1, b2, bk, bc, bf⟩) := ⟨_, rfl⟩
  rw [← hR]
  have HR := hide hR
  clear hR
  have hq := hide (show ideq a1 a2 b1 b2 = decide ((⟨a1, a2⟩ : IDE) = ⟨b1, b2⟩) from @ideq_iff ⟨a1, a2⟩ ⟨b1, b2⟩)
  go_enter Tryz.func142, Tryz.ntmps142
  go_upto_region 1 with fail
  refine wp_name ?_
  intro w1 hw1
  obtain ⟨B0, B1, l1⟩ := box2 hw1
  have l11 : Later w1 w1 := Later.refl
  clear hw1
  cases q1 : ideq a1 a2 b1 b2 with
  | false =>
    have hr := hide (show R = false by rw [HR.out]; exact decide_eq_false fun h => absurd (hq.out.trans (decide_eq_true (con_eq.1 h).1)) (by rw [q1]; simp))
    go_wp2_with fail
    go_ret
    exact ⟨ret_bool hr.out.symm, below_of⟩
  | true =>
    have hid : (⟨a1, a2⟩ : IDE) = ⟨b1, b2⟩ := of_decide_eq_true (by rw [← hq.out]; exact q1)
    cases q2 : (ak != bk) with
    | true =>
      have hr := hide (show R = false by rw [HR.out]; exact decide_eq_false fun h => absurd (con_eq.1 h).2.1 (by simpa using q2))
      go_wp2_with fail
      go_ret
      exact ⟨ret_bool hr.out.symm, below_of⟩
    | false =>
      have hkk : ak = bk := by simpa using q2
      cases q3 : (ac != bc) with
      | true =>
        have hr := hide (show R = false by rw [HR.out]; exact decide_eq_false fun h => absurd (con_eq.1 h).2.2.1 (by simpa using q3))
        go_wp2_with fail
        go_ret
        exact ⟨ret_bool hr.out.symm, below_of⟩
      | false =>
        have hcc : ac = bc := by simpa using q3
        by_cases hl : af.length = bf.length
        · have Hl := hide hl
          have q4 : ((af.length : Int) != (bf.length : Int)) = false := by simp [hl]
          have hRf := hide (show af = bf → R = true from fun h => by rw [HR.out]; exact decide_eq_true (con_eq.2 ⟨hid, hkk, hcc, h⟩))
          clear hl hid hkk hcc
          go_wp2_with fail
          go_loopw [5] (fun i wr => ∃ k : Nat, k ≤ af.length ∧ i = .int .i64 k ∧ (∀ (j : Nat) (x y : ValE), j < k → af[j]? = some x → bf[j]? = some y → x = y) ∧ Below w1.heap.size w1 wr) (fun i _ => af.length - (intOf i).toNat)
          case atStart => exact ⟨0, by omega, rfl, fun j _ _ h => absurd h (by omega), Below.refl _ _⟩
          case round =>
            obtain ⟨k, hk, rfl, hall, hbw⟩ := hrel
            have lr := later hbw
            have Hall := hide hall
            clear hall
            by_cases hlt : k < af.length
            · have hlt2 : k < bf.length := by rw [← Hl.out]; exact hlt
              have hki : (k : Int) < (af.length : Int) := by omega
              have hki2 : (k : Int) < (bf.length : Int) := by omega
              obtain ⟨g1, o1, x, rfl, hx, C1⟩ := ValE.get (HA wr) hlt
              obtain ⟨g2, o2, y, rfl, hy, C2⟩ := ValE.get (HB wr) hlt2
              have Hx := hide hx
              have Hy := hide hy
              clear hx hy
              go_upto_region 6 with fail
              (refine wp_region_after (by kernel_rfl) (by kernel_rfl) ?_
               repeat (any_goals (first | go_big_quiet_skip | (go_big_quiet_want; go_big_quiet_op; first | go_big_quiet_on | go_big_quiet_call (fail)) | quiet_step (fail) | (refine wpQuiet_step (fun K hK => ?_); go_simp; split <;> (refine hK _ ?_; clear hK K))))
               all_goals (refine wpQuiet_nil ?_; intro _ hw'; obtain ⟨u', hw''⟩ := hw'; subst hw''; obtain ⟨wd, hbd⟩ := u'; simp only [After.val_mk]))
              have ld := later hbd
              cases hxy : ValE.beq x y
              · have hr := hide (show R = false by
                  rw [HR.out]
                  refine decide_eq_false fun h => ?_
                  have h1 := (con_eq.1 h).2.2.2
                  dsimp only at h1
                  have h2 := Hx.out
                  rw [h1, Hy.out] at h2
                  injection h2 with h2
                  rw [ValE.beq_iff.2 h2.symm] at hxy
                  cases hxy)
                go_wp2_with fail
                go_ret
                exact ⟨ret_bool hr.out.symm, below_of⟩
              · go_wp2_with fail
                go_roundw
                case rel => exact ⟨k + 1, by omega, by go_num, fun j x' y' hj hx' hy' => by
                  rcases Nat.lt_or_ge j k with h | h
                  · exact Hall.out j x' y' h hx' hy'
                  · have : j = k := by omega
                    subst this
                    rw [Hx.out] at hx'; injection hx' with hx'
                    rw [Hy.out] at hy'; injection hy' with hy'
                    rw [← hx', ← hy']
                    exact ValE.beq_iff.1 hxy, below_of⟩
                case measure => simp [intOf]; omega
            · have hk' : k = af.length := by omega
              subst hk'
              have hr := hide (hRf.out (eq_to Hl.out fun j x y hx hy => Hall.out j x y (List.getElem?_eq_some_iff.1 hx).1 hx hy))
              go_wp2_with fail
              go_ret
              exact ⟨ret_bool hr.out.symm, below_of⟩
        · have q4 : ((af.length : Int) != (bf.length : Int)) = true := by simp; omega
          have hr := hide (show R = false by rw [HR.out]; exact decide_eq_false fun h => hl (by have h1 := (con_eq.1 h).2.2.2; dsimp only at h1; rw [h1]))
          go_wp2_with fail
          go_ret
          exact ⟨ret_bool hr.out.symm, below_of⟩
end Go.Proofs.YtpkfenlfgdbkcaaGreatDoor

namespace Go.Proofs.YtpkfenlfgdbkcaaGreatDoor
open Go.RowKit
attribute [local go_sem ↓] run_eql_id run_neq_id run_neq_ValE run_eql_ValE
attribute [local simp] heap_drew
set_option maxRecDepth 100000 in
set_option maxHeartbeats 4000000 in
theorem equalV_any (aA : Option Addr) (ap : Nat) (af : List ValE) (bA : Option Addr) (bp : Nat) (bf : List ValE) (w : World) (ha : SlAt ValE.cells 4 w aA af) (hb : SlAt ValE.cells 4 w bA bf) (hal : af.length ≤ 1000000000) (hbl : bf.length ≤ 1000000000) :
    Calls Tryz.prog 98 #[.slice aA af.length ap, .slice bA bf.length bp] w fun r w' => r = .returned (.bool (decide (af = bf))) ∧ Below w.heap.size w w' := by
  have HA : ∀ u [Later w u], SlAt ValE.cells 4 u aA af := fun u i => ha.below i.below
  have HB : ∀ u [Later w u], SlAt ValE.cells 4 u bA bf := fun u i => hb.below i.below
  have hal' : af.length ≤ 9223372036854775807 := by omega
  have hbl' : bf.length ≤ 9223372036854775807 := by omega
  obtain ⟨R, hR⟩ : ∃ R, R = decide (af = bf) := ⟨_, rfl⟩
  rw [← hR]
  have HR := hide hR
  clear hR
  have lww : Later w w := Later.refl
  go_enter Tryz.func98, Tryz.ntmps98
  by_cases hl : af.length = bf.length
  rotate_left
  · have q4 : ((af.length : Int) != (bf.length : Int)) = true := by simp; omega
    have hr := hide (show R = false by rw [HR.out]; exact decide_eq_false fun h => hl (by rw [h]))
    clear hl
    go_wp2_with fail
    go_ret
    exact ⟨ret_bool hr.out.symm, below_of⟩
  have Hl := hide hl
  have q4 : ((af.length : Int) != (bf.length : Int)) = false := by simp [hl]
  clear hl
  go_wp2_with fail
  go_loopw [5, 13] (fun _ i wr => ∃ k : Nat, k ≤ af.length ∧ i = .int .i64 k ∧ Hid (∀ (j : Nat) (x y : ValE), j < k → af[j]? = some x → bf[j]? = some y → x = y) ∧ Below w.heap.size w wr) (fun _ i _ => af.length - (intOf i).toNat)
  case atStart => exact ⟨0, by omega, rfl, hide fun j _ _ h => absurd h (by omega), Below.refl _ _⟩
  case round =>
    obtain ⟨k, hk, rfl, Hall, hbw⟩ := hrel
    have lr := later hbw
    by_cases hlt : k < af.length
    · have hlt2 : k < bf.length := by rw [← Hl.out]; exact hlt
      have hki : (k : Int) < (af.length : Int) := by omega
      have hki2 : (k : Int) < (bf.length : Int) := by omega
      obtain ⟨g1, o1, x, rfl, hx, C1⟩ := ValE.get (HA wr) hlt
      obtain ⟨g2, o2, y, rfl, hy, C2⟩ := ValE.get (HB wr) hlt2
      have Hx := hide hx
      have Hy := hide hy
      clear hx hy
      go_upto_region 6 with fail
      (refine wp_region_after (by kernel_rfl) (by kernel_rfl) ?_
       repeat (any_goals (first | go_big_quiet_skip | (go_big_quiet_want; go_big_quiet_op; first | go_big_quiet_on | go_big_quiet_call (fail)) | quiet_step (fail) | (refine wpQuiet_step (fun K hK => ?_); go_simp; split <;> (refine hK _ ?_; clear hK K))))
       all_goals (refine wpQuiet_nil ?_; intro _ hw'; obtain ⟨u', hw''⟩ := hw'; subst hw''; obtain ⟨wd, hbd⟩ := u'; simp only [After.val_mk]))
      have ld := later hbd
      cases hxy : ValE.beq x y
      · have hr := hide (show R = false by
          rw [HR.out]
          refine decide_eq_false fun h1 => ?_
          have h2 := Hx.out
          rw [h1, Hy.out] at h2
          injection h2 with h2
          rw [ValE.beq_iff.2 h2.symm] at hxy
          cases hxy)
        go_wp2_with fail
        go_ret
        exact ⟨ret_bool hr.out.symm, below_of⟩
      · go_wp2_with fail
        go_roundw
        case rel => exact ⟨k + 1, by omega, by go_num, hide fun j x' y' hj hx' hy' => by
          rcases Nat.lt_or_ge j k with h | h
          · exact Hall.out j x' y' h hx' hy'
          · have : j = k := by omega
            subst this
            rw [Hx.out] at hx'; injection hx' with hx'
            rw [Hy.out] at hy'; injection hy' with hy'
            rw [← hx', ← hy']
            exact ValE.beq_iff.1 hxy, below_of⟩
        case measure => simp [intOf]; omega
    · have hk' : k = af.length := by omega
      subst hk'
      have hr := hide (show R = true by rw [HR.out]; exact decide_eq_true (eq_to Hl.out fun j x y hx hy => Hall.out j x y (List.getElem?_eq_some_iff.1 hx).1 hx hy))
      go_wp2_with fail
      go_ret
      exact ⟨ret_bool hr.out.symm, below_of⟩
set_option maxRecDepth 100000 in
set_option maxHeartbeats 4000000 in
theorem sameNodeS_any (a1 a2 ak ac : Int) (aA : Option Addr) (ap : Nat) (af : List ValE) (b1 b2 bk bc : Int) (bA : Option Addr) (bp : Nat) (bf : List ValE) (w : World) (ha : SlAt ValE.cells 4 w aA af) (hb : SlAt ValE.cells 4 w bA bf) (hal : af.length ≤ 1000000000) (hbl : bf.length ≤ 1000000000) :
    Calls Tryz.prog 67 #[.agg #[.int .i64 a1, .int .i64 a2, .int .i64 ak, .int .i64 ac, .slice aA af.length ap], .agg #[.int .i64 b1, .int .i64 b2, .int .i64 bk, .int .i64 bc, .slice bA bf.length bp]] w fun r w' => r = .returned (.bool (decide ((⟨a1, a2, ak, ac, af⟩ : NodeC) = ⟨b1, b2, bk, bc, bf⟩))) ∧ Below w.heap.size w w' := by
  have HV : ∀ u [Later w u], Calls Tryz.prog 98 #[.slice aA af.length ap, .slice bA bf.length bp] u fun r w' => r = .returned (.bool (decide (af = bf))) ∧ Below u.heap.size u w' := fun u i => equalV_any aA ap af bA bp bf u (ha.below i.below) (hb.below i.below) hal hbl
  have hq := @ideq_iff ⟨a1, a2⟩ ⟨b1, b2⟩
  dsimp only at hq
  obtain ⟨R, hR⟩ : ∃ R, R = decide ((⟨a1, a2, ak, ac, af⟩ : NodeC) = ⟨b1, b2, bk, bc, bf⟩) := ⟨_, rfl⟩
  rw [← hR]
  have HR := hide hR
  clear hR
  have hall : R = (ideq a1 a2 b1 b2 && (ak == bk) && (ac == bc) && decide (af = bf)) := by
    rw [HR.out, Bool.eq_iff_iff]
    simp only [decide_eq_true_eq, con_eq, Bool.and_eq_true, beq_iff_eq]
    rw [hq]
    simp only [decide_eq_true_eq, and_assoc]
    exact Iff.rfl
  have Hall := hide hall
  clear hall hq HR
  generalize decide (af = bf) = e at HV Hall
  go_enter Tryz.func67, Tryz.ntmps67
  go_upto_region 1 with fail
  refine wp_name ?_
  intro w1 hw1
  obtain ⟨B0, B1, l1⟩ := box2 hw1
  have l11 : Later w1 w1 := Later.refl
  clear hw1
  cases q1 : ideq a1 a2 b1 b2 <;> cases q2 : (ak == bk) <;> cases q3 : (ac == bc)
  all_goals
    have hr := Hall.out
    simp only [q1, q2, q3, Bool.false_and, Bool.and_false, Bool.true_and] at hr
    have hR := hide hr
    clear hr
    go_wp2_with (go_at_call 98; refine (HV _).mono ?_; rintro r w2 ⟨rfl, hb2⟩; have l2 := later hb2)
    go_ret
    exact ⟨ret_bool hR.out.symm, below_of⟩
end Go.Proofs.YtpkfenlfgdbkcaaGreatDoor
