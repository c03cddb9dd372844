/-
  Contracts of the functions of this seat that each theorem names: what a call returns, and that it writes nothing that was there before. The conditions stand in each theorem.
-/
import Derived.Test.YthigjlllhnajbaaC25Walk2
namespace Go.Proofs.Ythigjlllhnajbaa
open Go.RowKit
attribute [local go_sem ↓] run_neq_ListedE
set_option maxRecDepth 100000 in
set_option maxHeartbeats 2000000 in
theorem refValid_any' (R S C : Int) (A : Option Addr) (c : Nat) (es : List ListedE) (w : World) (hs : SlAt ListedE.cells 3 w A es) (hl : es.length ≤ 1000000000000000) :
    Calls Try.prog 20 #[.agg #[.int .i64 R, .int .i64 S, .int .i64 C, .slice A es.length c]] w fun r w' => r = .returned (.bool (headB R S C es.length && okB es)) ∧ Below w.heap.size w w' := by
  have HL : ∀ u [Later w u], SlAt ListedE.cells 3 u A es := fun u i => hs.below i.below
  have hsl : es.length ≤ 9223372036854775807 := by omega
  go_enter Try.func20, Try.ntmps20
  go_wp2
  refine wp_name ?_
  intro w0 hw0
  obtain ⟨B0, l0⟩ := box1 hw0
  clear hw0
  go_loopw [3] (fun i wr => ∃ k : Nat, k ≤ es.length ∧ i = .int .i64 k ∧ OkTo es k ∧ Below w0.heap.size w0 wr) (fun i _ => es.length - (intOf i).toNat)
  case atStart => exact ⟨0, by omega, rfl, OkTo.zero, Below.refl _ _⟩
  case round =>
    obtain ⟨k, hk, rfl, hok, hbw⟩ := hrel
    have lr := later hbw
    by_cases hlt : k < es.length
    · obtain ⟨g1, o1, x, rfl, hx, C1⟩ := ListedE.get (HL wr) hlt
      have Hx := hide hx
      clear hx
      have hti : (k : Int) < (es.length : Int) := by omega
      go_upto_region 4 with fail
      by_cases hd : x.distance < 0
      · have Hf := hide (okB_neg Hx.out hd)
        go_wp2_with fail
        (refine wp_region_after (by kernel_rfl) (by kernel_rfl) ?_
         repeat (any_goals (first | go_big_quiet_skip | (go_big_quiet_want; go_big_quiet_op; first | go_big_quiet_on | go_big_quiet_call (fail)) | quiet_step (fail) | (refine wpQuiet_step (fun K hK => ?_); go_simp; split <;> (refine hK _ ?_; clear hK K))))
         all_goals (refine wpQuiet_nil ?_; intro _ hw'; obtain ⟨u', hw''⟩ := hw'; subst hw''; obtain ⟨wd, hbd⟩ := u'; simp only [After.val_mk]))
        all_goals (try (exfalso; omega))
        have ld := later hbd
        go_wp2_with fail
        go_ret
        exact ⟨ret_bool (by rw [Hf.out, Bool.and_false]), below_of⟩
      have hd' : decide (x.distance < 0) = false := by simpa using hd
      by_cases hk0 : k = 0
      · subst hk0
        go_wp2_with fail
        (refine wp_region_after (by kernel_rfl) (by kernel_rfl) ?_
         repeat (any_goals (first | go_big_quiet_skip | (go_big_quiet_want; go_big_quiet_op; first | go_big_quiet_on | go_big_quiet_call (fail)) | quiet_step (fail) | (refine wpQuiet_step (fun K hK => ?_); go_simp; split <;> (refine hK _ ?_; clear hK K))))
         all_goals (refine wpQuiet_nil ?_; intro _ hw'; obtain ⟨u', hw''⟩ := hw'; subst hw''; obtain ⟨wd, hbd⟩ := u'; simp only [After.val_mk]))
        all_goals (try (exfalso; omega))
        have ld := later hbd
        go_wp2_with fail
        go_roundw
        case rel => exact ⟨1, by omega, by go_num, hok.succ Hx.out (by omega) (fun j p hj => by omega), below_of⟩
        case measure => simp [intOf] <;> omega
      obtain ⟨j, hj⟩ : ∃ j : Nat, k = j + 1 := ⟨k - 1, by omega⟩
      have hj1 : ((k : Int) - 1) = (j : Int) := by omega
      have hkp : decide (0 < (k : Int)) = true := by simp; omega
      obtain ⟨g2, o2, p, hA2, hp, C2⟩ := ListedE.get (HL wr) (k := j) (by omega)
      injection hA2 with hA2
      injection hA2 with hA2 hA3
      subst hA2 hA3
      have Hj := hide hj
      have Hp := hide hp
      have hjl : (j : Int) < (es.length : Int) := by omega
      clear hj hp
      by_cases hn : x.number ≤ p.number
      · have Hf := hide (okB_num (by rw [← Hj.out]; exact Hx.out) Hp.out hn)
        go_wp2_with fail
        (refine wp_region_after (by kernel_rfl) (by kernel_rfl) ?_
         repeat (any_goals (first | go_big_quiet_skip | (go_big_quiet_want; go_big_quiet_op; first | go_big_quiet_on | go_big_quiet_call (fail)) | quiet_step (fail) | (refine wpQuiet_step (fun K hK => ?_); go_simp; split <;> (refine hK _ ?_; clear hK K))))
         all_goals (refine wpQuiet_nil ?_; intro _ hw'; obtain ⟨u', hw''⟩ := hw'; subst hw''; obtain ⟨wd, hbd⟩ := u'; simp only [After.val_mk]))
        all_goals (try (exfalso; omega))
        have ld := later hbd
        go_wp2_with fail
        go_ret
        exact ⟨ret_bool (by rw [Hf.out, Bool.and_false]), below_of⟩
      · have hn' : decide (x.number ≤ p.number) = false := by simpa using hn
        go_wp2_with fail
        (refine wp_region_after (by kernel_rfl) (by kernel_rfl) ?_
         repeat (any_goals (first | go_big_quiet_skip | (go_big_quiet_want; go_big_quiet_op; first | go_big_quiet_on | go_big_quiet_call (fail)) | quiet_step (fail) | (refine wpQuiet_step (fun K hK => ?_); go_simp; split <;> (refine hK _ ?_; clear hK K))))
         all_goals (refine wpQuiet_nil ?_; intro _ hw'; obtain ⟨u', hw''⟩ := hw'; subst hw''; obtain ⟨wd, hbd⟩ := u'; simp only [After.val_mk]))
        all_goals (try (exfalso; omega))
        have ld := later hbd
        go_wp2_with fail
        go_roundw
        case rel => exact ⟨k + 1, by omega, by go_num, hok.succ Hx.out (by omega) (fun j' p' hj' hp' => by
          have : j' = j := by have := Hj.out; omega
          subst this
          have hp := Hp.out
          rw [hp] at hp'; injection hp' with hp'; subst hp'; omega), below_of⟩
        case measure => simp [intOf]; omega
    · have hk' : k = es.length := by omega
      subst hk'
      have Hok := hide ((okB_iff _).2 hok)
      by_cases h1 : R < 1
      · have h1' : ¬ 1 ≤ R := by omega
        go_wp2_with fail
        go_ret
        exact ⟨ret_bool (by simp [headB]; intros; omega), below_of⟩
      have h1' : 1 ≤ R := by omega
      by_cases h2 : S < 0
      · have h2' : ¬ 0 ≤ S := by omega
        go_wp2_with fail
        go_ret
        exact ⟨ret_bool (by simp [headB]; intros; omega), below_of⟩
      have h2' : 0 ≤ S := by omega
      by_cases h3 : C < 0
      · have h3' : ¬ 0 ≤ C := by omega
        go_wp2_with fail
        go_ret
        exact ⟨ret_bool (by simp [headB]; intros; omega), below_of⟩
      have h3' : 0 ≤ C := by omega
      go_wp2_with fail
      go_ret
      exact ⟨ret_bool (by rw [Hok.out]; simp [headB, h1', h2', h3']; omega), below_of⟩
theorem refValid_any (L : ListV) (w : World) (hL : L.at_ w) :
    Calls Try.prog 20 #[L.v] w fun r w' => r = .returned (.bool (validB L)) ∧ Below w.heap.size w w' :=
  refValid_any' L.round L.sent L.received L.A L.c L.entries w hL.s hL.sl


set_option maxHeartbeats 800000 in
theorem ready_any (L : ListV) (m n : Int) (w : World) (hL : L.at_ w) :
    Calls Try.prog 21 #[L.v, .int .i64 m, .int .i64 n] w fun r w' => r = .returned (.bool (readyB L m n)) ∧ Below w.heap.size w w' := by
  have HL := hL.later
  go_enter Try.func21, Try.ntmps21
  go_upto_region 1 with fail
  refine wp_name ?_
  intro w0 hw0
  obtain ⟨B0, l0⟩ := box1 hw0
  clear hw0
  go_wp2_with (go_at_call 15; refine (valid_any L _ (HL _)).mono ?_)
  rintro r w1 ⟨rfl, hb1⟩
  have l1 := later hb1
  cases hv : validB L with
  | false =>
    go_wp2_with fail
    go_ret
    exact ⟨ret_bool (by simp [readyB, hv]), below_of⟩
  | true =>
    by_cases hm : m < L.round
    · go_wp2_with fail
      go_ret
      exact ⟨ret_bool (by simp [readyB, hv, hm]), below_of⟩
    · go_wp2_with fail
      go_ret
      exact ⟨ret_bool (by simp [readyB, hv, hm]; intros; omega), below_of⟩
set_option maxHeartbeats 800000 in
theorem refReady_any (L : ListV) (m n : Int) (w : World) (hL : L.at_ w) :
    Calls Try.prog 22 #[L.v, .int .i64 m, .int .i64 n] w fun r w' => r = .returned (.bool (readyB L m n)) ∧ Below w.heap.size w w' := by
  have HL := hL.later
  go_enter Try.func22, Try.ntmps22
  go_upto_region 1 with fail
  refine wp_name ?_
  intro w0 hw0
  obtain ⟨B0, l0⟩ := box1 hw0
  clear hw0
  go_wp2_with (go_at_call 20; refine (refValid_any L _ (HL _)).mono ?_)
  rintro r w1 ⟨rfl, hb1⟩
  have l1 := later hb1
  cases hv : validB L with
  | false =>
    go_wp2_with fail
    go_ret
    exact ⟨ret_bool (by simp [readyB, hv]), below_of⟩
  | true =>
    by_cases hm : m < L.round
    · go_wp2_with fail
      go_ret
      exact ⟨ret_bool (by simp [readyB, hv, hm]), below_of⟩
    · go_wp2_with fail
      go_ret
      exact ⟨ret_bool (by simp [readyB, hv, hm]; intros; omega), below_of⟩
end Go.Proofs.Ythigjlllhnajbaa
