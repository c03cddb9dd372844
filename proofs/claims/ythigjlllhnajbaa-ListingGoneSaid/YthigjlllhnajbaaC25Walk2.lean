/-
  Contracts of the functions of this seat that each theorem names: what a call returns, and that it writes nothing that was there before. The conditions stand in each theorem.
-/
import Derived.Test.YthigjlllhnajbaaC25Walk1
namespace Go.Proofs.Ythigjlllhnajbaa
open Go.RowKit
attribute [local go_sem ↓] run_neq_ListedE

set_option maxRecDepth 100000 in
set_option maxHeartbeats 2000000 in
theorem valid_any' (R S C : Int) (A : Option Addr) (c : Nat) (es : List ListedE) (w : World) (hs : SlAt ListedE.cells 3 w A es) (hl : es.length ≤ 1000000000000000) :
    Calls Try.prog 15 #[.agg #[.int .i64 R, .int .i64 S, .int .i64 C, .slice A es.length c]] w fun r w' => r = .returned (.bool ((headB R S C es.length && okB es))) ∧ Below w.heap.size w w' := by
  have HL : ∀ u [Later w u], SlAt ListedE.cells 3 u A es := fun u i => hs.below i.below
  have hsl : es.length ≤ 9223372036854775807 := by omega
  by_cases hh : 1 ≤ R ∧ 0 ≤ S ∧ 0 ≤ C ∧ es.length ≤ 1024
  rotate_left
  · have Hf := hide (show (headB R S C es.length && okB es) = false by
      unfold headB
      rw [Bool.and_eq_false_iff]; left
      simp only [Bool.and_eq_false_iff, decide_eq_false_iff_not]
      omega)
    go_enter Try.func15, Try.ntmps15
    by_cases h1 : R < 1
    · go_wp2_with fail
      go_ret
      exact ⟨ret_bool Hf.out.symm, (by repeat (first | with_reducible exact Below.refl _ _ | (with_reducible refine Below.drew ?_) | (with_reducible refine below_drewN ?_ _) | (with_reducible refine Below.alloc ?_ ?_ _; rotate_left; (first | omega | (simp <;> omega))) | (with_reducible refine Below.setCell ?_ ?_ _; rotate_left; (first | omega | (simp <;> omega)))))⟩
    by_cases h2 : S < 0
    · go_wp2_with fail
      go_ret
      exact ⟨ret_bool Hf.out.symm, (by repeat (first | with_reducible exact Below.refl _ _ | (with_reducible refine Below.drew ?_) | (with_reducible refine below_drewN ?_ _) | (with_reducible refine Below.alloc ?_ ?_ _; rotate_left; (first | omega | (simp <;> omega))) | (with_reducible refine Below.setCell ?_ ?_ _; rotate_left; (first | omega | (simp <;> omega)))))⟩
    by_cases h3 : C < 0
    · go_wp2_with fail
      go_ret
      exact ⟨ret_bool Hf.out.symm, (by repeat (first | with_reducible exact Below.refl _ _ | (with_reducible refine Below.drew ?_) | (with_reducible refine below_drewN ?_ _) | (with_reducible refine Below.alloc ?_ ?_ _; rotate_left; (first | omega | (simp <;> omega))) | (with_reducible refine Below.setCell ?_ ?_ _; rotate_left; (first | omega | (simp <;> omega)))))⟩
    have h4 : 1024 < es.length := by omega
    go_wp2_with fail
    go_ret
    exact ⟨ret_bool Hf.out.symm, (by repeat (first | with_reducible exact Below.refl _ _ | (with_reducible refine Below.drew ?_) | (with_reducible refine below_drewN ?_ _) | (with_reducible refine Below.alloc ?_ ?_ _; rotate_left; (first | omega | (simp <;> omega))) | (with_reducible refine Below.setCell ?_ ?_ _; rotate_left; (first | omega | (simp <;> omega)))))⟩
  obtain ⟨h1, h2, h3, h4⟩ := hh
  have h1' : ¬ R < 1 := by omega
  have h2' : ¬ S < 0 := by omega
  have h3' : ¬ C < 0 := by omega
  have h4' : ¬ 1024 < es.length := by omega
  have hh := hide (show headB R S C es.length = true by simp [headB, h1, h2, h3, h4])
  go_enter Try.func15, Try.ntmps15
  go_upto_region 3 with fail
  refine wp_name ?_
  intro w0 hw0
  obtain ⟨B0, l0⟩ := box1 hw0
  clear hw0
  go_wp2_with fail
  go_loopw [3, 4, 27] (fun _ _ i wr => ∃ k : Nat, k ≤ es.length ∧ i = .int .i64 k ∧ OkTo es k ∧ Below w0.heap.size w0 wr) (fun _ _ i _ => es.length - (intOf i).toNat)
  case atStart => exact ⟨0, by omega, rfl, OkTo.zero, Below.refl _ _⟩
  case round =>
    obtain ⟨k, hk, rfl, hok, hbw⟩ := hrel
    have lr := later hbw
    by_cases hlt : k < es.length
    · obtain ⟨g1, o1, x, rfl, hx, C1⟩ := ListedE.get (HL wr) hlt
      have Hx := hide hx
      clear hx
      go_upto_region 6 with fail
      refine wp_name ?_
      intro wx hwx
      obtain ⟨B1, l1⟩ := box1 hwx
      clear hwx
      by_cases hd : x.distance < 0
      · have Hf := hide (okB_neg Hx.out hd)
        go_wp2_with fail
        (refine wp_region_after (by kernel_rfl) (by kernel_rfl) ?_
         repeat (any_goals (first | go_big_quiet_skip | (go_big_quiet_want; go_big_quiet_op; first | go_big_quiet_on | go_big_quiet_call (fail)) | quiet_step (fail) | (refine wpQuiet_step (fun K hK => ?_); go_simp; split <;> (refine hK _ ?_; clear hK K))))
         all_goals (refine wpQuiet_nil ?_; intro _ hw'; obtain ⟨u', hw''⟩ := hw'; subst hw''; obtain ⟨wd, hbd⟩ := u'; simp only [After.val_mk]))
        all_goals (try (exfalso; omega))
        have ld := later hbd
        go_wp2_with fail
        go_ret
        exact ⟨ret_bool (by rw [Hf.out, Bool.and_false]), below_of⟩
      have hd' : decide (x.distance < 0) = false := by simpa using hd
      by_cases hk0 : k = 0
      · subst hk0
        go_wp2_with fail
        (refine wp_region_after (by kernel_rfl) (by kernel_rfl) ?_
         repeat (any_goals (first | go_big_quiet_skip | (go_big_quiet_want; go_big_quiet_op; first | go_big_quiet_on | go_big_quiet_call (fail)) | quiet_step (fail) | (refine wpQuiet_step (fun K hK => ?_); go_simp; split <;> (refine hK _ ?_; clear hK K))))
         all_goals (refine wpQuiet_nil ?_; intro _ hw'; obtain ⟨u', hw''⟩ := hw'; subst hw''; obtain ⟨wd, hbd⟩ := u'; simp only [After.val_mk]))
        all_goals (try (exfalso; omega))
        have ld := later hbd
        go_wp2_with fail
        go_roundw
        case rel => exact ⟨1, by omega, by go_num, hok.succ Hx.out (by omega) (fun j p hj => by omega), below_of⟩
        case measure => simp [intOf] <;> omega
      obtain ⟨j, hj⟩ : ∃ j : Nat, k = j + 1 := ⟨k - 1, by omega⟩
      have hj1 : ((k : Int) - 1) = (j : Int) := by omega
      have hkp : decide (0 < (k : Int)) = true := by simp; omega
      obtain ⟨g2, o2, p, hA2, hp, C2⟩ := ListedE.get (HL wr) (k := j) (by omega)
      injection hA2 with hA2
      injection hA2 with hA2 hA3
      subst hA2 hA3
      have Hj := hide hj
      have Hp := hide hp
      have hjl : (j : Int) < (es.length : Int) := by omega
      clear hj hp
      by_cases hn : x.number ≤ p.number
      · have Hf := hide (okB_num (by rw [← Hj.out]; exact Hx.out) Hp.out hn)
        go_wp2_with fail
        (refine wp_region_after (by kernel_rfl) (by kernel_rfl) ?_
         repeat (any_goals (first | go_big_quiet_skip | (go_big_quiet_want; go_big_quiet_op; first | go_big_quiet_on | go_big_quiet_call (fail)) | quiet_step (fail) | (refine wpQuiet_step (fun K hK => ?_); go_simp; split <;> (refine hK _ ?_; clear hK K))))
         all_goals (refine wpQuiet_nil ?_; intro _ hw'; obtain ⟨u', hw''⟩ := hw'; subst hw''; obtain ⟨wd, hbd⟩ := u'; simp only [After.val_mk]))
        all_goals (try (exfalso; omega))
        have ld := later hbd
        go_wp2_with fail
        go_ret
        exact ⟨ret_bool (by rw [Hf.out, Bool.and_false]), below_of⟩
      · have hn' : decide (x.number ≤ p.number) = false := by simpa using hn
        go_wp2_with fail
        (refine wp_region_after (by kernel_rfl) (by kernel_rfl) ?_
         repeat (any_goals (first | go_big_quiet_skip | (go_big_quiet_want; go_big_quiet_op; first | go_big_quiet_on | go_big_quiet_call (fail)) | quiet_step (fail) | (refine wpQuiet_step (fun K hK => ?_); go_simp; split <;> (refine hK _ ?_; clear hK K))))
         all_goals (refine wpQuiet_nil ?_; intro _ hw'; obtain ⟨u', hw''⟩ := hw'; subst hw''; obtain ⟨wd, hbd⟩ := u'; simp only [After.val_mk]))
        all_goals (try (exfalso; omega))
        have ld := later hbd
        go_wp2_with fail
        go_roundw
        case rel => exact ⟨k + 1, by omega, by go_num, hok.succ Hx.out (by omega) (fun j' p' hj' hp' => by
          have : j' = j := by have := Hj.out; omega
          subst this
          have hp := Hp.out
          rw [hp] at hp'; injection hp' with hp'; subst hp'; omega), below_of⟩
        case measure => simp [intOf]; omega
    · have hk' : k = es.length := by omega
      subst hk'
      go_wp2_with fail
      go_ret
      exact ⟨ret_bool (by rw [hh.out, (okB_iff _).2 hok]; rfl), below_of⟩
theorem valid_any (L : ListV) (w : World) (hL : L.at_ w) :
    Calls Try.prog 15 #[L.v] w fun r w' => r = .returned (.bool (validB L)) ∧ Below w.heap.size w w' :=
  valid_any' L.round L.sent L.received L.A L.c L.entries w hL.s hL.sl
end Go.Proofs.Ythigjlllhnajbaa
