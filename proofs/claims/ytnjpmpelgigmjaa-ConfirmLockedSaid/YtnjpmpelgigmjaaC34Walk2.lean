/-
  Contracts of the functions of this seat that each theorem names: what a call returns, and that it writes nothing that was there before. The conditions stand in each theorem.
-/
import Derived.Test.YtnjpmpelgigmjaaC34Walk1
namespace Go.Proofs.Ytnjpmpelgigmjaa
open Go.RowKit
attribute [local go_sem ↓] run_eql_trace

set_option maxHeartbeats 800000 in
theorem quiet_any (A : Option Addr) (c : Nat) (l : List StubE) (n : NeedE) (t : TraceE) (w : World) (hr : SlAt StubE.cells 12 w A l) (hlen : l.length ≤ 9223372036854775807) :
    Calls Try.prog 30 #[n.v, t.v, .slice A l.length c] w fun e w' => e = .returned (.bool (quietB n t l)) ∧ Below w.heap.size w w' := by
  rcases idxOf_cases (isStub n.peer n.number) l with ⟨hi, hno⟩ | ⟨k, x, hi, hx, hp, hno⟩
  · have Hfin := hide (show quietB n t l = false by unfold quietB; rw [find_miss hno])
    clear hno
    go_enter Try.func30, Try.ntmps30
    go_wp2_with fail
    refine (stub_any A c l n _ (hr.below (by repeat (first | with_reducible exact Below.refl _ _ | (with_reducible refine Below.drew ?_) | (with_reducible refine below_drewN ?_ _) | (with_reducible refine Below.alloc ?_ ?_ _; rotate_left; (first | omega | (simp <;> omega))) | (with_reducible refine Below.setCell ?_ ?_ _; rotate_left; (first | omega | (simp <;> omega)))))) hlen).mono ?_
    rintro e w1 ⟨rfl, hb⟩
    have hb' : Below w.heap.size w w1 := Below.trans (by repeat (first | with_reducible exact Below.refl _ _ | (with_reducible refine Below.drew ?_) | (with_reducible refine below_drewN ?_ _) | (with_reducible refine Below.alloc ?_ ?_ _; rotate_left; (first | omega | (simp <;> omega))) | (with_reducible refine Below.setCell ?_ ?_ _; rotate_left; (first | omega | (simp <;> omega))))) (hb.mono (by simp <;> omega))
    go_wp2_with fail
    (refine wp_region_after (by kernel_rfl) (by kernel_rfl) ?_
     repeat (any_goals (first | go_big_quiet_skip | (go_big_quiet_want; go_big_quiet_op; first | go_big_quiet_on | go_big_quiet_call (fail)) | quiet_step (fail) | (refine wpQuiet_step (fun K hK => ?_); go_simp; split <;> (refine hK _ ?_; clear hK K))))
     all_goals (refine wpQuiet_nil ?_; intro _ hw'; obtain ⟨u', hw''⟩ := hw'; subst hw''; obtain ⟨w1, hb1⟩ := u'; simp only [After.val_mk]))
    go_wp2
    go_ret
    exact ⟨ret_bool Hfin.out.symm, hb'.trans (hb1.mono hb'.size)⟩
  · have Hfin := hide (show quietB n t l = quietE t x by unfold quietB; rw [find_hit hx hp hno])
    have hk : k < l.length := (List.getElem?_eq_some_iff.1 hx).1
    obtain ⟨b, off, x', rfl, hbk, hx', hc⟩ := hr.at_ hk
    obtain rfl : x = x' := by rw [hx] at hx'; injection hx'
    obtain ⟨f0, f1, f2, f3, f4, f5, f6, f7, f8, f9, f10, f11⟩ := StubE.facts hc
    clear hc hx hx' hp hno
    go_enter Try.func30, Try.ntmps30
    go_wp2_with fail
    refine (stub_any _ c l n _ (hr.below (by repeat (first | with_reducible exact Below.refl _ _ | (with_reducible refine Below.drew ?_) | (with_reducible refine below_drewN ?_ _) | (with_reducible refine Below.alloc ?_ ?_ _; rotate_left; (first | omega | (simp <;> omega))) | (with_reducible refine Below.setCell ?_ ?_ _; rotate_left; (first | omega | (simp <;> omega)))))) hlen).mono ?_
    rintro e w1 ⟨rfl, hb⟩
    have hb' : Below w.heap.size w w1 := Below.trans (by repeat (first | with_reducible exact Below.refl _ _ | (with_reducible refine Below.drew ?_) | (with_reducible refine below_drewN ?_ _) | (with_reducible refine Below.alloc ?_ ?_ _; rotate_left; (first | omega | (simp <;> omega))) | (with_reducible refine Below.setCell ?_ ?_ _; rotate_left; (first | omega | (simp <;> omega))))) (hb.mono (by simp <;> omega))
    have g7 := After.cell (cell_below f7 hb')
    have g9 := After.cell (cell_below f9 hb')
    have g10 := After.cell (cell_below f10 hb')
    have g11 := After.cell (cell_below f11 hb')
    have q0 := After.cell (w := w1) (a := ⟨w.heap.size + 1, 0, none⟩) (v := .int .i64 t.machine) (cell_below (by simp) hb)
    have q1 := After.cell (w := w1) (a := ⟨w.heap.size + 1, 1, none⟩) (v := .int .i64 t.serial) (cell_below (by simp) hb)
    clear hr f0 f1 f2 f3 f4 f5 f6 f7 f8 f9 f10 f11
    go_wp2_with fail
    (refine wp_region_after (by kernel_rfl) (by kernel_rfl) ?_
     repeat (any_goals (first | go_big_quiet_skip | (go_big_quiet_want; go_big_quiet_op; first | go_big_quiet_on | go_big_quiet_call ((go_at_call 32; exact Calls.after (free_any _ _ _ _ _)))) | quiet_step ((go_at_call 32; exact Calls.after (free_any _ _ _ _ _))) | (refine wpQuiet_step (fun K hK => ?_); go_simp; split <;> (refine hK _ ?_; clear hK K))))
     all_goals (refine wpQuiet_nil ?_; intro _ hw'; obtain ⟨u', hw''⟩ := hw'; subst hw''; obtain ⟨w1, hb1⟩ := u'; simp only [After.val_mk]))
    all_goals
      go_wp2
      go_ret
      exact ⟨ret_bool (by rw [Hfin.out]; simp [quietE, *]), hb'.trans (hb1.mono hb'.size)⟩
end Go.Proofs.Ytnjpmpelgigmjaa
