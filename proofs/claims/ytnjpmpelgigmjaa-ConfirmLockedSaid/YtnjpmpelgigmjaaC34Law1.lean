/-
  Contracts of the functions of this seat that each theorem names: what a call returns, and that it writes nothing that was there before. The conditions stand in each theorem.
-/
import Derived.Test.YtnjpmpelgigmjaaC34Walk6
import Derived.Test.YtnjpmpelgigmjaaC34Walk8
namespace Go.Proofs.Ytnjpmpelgigmjaa
open Go.RowKit
attribute [local go_sem ↓] run_eql_trace run_neq_trace

set_option maxHeartbeats 400000 in
theorem lawcheck_any (c : ClaimV) (t : TraceE) (x : TablesV) (w : World) (hc : c.at_ w) (hx : x.at_ w) :
    Calls Try.prog 12 #[c.v, t.v, x.v] w fun r w' => r = .returned (.bool (checkB c t x.epoch x.stubs x.scions x.received)) ∧ Below w.heap.size w w' := by
  go_enter Try.func12, Try.ntmps12
  go_wp2_with fail
  refine (check_any c t x.epoch x.sA x.sC x.stubs x.nA x.nC x.scions x.rA x.rC x.received _ (hc.below (by repeat (first | with_reducible exact Below.refl _ _ | (with_reducible refine Below.drew ?_) | (with_reducible refine below_drewN ?_ _) | (with_reducible refine Below.alloc ?_ ?_ _; rotate_left; (first | omega | (simp <;> omega))) | (with_reducible refine Below.setCell ?_ ?_ _; rotate_left; (first | omega | (simp <;> omega)))))) (hx.s.below (by repeat (first | with_reducible exact Below.refl _ _ | (with_reducible refine Below.drew ?_) | (with_reducible refine below_drewN ?_ _) | (with_reducible refine Below.alloc ?_ ?_ _; rotate_left; (first | omega | (simp <;> omega))) | (with_reducible refine Below.setCell ?_ ?_ _; rotate_left; (first | omega | (simp <;> omega)))))) (hx.n.below (by repeat (first | with_reducible exact Below.refl _ _ | (with_reducible refine Below.drew ?_) | (with_reducible refine below_drewN ?_ _) | (with_reducible refine Below.alloc ?_ ?_ _; rotate_left; (first | omega | (simp <;> omega))) | (with_reducible refine Below.setCell ?_ ?_ _; rotate_left; (first | omega | (simp <;> omega)))))) (hx.r.below (by repeat (first | with_reducible exact Below.refl _ _ | (with_reducible refine Below.drew ?_) | (with_reducible refine below_drewN ?_ _) | (with_reducible refine Below.alloc ?_ ?_ _; rotate_left; (first | omega | (simp <;> omega))) | (with_reducible refine Below.setCell ?_ ?_ _; rotate_left; (first | omega | (simp <;> omega)))))) hx.sl hx.nl hx.rl).mono ?_
  rintro r w1 ⟨rfl, hb⟩
  go_wp2_with fail
  go_ret
  exact ⟨rfl, (Below.trans (by repeat (first | with_reducible exact Below.refl _ _ | (with_reducible refine Below.drew ?_) | (with_reducible refine below_drewN ?_ _) | (with_reducible refine Below.alloc ?_ ?_ _; rotate_left; (first | omega | (simp <;> omega))) | (with_reducible refine Below.setCell ?_ ?_ _; rotate_left; (first | omega | (simp <;> omega))))) (hb.mono (by first | omega | (simp <;> omega))))⟩

set_option maxHeartbeats 800000 in
theorem many_any (x : TablesV) (c : ClaimV) (g : Nat) (w : World) (hg : w.heap[g]? = some (.cells #[.int .i64 c.machine, .int .i64 c.epoch, .slice c.sA c.stubs.length c.sC, .slice c.nA c.scions.length c.nC, .slice c.kA c.checks.length c.kC] 24 (0, 0)))
    (htot : c.stubs.length + c.scions.length + c.checks.length ≤ 1000000000000000) (hsl : x.stubs.length ≤ 9223372036854775807) (hnl : x.scions.length ≤ 9223372036854775807) (hrl : x.received.length ≤ 9223372036854775807) :
    Calls Try.prog 11 #[x.v, .slice (some ⟨g, 0, none⟩) 1 1] w fun r w' => r = .returned (.bool (manyB x c)) ∧ Below w.heap.size w w' := by
  have hgl : g < w.heap.size := (Array.getElem?_eq_some_iff.1 hg).1
  have c2 : w.cell? ⟨g, 2, none⟩ = some (.slice c.sA c.stubs.length c.sC) := by rw [cell_of_row w g 2 _ _ _ hg]; rfl
  have c3 : w.cell? ⟨g, 3, none⟩ = some (.slice c.nA c.scions.length c.nC) := by rw [cell_of_row w g 3 _ _ _ hg]; rfl
  have c4 : w.cell? ⟨g, 4, none⟩ = some (.slice c.kA c.checks.length c.kC) := by rw [cell_of_row w g 4 _ _ _ hg]; rfl
  clear hg
  go_enter Try.func11, Try.ntmps11
  go_wp2_with fail
  refine wp_name ?_
  intro w0 hw0
  have hb0 : Below w.heap.size w w0 := by rw [← hw0]; exact (by repeat (first | with_reducible exact Below.refl _ _ | (with_reducible refine Below.drew ?_) | (with_reducible refine below_drewN ?_ _) | (with_reducible refine Below.alloc ?_ ?_ _; rotate_left; (first | omega | (simp <;> omega))) | (with_reducible refine Below.setCell ?_ ?_ _; rotate_left; (first | omega | (simp <;> omega)))))
  have z0 : w0.cell? ⟨w.heap.size, 0, none⟩ = some (.slice x.sA x.stubs.length x.sC) := by rw [← hw0]; simp [go_sem]
  have z1 : w0.cell? ⟨w.heap.size, 1, none⟩ = some (.slice x.nA x.scions.length x.nC) := by rw [← hw0]; simp [go_sem]
  have z3 : w0.cell? ⟨w.heap.size, 3, none⟩ = some (.slice x.rA x.received.length x.rC) := by rw [← hw0]; simp [go_sem]
  have d2 := cell_below c2 hb0
  have d3 := cell_below c3 hb0
  have d4 := cell_below c4 hb0
  clear hw0 c2 c3 c4
  go_loopw [5] (fun i wr => ((i = .int .i64 0) ∨ (i = .int .i64 1 ∧ ¬ 30 < c.stubs.length + c.scions.length + c.checks.length)) ∧ Below w0.heap.size w0 wr) (fun i _ => 1 - (intOf i).toNat)
  case atStart => exact ⟨.inl rfl, Below.refl _ _⟩
  case round =>
    obtain ⟨hi, hb⟩ := hrel
    have hb' : Below w.heap.size w wr := hb0.trans (hb.mono hb0.size)
    rcases hi with rfl | ⟨rfl, hno⟩
    · have e2 := After.cell (cell_below d2 hb)
      have e3 := After.cell (cell_below d3 hb)
      have e4 := After.cell (cell_below d4 hb)
      go_wp2_with fail
      (refine wp_region_after (by kernel_rfl) (by kernel_rfl) ?_
       repeat (any_goals (first | go_big_quiet_skip | (go_big_quiet_want; go_big_quiet_op; first | go_big_quiet_on | go_big_quiet_call (fail)) | quiet_step (fail) | (refine wpQuiet_step (fun K hK => ?_); go_simp; split <;> (refine hK _ ?_; clear hK K))))
       all_goals (refine wpQuiet_nil ?_; intro _ hw'; obtain ⟨u', hw''⟩ := hw'; subst hw''; obtain ⟨wd, hbd⟩ := u'; simp only [After.val_mk]))
      by_cases hm : 30 < c.stubs.length + c.scions.length + c.checks.length
      · have hm' : (30 : Int) < (c.stubs.length : Int) + (c.scions.length : Int) + (c.checks.length : Int) := by omega
        go_wp2_with fail
        go_ret
        exact ⟨ret_bool (by simp [manyB, hm]), hb'.trans (hbd.mono hb'.size)⟩
      · have hm' : ¬ (30 : Int) < (c.stubs.length : Int) + (c.scions.length : Int) + (c.checks.length : Int) := by omega
        go_wp2_with fail
        go_roundw
        case rel => exact ⟨.inr ⟨rfl, hm⟩, hb.trans (hbd.mono hb.size)⟩
        case measure => simp [intOf]
    · have y0 := cell_below z0 hb
      have y1 := cell_below z1 hb
      have y3 := cell_below z3 hb
      have Hfin := hide (show manyB x c = (decide (30 < x.stubs.length) || (decide (30 < x.scions.length) || decide (30 < x.received.length))) by simp [manyB, hno])
      clear z0 z1 z3 d2 d3 d4 hno
      by_cases h1 : 30 < x.stubs.length
      · have h1' : (30 : Int) < (x.stubs.length : Int) := by omega
        go_wp2_with fail
        go_ret
        exact ⟨ret_bool (by rw [Hfin.out]; simp [h1]), hb'⟩
      have h1' : ¬ (30 : Int) < (x.stubs.length : Int) := by omega
      by_cases h2 : 30 < x.scions.length
      · have h2' : (30 : Int) < (x.scions.length : Int) := by omega
        go_wp2_with fail
        go_ret
        exact ⟨ret_bool (by rw [Hfin.out]; simp [h1, h2]), hb'⟩
      have h2' : ¬ (30 : Int) < (x.scions.length : Int) := by omega
      go_wp2_with fail
      all_goals
        go_ret
        exact ⟨ret_bool (by rw [Hfin.out]; simp [h1, h2] <;> omega), hb'⟩
end Go.Proofs.Ytnjpmpelgigmjaa
