/-
  Contracts of the functions of this seat that each theorem names: what a call returns, and that it writes nothing that was there before. The conditions stand in each theorem.
-/
import Derived.Test.YtnjpmpelgigmjaaC34Law2
import Derived.Test.YtnjpmpelgigmjaaC34Open
namespace Go.Proofs.Ytnjpmpelgigmjaa
open Go.RowKit
attribute [local go_sem ↓] run_eql_trace run_neq_trace

/-- The three boxes of a law over a claim, a trace and tables. -/
structure LEnv (w : World) (c : ClaimV) (t : TraceE) (x : TablesV) (h : Nat) : Prop where
  c0 : w.cell? ⟨h, 0, none⟩ = some (.int .i64 c.machine)
  c1 : w.cell? ⟨h, 1, none⟩ = some (.int .i64 c.epoch)
  c2 : w.cell? ⟨h, 2, none⟩ = some (.slice c.sA c.stubs.length c.sC)
  c3 : w.cell? ⟨h, 3, none⟩ = some (.slice c.nA c.scions.length c.nC)
  c4 : w.cell? ⟨h, 4, none⟩ = some (.slice c.kA c.checks.length c.kC)
  t0 : w.cell? ⟨h + 1, 0, none⟩ = some (.int .i64 t.machine)
  t1 : w.cell? ⟨h + 1, 1, none⟩ = some (.int .i64 t.serial)
  x0 : w.cell? ⟨h + 1 + 1, 0, none⟩ = some (.slice x.sA x.stubs.length x.sC)
  x1 : w.cell? ⟨h + 1 + 1, 1, none⟩ = some (.slice x.nA x.scions.length x.nC)
  x2 : w.cell? ⟨h + 1 + 1, 2, none⟩ = some (.int .i64 x.epoch)
  x3 : w.cell? ⟨h + 1 + 1, 3, none⟩ = some (.slice x.rA x.received.length x.rC)
  hc : c.at_ w
  hx : x.at_ w
theorem LEnv.below {w w' : World} {c : ClaimV} {t : TraceE} {x : TablesV} {h : Nat} (E : LEnv w c t x h) (hb : Below w.heap.size w w') : LEnv w' c t x h :=
  ⟨cell_below E.c0 hb, cell_below E.c1 hb, cell_below E.c2 hb, cell_below E.c3 hb, cell_below E.c4 hb, cell_below E.t0 hb, cell_below E.t1 hb, cell_below E.x0 hb, cell_below E.x1 hb, cell_below E.x2 hb, cell_below E.x3 hb, E.hc.below hb, E.hx.below hb⟩

set_option maxHeartbeats 800000 in
theorem checks_any (c : ClaimV) (t : TraceE) (x : TablesV) (w : World) (hc : c.at_ w) (hx : x.at_ w) :
    Calls Try.prog 3 #[c.v, t.v, x.v] w fun r w' => r = .returned (.bool true) ∧ Below w.heap.size w w' := by
  go_enter Try.func3, Try.ntmps3
  go_wp2_with fail
  refine (awake_any _).mono ?_
  rintro r w1 ⟨rfl, hb⟩
  have hb1 : Below w.heap.size w w1 := (Below.trans (by repeat (first | with_reducible exact Below.refl _ _ | (with_reducible refine Below.drew ?_) | (with_reducible refine below_drewN ?_ _) | (with_reducible refine Below.alloc ?_ ?_ _; rotate_left; (first | omega | (simp <;> omega))) | (with_reducible refine Below.setCell ?_ ?_ _; rotate_left; (first | omega | (simp <;> omega))))) (hb.mono (by first | omega | (simp <;> omega))))
  have E : LEnv w1 c t x w.heap.size := by
    refine ⟨?_, ?_, ?_, ?_, ?_, ?_, ?_, ?_, ?_, ?_, ?_, hc.below hb1, hx.below hb1⟩ <;> exact cell_below (by simp [go_sem]) hb
  have hlt := World.block_lt_of_cell? w1 _ E.x0
  simp only at hlt
  have hl0 : w.heap.size < w1.heap.size := by omega
  have hl1 : w.heap.size + 1 < w1.heap.size := by omega
  have e0 := E.c0
  have e1 := E.c1
  have e2 := E.c2
  have e3 := E.c3
  have e4 := E.c4
  have e5 := E.x0
  have e6 := E.x1
  have e7 := E.x2
  have e8 := E.x3
  clear hb
  go_wp2_with fail
  refine (many_any x c _ _ (heap_alloc_new _ _) hc.tot hx.sl hx.nl hx.rl).mono ?_
  rintro r w2 ⟨rfl, hb⟩
  have hb2 : Below w1.heap.size w1 w2 := (Below.trans (by repeat (first | with_reducible exact Below.refl _ _ | (with_reducible refine Below.drew ?_) | (with_reducible refine below_drewN ?_ _) | (with_reducible refine Below.alloc ?_ ?_ _; rotate_left; (first | omega | (simp <;> omega))) | (with_reducible refine Below.setCell ?_ ?_ _; rotate_left; (first | omega | (simp <;> omega))))) (hb.mono (by first | omega | (simp <;> omega))))
  have E2 := E.below hb2
  have hbA : Below w.heap.size w w2 := hb1.trans (hb2.mono hb1.size)
  clear e0 e1 e2 e3 e4 e5 e6 e7 e8 E hb hc hx hb1
  cases hm : manyB x c
  rotate_left
  · go_wp2_with fail
    go_ret
    exact ⟨rfl, hbA⟩
  have g0 := After.cell E2.c0
  have g1 := After.cell E2.c1
  have g2 := After.cell E2.c2
  have g3 := After.cell E2.c3
  have g4 := After.cell E2.c4
  have g5 := After.cell E2.t0
  have g6 := After.cell E2.t1
  have g7 := After.cell E2.x0
  have g8 := After.cell E2.x1
  have g9 := After.cell E2.x2
  have g10 := After.cell E2.x3
  go_wp2_with fail
  (refine wp_region_after (by kernel_rfl) (by kernel_rfl) ?_
   repeat (any_goals (first | go_big_quiet_skip | (go_big_quiet_want; go_big_quiet_op; first | go_big_quiet_on | go_big_quiet_call ((first | (go_at_call 12; exact Calls.after (lawcheck_any c t x _ (E2.hc.below (After.below _)) (E2.hx.below (After.below _)))) | (go_at_call 13; exact Calls.after (refCheck_any c t x.epoch x.sA x.sC x.stubs x.nA x.nC x.scions x.rA x.rC x.received _ (E2.hc.below (After.below _)) (E2.hx.s.below (After.below _)) (E2.hx.n.below (After.below _)) (E2.hx.r.below (After.below _)) E2.hx.sl E2.hx.nl E2.hx.rl))))) | quiet_step ((first | (go_at_call 12; exact Calls.after (lawcheck_any c t x _ (E2.hc.below (After.below _)) (E2.hx.below (After.below _)))) | (go_at_call 13; exact Calls.after (refCheck_any c t x.epoch x.sA x.sC x.stubs x.nA x.nC x.scions x.rA x.rC x.received _ (E2.hc.below (After.below _)) (E2.hx.s.below (After.below _)) (E2.hx.n.below (After.below _)) (E2.hx.r.below (After.below _)) E2.hx.sl E2.hx.nl E2.hx.rl)))) | (refine wpQuiet_step (fun K hK => ?_); go_simp; split <;> (refine hK _ ?_; clear hK K))))
   all_goals (refine wpQuiet_nil ?_; intro _ hw'; obtain ⟨u', hw''⟩ := hw'; subst hw''; obtain ⟨wd, hbd⟩ := u'; simp only [After.val_mk]))
  go_wp2_with fail
  go_ret
  exact ⟨ret_bool (by simp), hbA.trans (hbd.mono hbA.size)⟩
end Go.Proofs.Ytnjpmpelgigmjaa
