/-
  Contracts of the functions of this seat that each theorem names: what a call returns, and that it writes nothing that was there before. The conditions stand in each theorem.
-/
import Derived.Test.YtnfpbkimdhhmfaaGReach16
import Derived.Test.YtnfpbkimdhhmfaaG30Plain
namespace Go.Proofs.Ytnfpbkimdhhmfaa
open Go.RowKit
attribute [local go_sem ↓] run_eql_id run_neq_id
attribute [local simp] heap_drew
theorem refersN_none {n : NodeC} {x : IDE} (h : ∀ v ∈ n.fields, v.kind = 2 → v.ref ≠ x) : refersN n x = false := by
  unfold refersN
  cases hk : n.kind == 2
  · rfl
  · rw [Bool.true_and, List.any_eq_false]
    intro v hv
    by_cases h2 : v.kind = 2
    · simp [h2, h v hv h2]
    · simp [h2]
set_option maxRecDepth 100000 in
set_option maxHeartbeats 4000000 in
theorem refers_any (m1 m2 mk mc : Int) (mA : Option Addr) (mp : Nat) (mf : List ValE) (x : IDE) (w : World) (hs : SlAt ValE.cells 4 w mA mf) (hl : mf.length ≤ 1000000000) :
    Calls Try.prog 43 #[.agg #[.int .i64 m1, .int .i64 m2, .int .i64 mk, .int .i64 mc, .slice mA mf.length mp], x.v] w fun r w' => r = .returned (.bool (refersN ⟨m1, m2, mk, mc, mf⟩ x)) ∧ Below w.heap.size w w' := by
  have HS : ∀ u [Later w u], SlAt ValE.cells 4 u mA mf := fun u i => hs.below i.below
  have hl' : mf.length ≤ 9223372036854775807 := by omega
  obtain ⟨R, hR⟩ : ∃ R, R = refersN ⟨m1, m2, mk, mc, mf⟩ x := ⟨_, rfl⟩
  rw [← hR]
  have HR := hide hR
  clear hR
  go_enter Try.func43, Try.ntmps43
  go_upto_region 1 with fail
  refine wp_name ?_
  intro w0 hw0
  obtain ⟨B0, B1, l0⟩ := box2 hw0
  clear hw0
  by_cases hk : mk = 2
  · have hR2 := hide (show R = mf.any (fun v => v.kind == 2 && decide (v.ref = x)) by rw [HR.out]; unfold refersN; simp [hk])
    subst hk
    clear HR
    go_wp2_with fail
    go_loopw [5] (fun iv wr => ∃ k : Nat, k ≤ mf.length ∧ iv = .int .i64 k ∧ NoneTo (fun v : ValE => v.kind == 2 && decide (v.ref = x)) mf k ∧ Below w0.heap.size w0 wr) (fun iv _ => mf.length - (intOf iv).toNat)
    case atStart => exact ⟨0, by omega, rfl, NoneTo.zero, Below.refl _ _⟩
    case round =>
      obtain ⟨k, hk, rfl, hno, hbr⟩ := hrel
      have lr := later hbr
      have Hno := hide hno
      clear hno
      by_cases hlt : k < mf.length
      · obtain ⟨b1, o1, v, rfl, hv, C1⟩ := ValE.get (HS wr) hlt
        have Hv := hide hv
        have hki : (k : Int) < (mf.length : Int) := by omega
        clear hv
        by_cases hv2 : v.kind = 2
        · cases hq : ideq v.refMachine v.refSerial x.machine x.serial
          · have hp := hide (show (fun v : ValE => v.kind == 2 && decide (v.ref = x)) v = false by
              have := @ideq_iff v.ref x; unfold ValE.ref at this; rw [hq] at this
              simp only [hv2]; unfold ValE.ref; simp [← this])
            go_upto_region 6 with fail
            (refine wp_region_after (by kernel_rfl) (by kernel_rfl) ?_
             repeat (any_goals (first | go_big_quiet_skip | (go_big_quiet_want; go_big_quiet_op; first | go_big_quiet_on | go_big_quiet_call (fail)) | quiet_step (fail) | (refine wpQuiet_step (fun K hK => ?_); go_simp; split <;> (refine hK _ ?_; clear hK K))))
             all_goals (refine wpQuiet_nil ?_; intro _ hw'; obtain ⟨u', hw''⟩ := hw'; subst hw''; obtain ⟨wd, hbd⟩ := u'; simp only [After.val_mk]))
            all_goals (try (exfalso; omega))
            have ld := later hbd
            go_wp2_with fail
            go_roundw
            case rel => exact ⟨k + 1, by omega, by go_num, Hno.out.succ Hv.out hp.out, below_of⟩
            case measure => simp [intOf]; omega
          · have hp := hide (show mf.any (fun v => v.kind == 2 && decide (v.ref = x)) = true from List.any_eq_true.2 ⟨v, List.mem_of_getElem? Hv.out, by
              have := @ideq_iff v.ref x; unfold ValE.ref at this; rw [hq] at this
              simp only [hv2]; unfold ValE.ref; simp [← this]⟩)
            go_upto_region 6 with fail
            (refine wp_region_after (by kernel_rfl) (by kernel_rfl) ?_
             repeat (any_goals (first | go_big_quiet_skip | (go_big_quiet_want; go_big_quiet_op; first | go_big_quiet_on | go_big_quiet_call (fail)) | quiet_step (fail) | (refine wpQuiet_step (fun K hK => ?_); go_simp; split <;> (refine hK _ ?_; clear hK K))))
             all_goals (refine wpQuiet_nil ?_; intro _ hw'; obtain ⟨u', hw''⟩ := hw'; subst hw''; obtain ⟨wd, hbd⟩ := u'; simp only [After.val_mk]))
            all_goals (try (exfalso; omega))
            have ld := later hbd
            go_wp2_with fail
            go_ret
            exact ⟨ret_bool (by rw [hR2.out, hp.out]), below_of⟩
        · have hp := hide (show (fun v : ValE => v.kind == 2 && decide (v.ref = x)) v = false by simp [hv2])
          go_upto_region 6 with fail
          (refine wp_region_after (by kernel_rfl) (by kernel_rfl) ?_
           repeat (any_goals (first | go_big_quiet_skip | (go_big_quiet_want; go_big_quiet_op; first | go_big_quiet_on | go_big_quiet_call (fail)) | quiet_step (fail) | (refine wpQuiet_step (fun K hK => ?_); go_simp; split <;> (refine hK _ ?_; clear hK K))))
           all_goals (refine wpQuiet_nil ?_; intro _ hw'; obtain ⟨u', hw''⟩ := hw'; subst hw''; obtain ⟨wd, hbd⟩ := u'; simp only [After.val_mk]))
          all_goals (try (exfalso; omega))
          have ld := later hbd
          go_wp2_with fail
          go_roundw
          case rel => exact ⟨k + 1, by omega, by go_num, Hno.out.succ Hv.out hp.out, below_of⟩
          case measure => simp [intOf]; omega
      · have hk' : k = mf.length := by omega
        subst hk'
        have hp := hide (show mf.any (fun v => v.kind == 2 && decide (v.ref = x)) = false by
          rw [List.any_eq_false]
          intro v hv
          obtain ⟨j, hj⟩ := List.getElem?_of_mem hv
          simpa using Hno.out j v (List.getElem?_eq_some_iff.1 hj).1 hj)
        go_wp2_with fail
        go_ret
        exact ⟨ret_bool (by rw [hR2.out, hp.out]), below_of⟩
  · have hkb : (mk != 2) = true := by simp [hk]
    have hR2 := hide (show R = false by rw [HR.out]; unfold refersN; simp [hk])
    go_wp2_with fail
    go_ret
    exact ⟨ret_bool hR2.out.symm, below_of⟩
end Go.Proofs.Ytnfpbkimdhhmfaa
