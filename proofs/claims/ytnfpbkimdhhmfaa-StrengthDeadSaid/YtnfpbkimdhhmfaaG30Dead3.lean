/-
  Contracts of the functions of this seat that each theorem names: what a call returns, and that it writes nothing that was there before. The conditions stand in each theorem.
-/
import Derived.Test.YtnfpbkimdhhmfaaG30Dead
namespace Go.Proofs.Ytnfpbkimdhhmfaa
open Go.RowKit
attribute [local go_sem ↓] run_eql_id run_neq_id
attribute [local go_sem] Instr.makeFunc
attribute [local simp] heap_drew
set_option maxRecDepth 100000 in
set_option maxHeartbeats 4000000 in
theorem refDead_any (s : ScionE) (EA : Option Addr) (ec : Nat) (es : List StubE) (w : World) (hE : SlAt StubE.cells 12 w EA es) (hel : es.length ≤ 10000) :
    Calls Try.prog 32 #[s.v, .slice EA es.length ec] w fun r w' => r = .returned (.bool (deadB es (idC s))) ∧ Below w.heap.size w w' := by
  have HE : ∀ u [Later w u], SlAt StubE.cells 12 u EA es := fun u i => hE.below i.below
  have hl' : es.length ≤ 9223372036854775807 := by omega
  obtain ⟨V, hV⟩ : ∃ V, V = deadB es (idC s) := ⟨_, rfl⟩
  rw [← hV]
  have HV := hide hV
  clear hV
  have Hz := hide (show ideq s.iDMachine s.iDSerial 0 0 = decide (idC s = ⟨0, 0⟩) from @ideq_iff (idC s) ⟨0, 0⟩)
  go_enter Try.func32, Try.ntmps32
  go_upto_region 1 with fail
  refine wp_name ?_
  intro w0 hw0
  obtain ⟨B0, l0⟩ := box1 hw0
  clear hw0
  cases hzz : ideq s.iDMachine s.iDSerial 0 0
  · have hz0 : decide (idC s = ⟨0, 0⟩) = false := by rw [← Hz.out, hzz]
    have Hv := hide (show V = (match es.find? (fun e => decide (idS e = idC s)) with | some e => e.dead | none => false) by rw [HV.out]; unfold deadB; rw [hz0, Bool.false_or]; rfl)
    clear hz0 HV Hz
    go_wp2_with fail
    go_loopw [5] (fun iv wr => ∃ k : Nat, k ≤ es.length ∧ iv = .int .i64 k ∧ NoneTo (fun e : StubE => decide (idS e = idC s)) es k ∧ Below w0.heap.size w0 wr) (fun iv _ => es.length - (intOf iv).toNat)
    case atStart => exact ⟨0, by omega, rfl, NoneTo.zero, Below.refl _ _⟩
    case round =>
      obtain ⟨k, hk, rfl, hno, hbr⟩ := hrel
      have lr := later hbr
      have Hno := hide hno
      clear hno
      by_cases hlt : k < es.length
      · obtain ⟨b1, o1, e, rfl, he, C1⟩ := StubE.get (HE wr) hlt
        have He := hide he
        have hki : (k : Int) < (es.length : Int) := by omega
        clear he
        cases hq : ideq e.iDMachine e.iDSerial s.iDMachine s.iDSerial
        · have hp := hide (show (fun e : StubE => decide (idS e = idC s)) e = false by rw [← hq]; exact (ideqS e (idC s)).symm)
          go_upto_region 6 with fail
          (refine wp_region_after (by kernel_rfl) (by kernel_rfl) ?_
           repeat (any_goals (first | go_big_quiet_skip | (go_big_quiet_want; go_big_quiet_op; first | go_big_quiet_on | go_big_quiet_call (fail)) | quiet_step (fail) | (refine wpQuiet_step (fun K hK => ?_); go_simp; split <;> (refine hK _ ?_; clear hK K))))
           all_goals (refine wpQuiet_nil ?_; intro _ hw'; obtain ⟨u', hw''⟩ := hw'; subst hw''; obtain ⟨wd, hbd⟩ := u'; simp only [After.val_mk]))
          have ld := later hbd
          go_wp2_with fail
          go_roundw
          case rel => exact ⟨k + 1, by omega, by go_num, Hno.out.succ He.out hp.out, below_of⟩
          case measure => simp [intOf]; omega
        · have hp := hide (show es.find? (fun e => decide (idS e = idC s)) = some e from findS_hit He.out (by rw [← hq]; exact (ideqS e (idC s)).symm) Hno.out)
          go_upto_region 6 with fail
          (refine wp_region_after (by kernel_rfl) (by kernel_rfl) ?_
           repeat (any_goals (first | go_big_quiet_skip | (go_big_quiet_want; go_big_quiet_op; first | go_big_quiet_on | go_big_quiet_call (fail)) | quiet_step (fail) | (refine wpQuiet_step (fun K hK => ?_); go_simp; split <;> (refine hK _ ?_; clear hK K))))
           all_goals (refine wpQuiet_nil ?_; intro _ hw'; obtain ⟨u', hw''⟩ := hw'; subst hw''; obtain ⟨wd, hbd⟩ := u'; simp only [After.val_mk]))
          have ld := later hbd
          go_wp2_with fail
          go_ret
          exact ⟨ret_bool (by rw [Hv.out, hp.out]), below_of⟩
      · have hk' : k = es.length := by omega
        subst hk'
        have hp := hide (findS_miss Hno.out)
        go_wp2_with fail
        go_ret
        exact ⟨ret_bool (by rw [Hv.out, hp.out]), below_of⟩
  · have hv := hide (show V = true by rw [HV.out]; unfold deadB; rw [← Hz.out, hzz]; rfl)
    go_wp2_with fail
    go_ret
    exact ⟨ret_bool hv.out.symm, below_of⟩
end Go.Proofs.Ytnfpbkimdhhmfaa
