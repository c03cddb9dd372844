/-
  Small texts of this seat, put into one. Conditions stand in each theorem.
-/
import Derived.Test.YtomgdkfoinojiaaS32Valid
import Derived.Test.YtomgdkfoinojiaaS32RefStub
set_option linter.unusedSimpArgs false
set_option linter.unusedVariables false
namespace Go.Proofs.Ytomgdkfoinojiaa
open Go.RowKit
attribute [local simp] heap_drew
set_option maxRecDepth 100000 in
set_option maxHeartbeats 16000000 in
theorem refStubV_any (x : SumE) (w : World) (hI : SlAt InsetE.cells 3 w x.A x.inset) (hil : x.inset.length ≤ 9223372036854775807) : Calls Try.prog 60 #[x.v] w fun r w' => r = .returned (.bool (okS x.con)) ∧ Below w.heap.size w w' := by
  have HI : ∀ u [Later w u], SlAt InsetE.cells 3 u x.A x.inset := fun u i => hI.below i.below
  obtain ⟨R, hR⟩ : ∃ R, R = okS x.con := ⟨_, rfl⟩
  rw [← hR]
  have HR := hide hR
  clear hR
  obtain ⟨xo, xn, xr, xd, xA, xc, xi⟩ := x
  dsimp only at HI hil
  dsimp only [SumE.v]
  have HRe := hide (show R = (machB xo && decide (1 ≤ xd) && decide (xd ≤ 1048576) && (!xr || decide (xd = 1)) && decide (xi.length ≤ 1024) && insOk xi) from HR.out)
  have hbadI : ∀ m, m < xi.length → okIn xi m = false → Hid (R = false) := fun m hm h => hide (by rw [HRe.out, show insOk xi = false from range_bad hm h, Bool.and_false])
  go_enter Try.func60, Try.ntmps60
  go_upto_region 1 with fail
  refine wp_name ?_
  intro w0 hw0
  obtain ⟨B0, l0⟩ := box1 hw0
  clear hw0
  have l00 : Later w0 w0 := Later.refl
  go_wp2_with fail
  go_loopw [3] (fun iv wr => ∃ m : Nat, m ≤ xi.length ∧ iv = .int .i64 m ∧ Hid (∀ j, j < m → okIn xi j = true) ∧ Below w0.heap.size w0 wr) (fun iv _ => xi.length - (intOf iv).toNat)
  case atStart => exact ⟨0, by omega, rfl, hide (fun j h => absurd h (by omega)), Below.refl _ _⟩
  case round =>
    obtain ⟨m, hm, rfl, hino, hbm⟩ := hrel
    have lm := later hbm
    by_cases hml : m < xi.length
    · have hmi : (m : Int) < (xi.length : Int) := by omega
      obtain ⟨b3, o3, y, rfl, hy, C3⟩ := InsetE.get (HI wr) hml
      obtain ⟨yc, yn, yo⟩ := y
      have hbadM := hbadI m hml
      have HB : ∀ u, Calls Try.prog 70 #[.agg #[.int .i64 0, .int .u64 0, .int .i64 0], .agg #[.int .i64 yc, .int .u64 yn, .int .i64 yo]] u fun r w' => r = .returned (.bool (ltIn ⟨0, 0, 0⟩ ⟨yc, yn, yo⟩)) ∧ Below u.heap.size u w' := fun u => before_any ⟨0, 0, 0⟩ ⟨yc, yn, yo⟩ u
      by_cases h1 : yc < 1
      · have hbad := hbadM (by unfold okIn; rw [hy]; dsimp only; unfold machB; rw [decide_eq_false (by omega : ¬ 1 ≤ yc)]; rfl)
        clear hy
        go_upto_region 5 with fail
        refine wp_name ?_
        intro w1 hw1
        obtain ⟨B4, l1⟩ := box1 hw1
        clear hw1
        have l11 : Later w1 w1 := Later.refl
        (refine wp_region_after (by kernel_rfl) (by kernel_rfl) ?_
         repeat (any_goals (first | go_big_quiet_skip | (go_big_quiet_want; go_big_quiet_op; first | go_big_quiet_on | go_big_quiet_call ((go_at_call 70; exact Calls.after (HB _)))) | quiet_step ((go_at_call 70; exact Calls.after (HB _))) | (refine wpQuiet_step (fun K hK => ?_); go_simp; split <;> (refine hK _ ?_; clear hK K))))
         all_goals (refine wpQuiet_nil ?_; intro _ hw'; obtain ⟨u', hw''⟩ := hw'; subst hw''; obtain ⟨wd, hbd⟩ := u'; simp only [After.val_mk]))
        have ld := later hbd
        go_wp2_with fail
        go_ret
        exact ⟨ret_bool hbad.out.symm, below_of⟩
      by_cases h2 : 8 < yc
      · have hbad := hbadM (by unfold okIn; rw [hy]; dsimp only; unfold machB; rw [decide_eq_false (by omega : ¬ yc ≤ 8), Bool.and_false]; rfl)
        clear hy
        go_upto_region 5 with fail
        refine wp_name ?_
        intro w1 hw1
        obtain ⟨B4, l1⟩ := box1 hw1
        clear hw1
        have l11 : Later w1 w1 := Later.refl
        (refine wp_region_after (by kernel_rfl) (by kernel_rfl) ?_
         repeat (any_goals (first | go_big_quiet_skip | (go_big_quiet_want; go_big_quiet_op; first | go_big_quiet_on | go_big_quiet_call ((go_at_call 70; exact Calls.after (HB _)))) | quiet_step ((go_at_call 70; exact Calls.after (HB _))) | (refine wpQuiet_step (fun K hK => ?_); go_simp; split <;> (refine hK _ ?_; clear hK K))))
         all_goals (refine wpQuiet_nil ?_; intro _ hw'; obtain ⟨u', hw''⟩ := hw'; subst hw''; obtain ⟨wd, hbd⟩ := u'; simp only [After.val_mk]))
        have ld := later hbd
        go_wp2_with fail
        go_ret
        exact ⟨ret_bool hbad.out.symm, below_of⟩
      have hmc : machB yc = true := by unfold machB; rw [decide_eq_true (by omega : 1 ≤ yc), decide_eq_true (by omega : yc ≤ 8)]; rfl
      by_cases hyo : yo < 0
      · have hbad := hbadM (by unfold okIn; rw [hy]; dsimp only; rw [decide_eq_false (by omega : ¬ 0 ≤ yo), Bool.and_false]; rfl)
        clear hy hmc
        go_upto_region 5 with fail
        refine wp_name ?_
        intro w1 hw1
        obtain ⟨B4, l1⟩ := box1 hw1
        clear hw1
        have l11 : Later w1 w1 := Later.refl
        (refine wp_region_after (by kernel_rfl) (by kernel_rfl) ?_
         repeat (any_goals (first | go_big_quiet_skip | (go_big_quiet_want; go_big_quiet_op; first | go_big_quiet_on | go_big_quiet_call ((go_at_call 70; exact Calls.after (HB _)))) | quiet_step ((go_at_call 70; exact Calls.after (HB _))) | (refine wpQuiet_step (fun K hK => ?_); go_simp; split <;> (refine hK _ ?_; clear hK K))))
         all_goals (refine wpQuiet_nil ?_; intro _ hw'; obtain ⟨u', hw''⟩ := hw'; subst hw''; obtain ⟨wd, hbd⟩ := u'; simp only [After.val_mk]))
        have ld := later hbd
        go_wp2_with fail
        go_ret
        exact ⟨ret_bool hbad.out.symm, below_of⟩
      rcases m with _ | j
      · have hok := hide (show okIn xi 0 = true by unfold okIn; rw [hy]; dsimp only; rw [hmc, decide_eq_true (by omega : 0 ≤ yo)]; rfl)
        unfold InsetE.Has at C3
        simp only [Nat.zero_mul, Nat.add_zero] at C3
        have hmi : (0 : Int) < (xi.length : Int) := by omega
        clear hy hmc hbadM
        go_upto_region 5 with fail
        refine wp_name ?_
        intro w1 hw1
        obtain ⟨B4, l1⟩ := box1 hw1
        clear hw1
        have l11 : Later w1 w1 := Later.refl
        (refine wp_region_after (by kernel_rfl) (by kernel_rfl) ?_
         repeat (any_goals (first | go_big_quiet_skip | (go_big_quiet_want; go_big_quiet_op; first | go_big_quiet_on | go_big_quiet_call ((go_at_call 70; exact Calls.after (HB _)))) | quiet_step ((go_at_call 70; exact Calls.after (HB _))) | (refine wpQuiet_step (fun K hK => ?_); go_simp; split <;> (refine hK _ ?_; clear hK K))))
         all_goals (refine wpQuiet_nil ?_; intro _ hw'; obtain ⟨u', hw''⟩ := hw'; subst hw''; obtain ⟨wd, hbd⟩ := u'; simp only [After.val_mk]))
        have ld := later hbd
        go_wp2_with fail
        go_roundw
        case rel => exact ⟨1, by omega, by go_num, hide (upto_succ hino.out hok.out), below_of⟩
        case measure => simp [intOf]; omega
      · obtain ⟨b4, o4, z, hA, hz, C4⟩ := InsetE.get (HI wr) (show j < xi.length by omega)
        injection hA with hA
        injection hA with hA1 hA2
        subst hA1 hA2
        obtain ⟨zc, zn, zo⟩ := z
        clear HB
        obtain ⟨cv, hcv⟩ : ∃ cv, cv = ltIn ⟨zc, zn, zo⟩ ⟨yc, yn, yo⟩ := ⟨_, rfl⟩
        have HB : ∀ u, Calls Try.prog 70 #[.agg #[.int .i64 zc, .int .u64 zn, .int .i64 zo], .agg #[.int .i64 yc, .int .u64 yn, .int .i64 yo]] u fun r w' => r = .returned (.bool cv) ∧ Below u.heap.size u w' := fun u => by rw [hcv]; exact before_any ⟨zc, zn, zo⟩ ⟨yc, yn, yo⟩ u
        have hlx : decide (lexN zc zn yc yn) = cv := by rw [hcv]; exact (cmpIn_lt ⟨zc, zn, zo⟩ ⟨yc, yn, yo⟩).symm
        have hji : (((j + 1 : Nat) : Int) - 1) = (j : Int) := by omega
        have hj0 : (0 : Int) < ((j + 1 : Nat) : Int) := by omega
        clear hcv
        cases cv
        · have hbad := hbadM (by unfold okIn; rw [hy]; dsimp only; rw [hz]; dsimp only; rw [hlx, Bool.and_false])
          clear hy hmc hz hlx
          go_upto_region 5 with fail
          refine wp_name ?_
          intro w1 hw1
          obtain ⟨B4, l1⟩ := box1 hw1
          clear hw1
          have l11 : Later w1 w1 := Later.refl
          (refine wp_region_after (by kernel_rfl) (by kernel_rfl) ?_
           repeat (any_goals (first | go_big_quiet_skip | (go_big_quiet_want; go_big_quiet_op; first | go_big_quiet_on | go_big_quiet_call ((go_at_call 70; exact Calls.after (HB _)))) | quiet_step ((go_at_call 70; exact Calls.after (HB _))) | (refine wpQuiet_step (fun K hK => ?_); go_simp; split <;> (refine hK _ ?_; clear hK K))))
           all_goals (refine wpQuiet_nil ?_; intro _ hw'; obtain ⟨u', hw''⟩ := hw'; subst hw''; obtain ⟨wd, hbd⟩ := u'; simp only [After.val_mk]))
          have ld := later hbd
          go_wp2_with fail
          go_ret
          exact ⟨ret_bool hbad.out.symm, below_of⟩
        · have hok := hide (show okIn xi (j + 1) = true by unfold okIn; rw [hy]; dsimp only; rw [hz]; dsimp only; rw [hlx, hmc, decide_eq_true (by omega : 0 ≤ yo)]; rfl)
          clear hy hmc hz hlx hbadM
          go_upto_region 5 with fail
          refine wp_name ?_
          intro w1 hw1
          obtain ⟨B4, l1⟩ := box1 hw1
          clear hw1
          have l11 : Later w1 w1 := Later.refl
          (refine wp_region_after (by kernel_rfl) (by kernel_rfl) ?_
           repeat (any_goals (first | go_big_quiet_skip | (go_big_quiet_want; go_big_quiet_op; first | go_big_quiet_on | go_big_quiet_call ((go_at_call 70; exact Calls.after (HB _)))) | quiet_step ((go_at_call 70; exact Calls.after (HB _))) | (refine wpQuiet_step (fun K hK => ?_); go_simp; split <;> (refine hK _ ?_; clear hK K))))
           all_goals (refine wpQuiet_nil ?_; intro _ hw'; obtain ⟨u', hw''⟩ := hw'; subst hw''; obtain ⟨wd, hbd⟩ := u'; simp only [After.val_mk]))
          have ld := later hbd
          go_wp2_with fail
          go_roundw
          case rel => exact ⟨j + 1 + 1, by omega, by go_num, hide (upto_succ hino.out hok.out), below_of⟩
          case measure => simp [intOf]; omega
    · have hmm : m = xi.length := by omega
      subst hmm
      have HE := hide (show R = (machB xo && decide (1 ≤ xd) && decide (xd ≤ 1048576) && (!xr || decide (xd = 1)) && decide (xi.length ≤ 1024)) by rw [HRe.out, show insOk xi = true from range_all hino.out, Bool.and_true])
      unfold machB at HE
      by_cases h1 : 1 ≤ xo
      rotate_left
      · rw [decide_eq_false h1] at HE
        go_wp2_with fail
        go_ret
        exact ⟨ret_bool HE.out.symm, below_of⟩
      by_cases h2 : xo ≤ 8
      rotate_left
      · rw [decide_eq_false h2, Bool.and_false] at HE
        go_wp2_with fail
        go_ret
        exact ⟨ret_bool HE.out.symm, below_of⟩
      by_cases h3 : 1 ≤ xd
      rotate_left
      · rw [decide_eq_false h3, Bool.and_false] at HE
        go_wp2_with fail
        go_ret
        exact ⟨ret_bool HE.out.symm, below_of⟩
      by_cases h4 : xd ≤ 1048576
      rotate_left
      · rw [decide_eq_false h4, Bool.and_false] at HE
        go_wp2_with fail
        go_ret
        exact ⟨ret_bool HE.out.symm, below_of⟩
      rw [decide_eq_true h1, decide_eq_true h2, decide_eq_true h3, decide_eq_true h4] at HE
      by_cases h6 : xi.length ≤ 1024
      · rw [decide_eq_true h6] at HE
        have h6' : (xi.length : Int) ≤ 1024 := by omega
        cases xr
        · go_wp2_with fail
          go_ret
          exact ⟨ret_bool HE.out.symm, below_of⟩
        · by_cases h5 : xd = 1
          · rw [decide_eq_true h5] at HE
            have h5' : (xd == 1) = true := by simpa using h5
            clear h5
            go_wp2_with fail
            go_ret
            exact ⟨ret_bool HE.out.symm, below_of⟩
          · rw [decide_eq_false h5] at HE
            have h5' : (xd == 1) = false := by simpa using h5
            clear h5
            go_wp2_with fail
            go_ret
            exact ⟨ret_bool HE.out.symm, below_of⟩
      · rw [decide_eq_false h6, Bool.and_false] at HE
        have h6' : ¬ (xi.length : Int) ≤ 1024 := by omega
        cases xr
        · go_wp2_with fail
          go_ret
          exact ⟨ret_bool HE.out.symm, below_of⟩
        · by_cases h5 : xd = 1
          · have h5' : (xd == 1) = true := by simpa using h5
            clear h5
            go_wp2_with fail
            go_ret
            exact ⟨ret_bool HE.out.symm, below_of⟩
          · have h5' : (xd == 1) = false := by simpa using h5
            clear h5
            go_wp2_with fail
            go_ret
            exact ⟨ret_bool HE.out.symm, below_of⟩
end Go.Proofs.Ytomgdkfoinojiaa

namespace Go.Proofs.Ytomgdkfoinojiaa
open Go.RowKit
attribute [local simp] heap_drew
set_option maxRecDepth 100000 in
set_option maxHeartbeats 16000000 in
theorem refValid_any (ep : Int) (A : Option Addr) (c : Nat) (l : List SumE) (w : World) (H : SumsAt w A l) (hl : l.length ≤ 9223372036854775807) (hil : ∀ x ∈ l, x.inset.length ≤ 9223372036854775807) : Calls Try.prog 30 #[.agg #[.int .i64 ep, .slice A l.length c]] w fun r w' => r = .returned (.bool (validS ep (l.map SumE.con))) ∧ Below w.heap.size w w' := by
  have HL := H.later
  obtain ⟨R, hR⟩ : ∃ R, R = validS ep (l.map SumE.con) := ⟨_, rfl⟩
  rw [← hR]
  have HR := hide hR
  clear hR
  have HLC := hide (show (l.map SumE.con).length = l.length from List.length_map ..)
  go_enter Try.func30, Try.ntmps30
  go_upto_region 1 with fail
  refine wp_name ?_
  intro w0 hw0
  obtain ⟨B0, l0⟩ := box1 hw0
  clear hw0
  have l00 : Later w0 w0 := Later.refl
  go_wp2_with fail
  go_loopw [3] (fun iv wr => ∃ k : Nat, k ≤ l.length ∧ iv = .int .i64 k ∧ Hid (∀ j, j < k → okAt (l.map SumE.con) j = true) ∧ Below w0.heap.size w0 wr) (fun iv _ => l.length - (intOf iv).toNat)
  case atStart => exact ⟨0, by omega, rfl, hide (fun j h => absurd h (by omega)), Below.refl _ _⟩
  case round =>
    obtain ⟨k, hk, rfl, Hno, hbr⟩ := hrel
    have lr := later hbr
    have lrr : Later wr wr := Later.refl
    by_cases hlt : k < l.length
    · have hki : (k : Int) < (l.length : Int) := by omega
      obtain ⟨b1, o1, x, rfl, hx, C1, F1, hx1, hx2⟩ := (HL wr).get hlt
      have hxi := hil x (List.mem_of_getElem? hx)
      have hcx := conS_get hx
      have HV : ∀ u [Later wr u], Calls Try.prog 60 #[x.v] u fun r w' => r = .returned (.bool (okS x.con)) ∧ Below u.heap.size u w' := fun u i => refStubV_any x u (F1 u) hxi
      obtain ⟨xo, xn, xr, xd, xA, xc, xi⟩ := x
      dsimp only [SumE.con] at C1 F1 hx1 hx2 hxi hcx
      dsimp only [SumE.v] at HV
      obtain ⟨V, hV⟩ : ∃ V, V = okS ⟨xo, xn, xr, xd, xi⟩ := ⟨_, rfl⟩
      have HV : ∀ u [Later wr u], Calls Try.prog 60 #[.agg #[.int .i64 xo, .int .u64 xn, .bool xr, .int .i64 xd, .slice xA xi.length xc]] u fun r w' => r = .returned (.bool V) ∧ Below u.heap.size u w' := fun u i => by rw [hV]; exact HV u
      have hok0 := hV.symm
      clear hV
      cases V
      · have hbad := hide (show R = false by rw [HR.out]; exact validS_bad (by rw [HLC.out]; exact hlt) (okAt_bad hcx hok0))
        clear hcx hx hok0
        go_upto_region 5 with fail
        refine wp_name ?_
        intro w1 hw1
        obtain ⟨B4, l1⟩ := box1 hw1
        clear hw1
        have l11 : Later w1 w1 := Later.refl
        go_wp2_with (go_at_call 60; refine (HV _).mono ?_; rintro r w2 ⟨rfl, hb2⟩; have l2 := later hb2; have l22 : Later w2 w2 := Later.refl)
        go_ret
        exact ⟨ret_bool hbad.out.symm, below_of⟩
      rcases k with _ | j
      · have hok := hide (show okAt (l.map SumE.con) 0 = true by unfold okAt; rw [hcx]; dsimp only; rw [hok0]; rfl)
        simp only [Nat.zero_mul, Nat.add_zero] at C1
        have hki : (0 : Int) < (l.length : Int) := by omega
        clear hcx hx hok0
        go_upto_region 5 with fail
        refine wp_name ?_
        intro w1 hw1
        obtain ⟨B4, l1⟩ := box1 hw1
        clear hw1
        have l11 : Later w1 w1 := Later.refl
        go_upto_region 7 with (go_at_call 60; refine (HV _).mono ?_; rintro r w2 ⟨rfl, hb2⟩; have l2 := later hb2; have l22 : Later w2 w2 := Later.refl)
        (refine wp_region_after (by kernel_rfl) (by kernel_rfl) ?_
         repeat (any_goals (first | go_big_quiet_skip | (go_big_quiet_want; go_big_quiet_op; first | go_big_quiet_on | go_big_quiet_call (fail)) | quiet_step (fail) | (refine wpQuiet_step (fun K hK => ?_); go_simp; split <;> (refine hK _ ?_; clear hK K))))
         all_goals (refine wpQuiet_nil ?_; intro _ hw'; obtain ⟨u', hw''⟩ := hw'; subst hw''; obtain ⟨wd, hbd⟩ := u'; simp only [After.val_mk]))
        have ld := later hbd
        go_wp2_with fail
        go_roundw
        case rel => exact ⟨1, by omega, by go_num, hide (upto_succ Hno.out hok.out), below_of⟩
        case measure => simp [intOf]; omega
      · obtain ⟨b2, o2, p, hA, hp, C2, -, -, -⟩ := (HL wr).get (k := j) (by omega)
        injection hA with hA
        injection hA with hA1 hA2
        subst hA1 hA2
        have hcp := conS_get hp
        obtain ⟨po, pn, pr, pd, pA, pc, pi⟩ := p
        dsimp only [SumE.con] at C2 hcp
        have hji : (((j + 1 : Nat) : Int) - 1) = (j : Int) := by omega
        have hj0 : (0 : Int) < ((j + 1 : Nat) : Int) := by omega
        have hbadJ : ¬ lexN po pn xo xn → Hid (R = false) := fun h => hide (by
          rw [HR.out]
          refine validS_bad (k := j + 1) (by rw [HLC.out]; exact hlt) ?_
          unfold okAt; rw [hcx]; dsimp only; rw [hcp]; dsimp only; rw [decide_eq_false h, Bool.and_false])
        have hokJ : lexN po pn xo xn → Hid (okAt (l.map SumE.con) (j + 1) = true) := fun h => hide (by
          unfold okAt; rw [hcx]; dsimp only; rw [hcp]; dsimp only; rw [decide_eq_true h, hok0]; rfl)
        by_cases c1 : xo < po
        · have hbad := hbadJ (by unfold lexN; omega)
          clear hcx hx hok0 hcp hp hbadJ hokJ
          go_upto_region 5 with fail
          refine wp_name ?_
          intro w1 hw1
          obtain ⟨B4, l1⟩ := box1 hw1
          clear hw1
          have l11 : Later w1 w1 := Later.refl
          go_upto_region 7 with (go_at_call 60; refine (HV _).mono ?_; rintro r w2 ⟨rfl, hb2⟩; have l2 := later hb2; have l22 : Later w2 w2 := Later.refl)
          (refine wp_region_after (by kernel_rfl) (by kernel_rfl) ?_
           repeat (any_goals (first | go_big_quiet_skip | (go_big_quiet_want; go_big_quiet_op; first | go_big_quiet_on | go_big_quiet_call (fail)) | quiet_step (fail) | (refine wpQuiet_step (fun K hK => ?_); go_simp; split <;> (refine hK _ ?_; clear hK K))))
           all_goals (refine wpQuiet_nil ?_; intro _ hw'; obtain ⟨u', hw''⟩ := hw'; subst hw''; obtain ⟨wd, hbd⟩ := u'; simp only [After.val_mk]))
          have ld := later hbd
          go_wp2_with fail
          go_ret
          exact ⟨ret_bool hbad.out.symm, below_of⟩
        have c1' : decide (xo < po) = false := by simpa using c1
        by_cases c2 : po = xo
        · have c2' : (po == xo) = true := by simpa using c2
          by_cases c3 : xn ≤ pn
          · have hbad := hbadJ (by unfold lexN; omega)
            clear hcx hx hok0 hcp hp hbadJ hokJ c1 c2
            go_upto_region 5 with fail
            refine wp_name ?_
            intro w1 hw1
            obtain ⟨B4, l1⟩ := box1 hw1
            clear hw1
            have l11 : Later w1 w1 := Later.refl
            go_upto_region 7 with (go_at_call 60; refine (HV _).mono ?_; rintro r w2 ⟨rfl, hb2⟩; have l2 := later hb2; have l22 : Later w2 w2 := Later.refl)
            (refine wp_region_after (by kernel_rfl) (by kernel_rfl) ?_
             repeat (any_goals (first | go_big_quiet_skip | (go_big_quiet_want; go_big_quiet_op; first | go_big_quiet_on | go_big_quiet_call (fail)) | quiet_step (fail) | (refine wpQuiet_step (fun K hK => ?_); go_simp; split <;> (refine hK _ ?_; clear hK K))))
             all_goals (refine wpQuiet_nil ?_; intro _ hw'; obtain ⟨u', hw''⟩ := hw'; subst hw''; obtain ⟨wd, hbd⟩ := u'; simp only [After.val_mk]))
            have ld := later hbd
            go_wp2_with fail
            go_ret
            exact ⟨ret_bool hbad.out.symm, below_of⟩
          · have c3' : decide (xn ≤ pn) = false := by simpa using c3
            have hok := hokJ (by unfold lexN; omega)
            clear hcx hx hok0 hcp hp hbadJ hokJ c1 c2 c3
            go_upto_region 5 with fail
            refine wp_name ?_
            intro w1 hw1
            obtain ⟨B4, l1⟩ := box1 hw1
            clear hw1
            have l11 : Later w1 w1 := Later.refl
            go_upto_region 7 with (go_at_call 60; refine (HV _).mono ?_; rintro r w2 ⟨rfl, hb2⟩; have l2 := later hb2; have l22 : Later w2 w2 := Later.refl)
            (refine wp_region_after (by kernel_rfl) (by kernel_rfl) ?_
             repeat (any_goals (first | go_big_quiet_skip | (go_big_quiet_want; go_big_quiet_op; first | go_big_quiet_on | go_big_quiet_call (fail)) | quiet_step (fail) | (refine wpQuiet_step (fun K hK => ?_); go_simp; split <;> (refine hK _ ?_; clear hK K))))
             all_goals (refine wpQuiet_nil ?_; intro _ hw'; obtain ⟨u', hw''⟩ := hw'; subst hw''; obtain ⟨wd, hbd⟩ := u'; simp only [After.val_mk]))
            have ld := later hbd
            go_wp2_with fail
            go_roundw
            case rel => exact ⟨j + 1 + 1, by omega, by go_num, hide (upto_succ Hno.out hok.out), below_of⟩
            case measure => simp [intOf]; omega
        · have c2' : (po == xo) = false := by simpa using c2
          have hok := hokJ (by unfold lexN; omega)
          clear hcx hx hok0 hcp hp hbadJ hokJ c1 c2
          go_upto_region 5 with fail
          refine wp_name ?_
          intro w1 hw1
          obtain ⟨B4, l1⟩ := box1 hw1
          clear hw1
          have l11 : Later w1 w1 := Later.refl
          go_upto_region 7 with (go_at_call 60; refine (HV _).mono ?_; rintro r w2 ⟨rfl, hb2⟩; have l2 := later hb2; have l22 : Later w2 w2 := Later.refl)
          (refine wp_region_after (by kernel_rfl) (by kernel_rfl) ?_
           repeat (any_goals (first | go_big_quiet_skip | (go_big_quiet_want; go_big_quiet_op; first | go_big_quiet_on | go_big_quiet_call (fail)) | quiet_step (fail) | (refine wpQuiet_step (fun K hK => ?_); go_simp; split <;> (refine hK _ ?_; clear hK K))))
           all_goals (refine wpQuiet_nil ?_; intro _ hw'; obtain ⟨u', hw''⟩ := hw'; subst hw''; obtain ⟨wd, hbd⟩ := u'; simp only [After.val_mk]))
          have ld := later hbd
          go_wp2_with fail
          go_roundw
          case rel => exact ⟨j + 1 + 1, by omega, by go_num, hide (upto_succ Hno.out hok.out), below_of⟩
          case measure => simp [intOf]; omega
    · have hkk : k = l.length := by omega
      subst hkk
      have HE := hide (show R = (decide (0 ≤ ep) && decide (l.length ≤ 1024)) by rw [HR.out]; unfold validS; rw [HLC.out, range_all (fun k hk => Hno.out k hk), Bool.and_true])
      by_cases h1 : 0 ≤ ep
      · by_cases h2 : l.length ≤ 1024
        · rw [decide_eq_true h1, decide_eq_true h2] at HE
          have h2' : (l.length : Int) ≤ 1024 := by omega
          go_wp2_with fail
          go_ret
          exact ⟨ret_bool HE.out.symm, below_of⟩
        · rw [decide_eq_false h2, Bool.and_false] at HE
          have h2' : ¬ (l.length : Int) ≤ 1024 := by omega
          go_wp2_with fail
          go_ret
          exact ⟨ret_bool HE.out.symm, below_of⟩
      · rw [decide_eq_false h1] at HE
        go_wp2_with fail
        go_ret
        exact ⟨ret_bool HE.out.symm, below_of⟩
end Go.Proofs.Ytomgdkfoinojiaa
