/-
  Contracts of the functions of this seat that each theorem names: what a call returns, and that it writes nothing that was there before. The conditions stand in each theorem.
-/
import Derived.Test.YtjegncmkebbdfaaDoorF16Dig
set_option linter.unusedSimpArgs false
set_option linter.unusedVariables false
namespace Go.Proofs.YtjegncmkebbdfaaDoor
open Go.RowKit
attribute [local go_sem] Oper.semAt_some
attribute [local simp] heap_drew
set_option maxRecDepth 100000 in
set_option maxHeartbeats 4000000 in
theorem decimal_any (n : Int) (h : I64ok n) (w : World) : Calls Tryd.prog 46 #[.int .i64 n] w fun r w' => r = .returned (.string (bs (Lib.itoa n))) ∧ Below w.heap.size w w' := by
  have lww : Later w w := Later.refl
  obtain ⟨hlo, hhi⟩ : -9223372036854775808 ≤ n ∧ n ≤ 9223372036854775807 := by unfold I64ok at h; omega
  by_cases hn : n < 0
  · obtain ⟨m, hm⟩ : ∃ m, m = n.natAbs := ⟨_, rfl⟩
    have hD := hide (show Lib.itoa n = 45 :: Lib.decDigits m by unfold Lib.itoa; rw [if_pos hn, hm])
    have HD : ∀ v : World, Calls Tryd.prog 67 #[.int .u64 (m : Int)] v fun r w' => r = .returned (.string (bs (Lib.decDigits m))) ∧ Below v.heap.size v w' := digits_any m (by omega)
    have hdl : (Lib.decDigits m).length ≤ 30 := Nat.le_trans (dd_len 19 m (by omega)) (by omega)
    have e1 : IntKind.u64.wrap n = n + 18446744073709551616 := by simp [IntKind.wrap, IntKind.bits, IntKind.signed]; omega
    have e2 : IntKind.u64.wrap (-(n + 18446744073709551616)) = (m : Int) := by simp [IntKind.wrap, IntKind.bits, IntKind.signed]; omega
    generalize Lib.decDigits m = D at HD hD hdl
    have hS := hide (show bs [45] ++ bs D = bs (Lib.itoa n) by rw [bs_add, hD.out]; rfl)
    have hno : ¬ 9223372036854775807 < 1 + D.length := by omega
    clear hm hD
    go_enter Tryd.func46, Tryd.ntmps46
    go_wp2_with (go_at_call 67; refine (HD _).mono ?_; rintro r w2 ⟨rfl, hb2⟩; have l2 := later hb2)
    go_ret
    exact ⟨by rw [← hS.out]; rfl, below_of⟩
  · obtain ⟨m, hm⟩ : ∃ m, m = n.toNat := ⟨_, rfl⟩
    have hD := hide (show Lib.itoa n = Lib.decDigits m by unfold Lib.itoa; rw [if_neg hn, hm])
    have HD : ∀ v : World, Calls Tryd.prog 67 #[.int .u64 n] v fun r w' => r = .returned (.string (bs (Lib.decDigits m))) ∧ Below v.heap.size v w' := by
      have := digits_any m (by omega)
      rw [show (m : Int) = n by omega] at this
      exact this
    have e1 : IntKind.u64.wrap n = n := by simp [IntKind.wrap, IntKind.bits, IntKind.signed]; omega
    clear hm
    go_enter Tryd.func46, Tryd.ntmps46
    go_wp2_with (go_at_call 67; refine (HD _).mono ?_; rintro r w2 ⟨rfl, hb2⟩; have l2 := later hb2)
    go_ret
    exact ⟨by rw [hD.out]; rfl, below_of⟩
set_option maxHeartbeats 2000000 in
theorem kindNm5_any (k : Int) (w : World) : Calls Tryd.prog 45 #[.int .i64 k] w fun r w' => r = .returned (.string (bs (kindNmB k))) ∧ Below w.heap.size w w' := by
  have lww : Later w w := Later.refl
  obtain ⟨R, hR⟩ : ∃ R, R = kindNmB k := ⟨_, rfl⟩
  rw [← hR]
  unfold kindNmB at hR
  have HR := hide hR
  clear hR
  cases k0 : (k == 0) <;> cases k1 : (k == 1) <;> cases k2 : (k == 2) <;> cases k3 : (k == 3) <;> cases k4 : (k == 4)
  all_goals
    have hr := HR.out
    simp only [beq_iff_eq, beq_eq_false_iff_ne, ne_eq] at k0 k1 k2 k3 k4
    first
    | (exfalso; omega)
    | (simp only [k0, k1, k2, k3, k4, if_true, if_false] at hr
       have Hr := hide hr
       have j0 : (k == 0) = decide (k = 0) := by by_cases h : k = 0 <;> simp [h]
       have j1 : (k == 1) = decide (k = 1) := by by_cases h : k = 1 <;> simp [h]
       have j2 : (k == 2) = decide (k = 2) := by by_cases h : k = 2 <;> simp [h]
       have j3 : (k == 3) = decide (k = 3) := by by_cases h : k = 3 <;> simp [h]
       have j4 : (k == 4) = decide (k = 4) := by by_cases h : k = 4 <;> simp [h]
       clear hr HR
       go_enter Tryd.func45, Tryd.ntmps45
       go_wp2_with fail
       go_ret
       exact ⟨by rw [Hr.out]; rfl, below_of⟩)
set_option maxRecDepth 100000 in
set_option maxHeartbeats 2000000 in
theorem idText_any (x : IDE) (hx : idOk x) (w : World) : Calls Tryd.prog 44 #[x.v] w fun r w' => r = .returned (.string (bs (nameB x))) ∧ Below w.heap.size w w' := by
  have H1 : ∀ u [Later w u], Calls Tryd.prog 46 #[.int .i64 x.machine] u fun r w' => r = .returned (.string (bs (Lib.itoa x.machine))) ∧ Below u.heap.size u w' := fun u i => decimal_any _ hx.1 u
  have H2 : ∀ u [Later w u], Calls Tryd.prog 46 #[.int .i64 x.serial] u fun r w' => r = .returned (.string (bs (Lib.itoa x.serial))) ∧ Below u.heap.size u w' := fun u i => decimal_any _ hx.2 u
  have z1 := Lib.itoa_length_le x.machine hx.1.1 hx.1.2
  have z2 := Lib.itoa_length_le x.serial hx.2.1 hx.2.2
  obtain ⟨s1, e1⟩ : ∃ s, s = Lib.itoa x.machine := ⟨_, rfl⟩
  obtain ⟨s2, e2⟩ : ∃ s, s = Lib.itoa x.serial := ⟨_, rfl⟩
  have hN := hide (show nameB x = [109] ++ s1 ++ [58] ++ s2 by rw [e1, e2]; unfold nameB; simp)
  rw [← e1] at H1 z1
  rw [← e2] at H2 z2
  have S1 : ∀ u : World, (Op.stringOp .add ⟨#[109]⟩ (bs s1)).run Tryd.prog u = .ok (.string (bs ([109] ++ s1))) u := fun u => by rw [← bs_add]; exact run_string_add_sum u _ _ (by rw [bs_size]; simp [ByteArray.size]; omega)
  have S2 : ∀ u : World, (Op.stringOp .add (bs ([109] ++ s1)) ⟨#[58]⟩).run Tryd.prog u = .ok (.string (bs ([109] ++ s1 ++ [58]))) u := fun u => by rw [← bs_add]; exact run_string_add_sum u _ _ (by rw [bs_size]; simp [ByteArray.size]; omega)
  have S3 : ∀ u : World, (Op.stringOp .add (bs ([109] ++ s1 ++ [58])) (bs s2)).run Tryd.prog u = .ok (.string (bs ([109] ++ s1 ++ [58] ++ s2))) u := fun u => by rw [← bs_add _ s2]; exact run_string_add_sum u _ _ (by rw [bs_size, bs_size]; simp; omega)
  obtain ⟨t1, f1⟩ : ∃ t, t = [109] ++ s1 := ⟨_, rfl⟩
  rw [← f1] at S1 S2 S3 hN
  obtain ⟨t2, f2⟩ : ∃ t, t = t1 ++ [58] := ⟨_, rfl⟩
  rw [← f2] at S2 S3 hN
  obtain ⟨t3, f3⟩ : ∃ t, t = t2 ++ s2 := ⟨_, rfl⟩
  rw [← f3] at S3 hN
  generalize bs s1 = b1 at H1 S1
  generalize bs s2 = b2 at H2 S3
  generalize bs t1 = c1 at S1 S2
  generalize bs t2 = c2 at S2 S3
  clear e1 e2 f1 f2 f3 z1 z2
  go_enter Tryd.func44, Tryd.ntmps44
  go_upto_region 1 with fail
  refine wp_name ?_
  intro w0 hw0
  obtain ⟨B0, l0⟩ := box1 hw0
  clear hw0
  (refine wp_region_after (by kernel_rfl) (by kernel_rfl) ?_
   repeat (any_goals (first | go_big_quiet_skip | (go_big_quiet_want; go_big_quiet_op; first | go_big_quiet_on | go_big_quiet_call ((first | (go_at_call_has 46 (x.machine); exact Calls.after (H1 _)) | (go_at_call_has 46 (x.serial); exact Calls.after (H2 _))))) | quiet_step ((first | (go_at_call_has 46 (x.machine); exact Calls.after (H1 _)) | (go_at_call_has 46 (x.serial); exact Calls.after (H2 _)))) | (refine wpQuiet_step (fun K hK => ?_); go_simp; split <;> (refine hK _ ?_; clear hK K))))
   all_goals (refine wpQuiet_nil ?_; intro _ hw'; obtain ⟨u', hw''⟩ := hw'; subst hw''; obtain ⟨wd, hbd⟩ := u'; simp only [After.val_mk]))
  have ld := later hbd
  go_wp2_with fail
  go_ret
  exact ⟨by rw [hN.out]; rfl, below_of⟩
set_option maxHeartbeats 2000000 in
theorem text16_any (v : ValE) (hv : valOk v) (w : World) : Calls Tryd.prog 47 #[v.v] w fun r w' => r = .returned (.string (bs (textB v))) ∧ Below w.heap.size w w' := by
  have H1 : ∀ u [Later w u], Calls Tryd.prog 46 #[.int .i64 v.int] u fun r w' => r = .returned (.string (bs (Lib.itoa v.int))) ∧ Below u.heap.size u w' := fun u i => decimal_any _ hv.1 u
  have H2 : ∀ u [Later w u], Calls Tryd.prog 44 #[.agg #[.int .i64 v.refMachine, .int .i64 v.refSerial]] u fun r w' => r = .returned (.string (bs (nameB v.ref))) ∧ Below u.heap.size u w' := fun u i => idText_any v.ref hv.2 u
  obtain ⟨R, hR⟩ : ∃ R, R = textB v := ⟨_, rfl⟩
  rw [← hR]
  have HR := hide hR
  clear hR
  go_enter Tryd.func47, Tryd.ntmps47
  go_upto_region 1 with fail
  refine wp_name ?_
  intro w0 hw0
  obtain ⟨B0, l0⟩ := box1 hw0
  clear hw0
  by_cases h1 : v.kind = 1
  · have hv := hide (show Lib.itoa v.int = R by rw [HR.out]; unfold textB; rw [if_pos h1])
    have h1b : (v.kind == 1) = true := by simp [h1]
    clear h1 HR
    go_wp2_with (go_at_call 46; refine (H1 _).mono ?_; rintro r w1 ⟨rfl, hb1⟩; have l1 := later hb1)
    go_ret
    exact ⟨by rw [← hv.out]; rfl, below_of⟩
  · have h1b : (v.kind == 1) = false := by simp [h1]
    by_cases h2 : v.kind = 2
    · have hv := hide (show nameB v.ref = R by rw [HR.out]; unfold textB; rw [if_neg h1, if_pos h2])
      have h2b : (v.kind == 2) = true := by simp [h2]
      clear h1 h2 HR
      go_wp2_with (go_at_call 44; refine (H2 _).mono ?_; rintro r w1 ⟨rfl, hb1⟩; have l1 := later hb1)
      go_ret
      exact ⟨by rw [← hv.out]; rfl, below_of⟩
    · have h2b : (v.kind == 2) = false := by simp [h2]
      have hv := hide (show R = [110, 105, 108] by rw [HR.out]; unfold textB; rw [if_neg h1, if_neg h2])
      clear h1 h2 HR
      go_wp2_with fail
      go_ret
      exact ⟨by rw [hv.out]; rfl, below_of⟩
end Go.Proofs.YtjegncmkebbdfaaDoor
