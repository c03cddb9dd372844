/-
  Contracts of the functions of this seat that each theorem names: what a call returns, and that it writes nothing that was there before. The conditions stand in each theorem.
-/
import Derived.Test.YtjegncmkebbdfaaGreatDoorHVal
import Derived.Test.YtjegncmkebbdfaaGreatDoorHPut2
import Derived.Test.YtjegncmkebbdfaaGreatDoorF16Closed
set_option linter.unusedSimpArgs false
set_option linter.unusedVariables false
namespace Go.Proofs.YtjegncmkebbdfaaGreatDoor
open Go.RowKit
attribute [local go_sem ↓] run_eql_id run_neq_id
attribute [local simp] heap_drew
set_option maxRecDepth 100000 in
set_option maxHeartbeats 16000000 in
theorem lawValues_any (A : Option Addr) (c : Nat) (l : List NodeE) (x : Int) (w : World) (h : Tab10 w) (H : NodesAt w A l) (hx : WordOk x) (ht : cntG l ≤ 1000000000) :
    Calls Tryz.prog 4 #[.agg #[.slice A l.length c], .int .u64 x] w fun r w' => r = .returned (.bool true) ∧ Below w.heap.size w w' := by
  have HN := H.later
  have HT := h.later
  have lww : Later w w := Later.refl
  have HA : ∀ u [Later w u], Calls Tryz.prog 7 #[] u fun r w' => r = .returned (.bool true) ∧ Below u.heap.size u w' := fun u i => awake_any u (HT u)
  have HF : ∀ u [Later w u], Calls Tryz.prog 6 #[.slice (some ⟨u.heap.size, 0, none⟩) 1 1] (u.alloc (.cells #[.slice A l.length c] 27 (0, 0))) fun r w' => r = .returned (.bool (decide (cntG l ≤ 200))) ∧ Below (u.alloc (.cells #[.slice A l.length c] 27 (0, 0))).heap.size (u.alloc (.cells #[.slice A l.length c] 27 (0, 0))) w' := fun u i => few_one A c l _ _ (heap_alloc_new _ _) (HN _) ht
  cases hfw : decide (cntG l ≤ 200) with
  | false =>
    simp only [hfw] at HF
    clear hfw hx
    go_enter Tryz.func4, Tryz.ntmps4
    go_upto_region 1 with fail
    refine wp_name ?_
    intro w1 hw1
    obtain ⟨B0, l1⟩ := box1 hw1
    clear hw1
    go_wp2_with (first | (go_at_call 6; refine (HF _).mono ?_; rintro r w2 ⟨rfl, hb2⟩; have l2 := later hb2) | (go_at_call 7; refine (HA _).mono ?_; rintro r w3 ⟨rfl, hb3⟩; have l3 := later hb3))
    go_ret
    exact ⟨rfl, below_of⟩
  | true =>
    simp only [hfw] at HF
    have h200 := of_decide_eq_true hfw
    obtain ⟨hl2, hf2⟩ := cnt_bounds h200
    clear hfw
    have HC : ∀ u [Later w u], Calls Tryz.prog 11 #[.agg #[.slice A l.length c]] u (ClosedPost l u) := fun u i => closed16_any A c l u (HN u) (by omega) (fun n hn => by have := hf2 n hn; omega)
    have HK := fun u : World => r01Kind_any x u hx
    by_cases hk : kindW x = 2
    · simp only [hk] at HK
      clear hk hx h200 hl2 hf2
      go_enter Tryz.func4, Tryz.ntmps4
      go_upto_region 1 with fail
      refine wp_name ?_
      intro w1 hw1
      obtain ⟨B0, l1⟩ := box1 hw1
      clear hw1
      go_wp2_with (first | (go_at_call 6; refine (HF _).mono ?_; rintro r w2 ⟨rfl, hb2⟩; have l2 := later hb2) | (go_at_call 7; refine (HA _).mono ?_; rintro r w3 ⟨rfl, hb3⟩; have l3 := later hb3) | (go_at_call 11; refine (HC _).mono ?_; rintro r w4 ⟨b4, rfl, hc4, hb4⟩; have l4 := later hb4; cases b4) | (go_at_call 12; refine (HK _).mono ?_; rintro r w5 ⟨rfl, hb5⟩; have l5 := later hb5))
      all_goals
        go_ret
        exact ⟨rfl, below_of⟩
    · have HP : ∀ u [Later w u], ClosedG l → Calls Tryz.prog 13 #[.agg #[.slice A l.length c]] u (HPutPost l u) := fun u i hC => put_any A c l u (HN u) hC h200
      unfold HPutPost at HP
      have HI := fun u : World => r01Int_any x u hx
      have HV := fun (gh : Nat) (u : World) => @shapeValue_no u gh x hx hk
      obtain ⟨K, hK⟩ : ∃ K, K = kindW x := ⟨_, rfl⟩
      rw [← hK] at hk
      simp only [← hK] at HK
      have hkb : (K == 2) = false := by rw [beq_eq_false_iff_ne]; exact hk
      obtain ⟨y, hy⟩ : ∃ y, y = intW x := ⟨_, rfl⟩
      simp only [← hy] at HI HV
      obtain ⟨b, hb⟩ : ∃ b, b = decide (x % 4 = 1) := ⟨_, rfl⟩
      have hIf : ∀ {α : Type} (p q : α), (if x % 4 = 1 then p else q) = if b = true then p else q := fun p q => by
        rw [hb]
        simp only [decide_eq_true_eq]
      simp only [hIf, ← hb] at HI HV
      clear hK hk hx h200 hl2 hf2 hy hb hIf
      go_enter Tryz.func4, Tryz.ntmps4
      go_upto_region 1 with fail
      refine wp_name ?_
      intro w1 hw1
      obtain ⟨B0, l1⟩ := box1 hw1
      have l11 : Later w1 w1 := Later.refl
      clear hw1
      go_upto_region 3 with (first | (go_at_call 6; refine (HF _).mono ?_; rintro r w2 ⟨rfl, hb2⟩; have l2 := later hb2) | (go_at_call 7; refine (HA _).mono ?_; rintro r w3 ⟨rfl, hb3⟩; have l3 := later hb3) | (go_at_call 11; refine (HC _).mono ?_; rintro r w4 ⟨b4, rfl, hc4, hb4⟩; have l4 := later hb4; cases b4) | (go_at_call 12; refine (HK _).mono ?_; rintro r w5 ⟨rfl, hb5⟩; have l5 := later hb5))
      · go_ret
        exact ⟨rfl, below_of⟩
      have hC := hc4.out (by simp)
      go_upto_region 4 with (go_at_call 13; refine (HP _ hC).mono ?_; rintro r w6 ⟨P, PA, pc, AA, ac, rfl, -, -, hb6⟩; have l6 := later hb6)
      replace HV := HV P.gh
      go_upto_region 7 with (go_at_call 14; refine (HI _).mono ?_; rintro r w7 ⟨rfl, hb7⟩; have l7 := later hb7)
      have l17 : Later w1 w7 := ⟨below_of⟩
      have l77 : Later w7 w7 := Later.refl
      have lw7 : Later w w7 := ⟨below_of⟩
      clear l7 l6 l4 l1
      go_upto_region 8 with fail
      refine wp_name ?_
      intro w8 hw8
      obtain ⟨B10, l8⟩ := box1 hw8
      clear hw8
      have l78 : Later w7 w8 := l8 w7
      have lw8 : Later w w8 := lw7.trans l78
      have l88 : Later w8 w8 := Later.refl
      clear l8
      cases b
      · go_upto_region 10 with fail
        have r0 := ((B10 w8).2 0).1
        (refine wp_region_after (by kernel_rfl) (by kernel_rfl) ?_
         repeat (any_goals (first | go_big_quiet_skip | (go_big_quiet_want; go_big_quiet_op; first | go_big_quiet_on | go_big_quiet_call ((first | (go_at_call 15; exact Calls.after (HV _)) | (go_at_call 7; exact Calls.after (HA _))))) | quiet_step ((first | (go_at_call 15; exact Calls.after (HV _)) | (go_at_call 7; exact Calls.after (HA _)))) | (refine wpQuiet_step (fun K hK => ?_); go_simp; split <;> (refine hK _ ?_; clear hK K))))
         all_goals (refine wpQuiet_nil ?_; intro _ hw'; obtain ⟨u', hw''⟩ := hw'; subst hw''; obtain ⟨wd, hbd⟩ := u'; simp only [After.val_mk]))
        have ld := later hbd
        go_wp2_with fail
        refine bodyPost_ret (results_tmp rfl _ _ _) rfl ⟨rfl, below_of⟩
      · go_upto_region 10 with fail
        refine wp_name ?_
        intro w9 hw9
        have B9 := boxed_set4 B10 hw9
        have l9 := later_put4 (W := w7) (Nat.le_refl _) (Nat.le_refl _) (Nat.le_refl _) (Nat.le_refl _) hw9
        have lw9 : Later w w9 := l9 w
        have l99 : Later w9 w9 := Later.refl
        clear hw9 l9
        go_upto_region 10 with fail
        have r0 := ((B9 w9).2 0).1
        (refine wp_region_after (by kernel_rfl) (by kernel_rfl) ?_
         repeat (any_goals (first | go_big_quiet_skip | (go_big_quiet_want; go_big_quiet_op; first | go_big_quiet_on | go_big_quiet_call ((first | (go_at_call 15; exact Calls.after (HV _)) | (go_at_call 7; exact Calls.after (HA _))))) | quiet_step ((first | (go_at_call 15; exact Calls.after (HV _)) | (go_at_call 7; exact Calls.after (HA _)))) | (refine wpQuiet_step (fun K hK => ?_); go_simp; split <;> (refine hK _ ?_; clear hK K))))
         all_goals (refine wpQuiet_nil ?_; intro _ hw'; obtain ⟨u', hw''⟩ := hw'; subst hw''; obtain ⟨wd, hbd⟩ := u'; simp only [After.val_mk]))
        have ld := later hbd
        go_wp2_with fail
        refine bodyPost_ret (results_tmp rfl _ _ _) rfl ⟨rfl, below_of⟩
end Go.Proofs.YtjegncmkebbdfaaGreatDoor
