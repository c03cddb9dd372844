/-
  The law RetentionRemoval. Conditions stand in the theorem.
-/
import Derived.Test.YtffnogjgnpbjlaaD58Law0
set_option linter.unusedSimpArgs false
set_option linter.unusedVariables false
namespace Go.Proofs.Ytffnogjgnpbjlaa
open Go.RowKit
attribute [local go_sem] Oper.semAt_some
attribute [local simp] heap_drew
set_option maxRecDepth 100000 in
set_option maxHeartbeats 4000000 in
theorem lawRemoval_any (A : Option Addr) (c : Nat) (l : List NodeE) (x : IDE) (RA : Option Addr) (rc : Nat) (roots : List IDE) (w : World) (H : GraphIn w A c l) (hR : SlAt IDE.cells 2 w RA roots) :
    Calls Try.prog 8 #[.agg #[.slice A l.length c], x.v, .slice RA roots.length rc] w fun r w' => r = .returned (.bool true) ∧ Below w.heap.size w w' := by
  have HG : ∀ u [Later w u], Calls Try.prog 11 #[.agg #[.slice A l.length c], .slice RA roots.length rc] u fun r w' => r = .returned (.bool (lrgB l roots)) ∧ Below u.heap.size u w' := fun u i => large_any A c l RA rc roots u ⟨H.at_.below i.below, H.len, H.fields⟩
  obtain ⟨xx, hxx⟩ : ∃ xx, xx = x := ⟨_, rfl⟩
  have Hxx := hide hxx
  obtain ⟨x1, x2⟩ := x
  cases hlg : lrgB l roots with
  | true =>
    clear hxx
    simp only [hlg] at HG
    dsimp only [IDE.v]
    go_enter Try.func8, Try.ntmps8
    go_upto_region 1 with fail
    refine wp_name ?_
    intro w1 hw1
    obtain ⟨B0, B1, l1⟩ := box2 hw1
    clear hw1
    go_wp2_with (first | (go_at_call 10; refine (awake_any _).mono ?_; rintro r w2 ⟨rfl, hb2⟩; have l2 := later hb2) | (go_at_call 11; refine (HG _).mono ?_; rintro r w3 ⟨rfl, hb3⟩; have l3 := later hb3))
    go_ret
    exact ⟨rfl, below_of⟩
  | false =>
    simp only [hlg] at HG
    obtain ⟨hl, hf, hr⟩ := lrgB_no hlg
    have HA1 : ∀ u [Later w u], Calls Try.prog 27 #[.agg #[.slice A l.length c], .slice RA roots.length rc] u (ReachPost (conL l) roots u) := fun u i => reach_any A c l RA rc roots u (H.at_.below i.below) (hR.below i.below) (by omega) hf (by omega)
    have HW : ∀ u [Later w u], Calls Try.prog 28 #[.agg #[.slice A l.length c], xx.v] u (WoP l xx u) := fun u i => without_any A c l xx u (H.at_.below i.below) (by omega)
    have HA2 : ∀ (u : World) [Later w u] (o : List NodeE) (OA : Option Addr) (OC base : Nat), o = l.filter (keepX xx) → Own NodeE.cells 5 56 base u (.slice OA o.length OC) o → Calls Try.prog 27 #[.agg #[.slice OA o.length OC], .slice RA roots.length rc] u (ReachPost (woN (conL l) xx) roots u) := fun u i o OA OC base ho hoo => by
      have ec : conL o = woN (conL l) xx := by rw [ho, woP_con]
      rw [← ec]
      exact reach_any OA OC o RA rc roots u (wo_nodes H.at_ i.below ho hoo) (hR.below i.below) (by rw [ho]; exact Nat.le_trans (List.length_filter_le _ _) (by omega)) (fun n hn => hf n (List.mem_filter.1 (ho ▸ hn)).1) (by omega)
    have HRt : ∀ u [Later w u], Calls Try.prog 23 #[.agg #[.slice A l.length c], xx.v, .slice RA roots.length rc] u (RetPP (conL l) roots xx u) := fun u i => ret_any A c l xx RA rc roots u (H.at_.below i.below) (hR.below i.below) (by omega) hf (by omega)
    have hxv : xx.v = .agg #[.int .i64 x1, .int .i64 x2] := by rw [hxx]
    rw [hxv] at HW HRt
    clear hlg hxx hxv
    dsimp only [IDE.v]
    go_enter Try.func8, Try.ntmps8
    go_upto_region 1 with fail
    refine wp_name ?_
    intro w1 hw1
    obtain ⟨B0, B1, l1⟩ := box2 hw1
    clear hw1
    go_upto_region 5 with (first | (go_at_call 10; refine (awake_any _).mono ?_; rintro r w2 ⟨rfl, hb2⟩; have l2 := later hb2) | (go_at_call 11; refine (HG _).mono ?_; rintro r w3 ⟨rfl, hb3⟩; have l3 := later hb3))
    go_upto_region 6 with (go_at_call 27; refine (HA1 _).mono ?_; rintro r w4 ⟨q, QA, QC, hq0, rfl, hoq, hb4⟩; have hq := hide hq0; clear hq0; have l4 := later hb4)
    clear HA1
    go_upto_region 7 with (first | (go_at_call 28; refine (HW _).mono ?_; rintro r w5 ⟨o, OA, OC, ho, rfl, hoo, hb5⟩; have l5 := later hb5) | (go_at_call 27; refine (HA2 _ _ _ _ _ ho.out hoo).mono ?_; rintro r w6 ⟨p, PA, PC, hp0, rfl, hop, hb6⟩; have hp := hide hp0; clear hp0; have l6 := later hb6))
    clear HW HA2
    go_upto_region 8 with (go_at_call 23; refine (HRt _).mono ?_; rintro r w7 ⟨t, TA, TC, rfl, ht, hot, hb7⟩; have l7 := later hb7)
    have l77 : Later w7 w7 := Later.refl
    have hlen := hide (removal_len ht.out hp.out hq.out)
    have hone := hide (fun y (hy : y ∈ q) => removal_one ht.out hp.out ((hq.out.2 y).1 hy))
    have hql := reachL_len hq.out hl
    have hpl : p.length ≤ 100 := by have := hlen.out; omega
    have htl : t.length ≤ 100 := by have := hlen.out; omega
    have HQ : ∀ u [Later w7 u], SlAt IDE.cells 2 u QA q := fun u i => by haveI := (show Later w4 w7 from inferInstance).trans i; exact ((hoq.later u).at_ IDE.enc).2.2
    have HP : ∀ u [Later w7 u], SlAt IDE.cells 2 u PA p := fun u i => by haveI := (show Later w6 w7 from inferInstance).trans i; exact ((hop.later u).at_ IDE.enc).2.2
    have HT : ∀ u [Later w7 u], SlAt IDE.cells 2 u TA t := fun u i => ((hot.below i.below).at_ IDE.enc).2.2
    have HHt : ∀ (y : IDE) (u : World) [Later w7 u], Calls Try.prog 24 #[.slice TA t.length TC, y.v] u fun r w' => r = .returned (.bool (decide (y ∈ t))) ∧ Below u.heap.size u w' := fun y u j => has21_any TA TC t y u (HT u) (by omega)
    have HHp : ∀ (y : IDE) (u : World) [Later w7 u], Calls Try.prog 24 #[.slice PA p.length PC, y.v] u fun r w' => r = .returned (.bool (decide (y ∈ p))) ∧ Below u.heap.size u w' := fun y u j => has21_any PA PC p y u (HP u) (by omega)
    clear HRt HG hoq hop hoo hot ho hq hp ht
    go_wp2_with fail
    go_loopw [10] (fun iv wr => ∃ k : Nat, k ≤ q.length ∧ iv = .int .i64 k ∧ Below w7.heap.size w7 wr) (fun iv _ => q.length - (intOf iv).toNat)
    case atStart => exact ⟨0, by omega, rfl, Below.refl _ _⟩
    case round =>
      obtain ⟨k, hk, rfl, hbr⟩ := hrel
      have lr := later hbr
      have lrr : Later wr wr := Later.refl
      by_cases hlt : k < q.length
      · have hki : (k : Int) < (q.length : Int) := by omega
        obtain ⟨y, hy⟩ : ∃ y, q[k]? = some y := ⟨_, List.getElem?_eq_getElem hlt⟩
        obtain ⟨b9, o9, rfl, C1, C2⟩ := id_at (HQ wr) hy
        have h1 := hone.out y (List.mem_of_getElem? hy)
        have HT1 := fun (u : World) (j : Later w7 u) => HHt y u
        have HP1 := fun (u : World) (j : Later w7 u) => HHp y u
        clear hy
        rw [h1] at HT1
        clear h1
        generalize decide (y ∈ p) = bb at HT1 HP1
        obtain ⟨y1, y2⟩ := y
        dsimp only [IDE.v] at C1 C2 HT1 HP1
        cases bb
        · simp only [Bool.not_false] at HT1
          go_upto_region 11 with fail
          (refine wp_region_after (by kernel_rfl) (by kernel_rfl) ?_
           repeat (any_goals (first | go_big_quiet_skip | (go_big_quiet_want; go_big_quiet_op; first | go_big_quiet_on | go_big_quiet_call ((first | (go_at_call_has 24 (Value.slice TA t.length TC); exact Calls.after (HT1 _ inferInstance)) | (go_at_call_has 24 (Value.slice PA p.length PC); exact Calls.after (HP1 _ inferInstance))))) | quiet_step ((first | (go_at_call_has 24 (Value.slice TA t.length TC); exact Calls.after (HT1 _ inferInstance)) | (go_at_call_has 24 (Value.slice PA p.length PC); exact Calls.after (HP1 _ inferInstance)))) | (refine wpQuiet_step (fun K hK => ?_); go_simp; split <;> (refine hK _ ?_; clear hK K))))
           all_goals (refine wpQuiet_nil ?_; intro _ hw'; obtain ⟨u', hw''⟩ := hw'; subst hw''; obtain ⟨wd, hbd⟩ := u'; simp only [After.val_mk]))
          have ld := later hbd
          go_wp2_with fail
          go_roundw
          case rel => exact ⟨k + 1, by omega, by go_num, below_of⟩
          case measure => simp [intOf]; omega
        · simp only [Bool.not_true] at HT1
          go_upto_region 11 with fail
          (refine wp_region_after (by kernel_rfl) (by kernel_rfl) ?_
           repeat (any_goals (first | go_big_quiet_skip | (go_big_quiet_want; go_big_quiet_op; first | go_big_quiet_on | go_big_quiet_call ((first | (go_at_call_has 24 (Value.slice TA t.length TC); exact Calls.after (HT1 _ inferInstance)) | (go_at_call_has 24 (Value.slice PA p.length PC); exact Calls.after (HP1 _ inferInstance))))) | quiet_step ((first | (go_at_call_has 24 (Value.slice TA t.length TC); exact Calls.after (HT1 _ inferInstance)) | (go_at_call_has 24 (Value.slice PA p.length PC); exact Calls.after (HP1 _ inferInstance)))) | (refine wpQuiet_step (fun K hK => ?_); go_simp; split <;> (refine hK _ ?_; clear hK K))))
           all_goals (refine wpQuiet_nil ?_; intro _ hw'; obtain ⟨u', hw''⟩ := hw'; subst hw''; obtain ⟨wd, hbd⟩ := u'; simp only [After.val_mk]))
          have ld := later hbd
          go_wp2_with fail
          go_roundw
          case rel => exact ⟨k + 1, by omega, by go_num, below_of⟩
          case measure => simp [intOf]; omega
      · have hk' : k = q.length := by omega
        subst hk'
        have hlen2 : (t.length : Int) + (p.length : Int) = (q.length : Int) := by have := hlen.out; omega
        have hend := hide hlen2
        clear hlen2
        go_wp2_with fail
        go_ret
        exact ⟨ret_bool (by simp; exact hend.out), below_of⟩
end Go.Proofs.Ytffnogjgnpbjlaa
