/-
  Contracts of the functions of this seat that each theorem names: what a call returns, and that it writes nothing that was there before. The conditions stand in each theorem.
-/
import Derived.Test.YtpkfenlfgdbkcaaGreatDoorP59R10
import Derived.Test.YtpkfenlfgdbkcaaGreatDoorGrp46
import Derived.Deep.RegionHeld3
set_option linter.unusedSimpArgs false
set_option linter.unusedVariables false
namespace Go.Proofs.YtpkfenlfgdbkcaaGreatDoor
open Go.RowKit
attribute [local go_sem] Oper.semAt_some Instr.makeFunc
attribute [local simp] heap_drew
attribute [local go_sem ↓] load_view_pre load_flight_pre load_msg_pre store_view_pre store_flight_pre store_msg_pre load_scion_pre store_scion_pre
attribute [local go_sem] load_view load_flight load_msg store_view store_flight store_msg load_scion store_scion view_isRow zero_isRow scion_isRow zeroS_isRow rowFree_new setRow_new view_arr0 view_arr2 view_arr3 view_arr4 view_arr5 view_arr6 view_arr9 view_arr10 flight_arr0 flight_arr1 flight_arr2 flight_arr3 flight_arr6 flight_arr7 flight_arr8 flight_arr9 flight_arr10 flight_arr11 flight_arr12 flight_arr13 flight_arr17 flight_arr18 flight_arr19 flight_arr20 flight_arr21 flight_arr22 flight_arr23 flight_arr24 flight_arr25 msg_arr0 msg_arr1 msg_arr4 msg_arr5 msg_arr6 msg_arr7 msg_arr8 msg_arr9 msg_arr10 msg_arr11 msg_arr15 msg_arr16 msg_arr17 msg_arr18 msg_arr19 msg_arr20 msg_arr21 msg_arr22 msg_arr23
attribute [local go_sem ↓] run_eql_id run_neq_id
theorem less_drop {a b : List IDE} {k : Nat} {x y : IDE} (hx : a[k]? = some x) (hy : b[k]? = some y) : lessB (a.drop k) (b.drop k) = if x = y then lessB (a.drop (k + 1)) (b.drop (k + 1)) else decide (ltI x y) := by
  obtain ⟨h1, h2⟩ := List.getElem?_eq_some_iff.1 hx
  obtain ⟨h3, h4⟩ := List.getElem?_eq_some_iff.1 hy
  rw [List.drop_eq_getElem_cons h1, List.drop_eq_getElem_cons h3, h2, h4]
  rfl
set_option maxRecDepth 100000 in
set_option maxHeartbeats 4000000 in
theorem less_any (A : Option Addr) (c : Nat) (l : List IDE) (BA : Option Addr) (bc : Nat) (bl : List IDE) (w : World) (hs : SlAt IDE.cells 2 w A l) (hbs : SlAt IDE.cells 2 w BA bl) (hl : l.length ≤ bl.length) (hbl : bl.length ≤ 1000000) :
    Calls Tryz.prog 58 #[.slice A l.length c, .slice BA bl.length bc] w fun r w' => r = .returned (.bool (lessB l bl)) ∧ Below w.heap.size w w' := by
  have hS := id_at2 hs
  have hB := id_at2 hbs
  go_enter Tryz.func58, Tryz.ntmps58
  go_wp2_with fail
  go_loopw [5] (fun kv wr => ∃ k : Nat, k ≤ l.length ∧ kv = .int .i64 k ∧ Hid (lessB l bl = lessB (l.drop k) (bl.drop k)) ∧ Below w.heap.size w wr) (fun kv _ => l.length - (intOf kv).toNat)
  case atStart => exact ⟨0, by omega, rfl, hide rfl, below_of⟩
  case round =>
    obtain ⟨k, hk, rfl, hq, hbr⟩ := hrel
    have lr := later hbr
    have lrr : Later wr wr := Later.refl
    by_cases hlt : k < l.length
    rotate_left
    · have hkk : k = l.length := by omega
      subst hkk
      have hF := hide (show lessB l bl = false by rw [hq.out, List.drop_length]; rfl)
      go_wp2_with fail
      go_ret
      exact ⟨by rw [hF.out]; rfl, below_of⟩
    obtain ⟨ab, ao, x, rfl, hx, XC⟩ := IDE.get (hS wr) hlt
    have hltb : k < bl.length := by omega
    obtain ⟨bb, bo, y, rfl, hy, YC⟩ := IDE.get (hB wr) hltb
    have hki : (k : Int) < (l.length : Int) := by omega
    have hkb : (k : Int) < (bl.length : Int) := by omega
    have hD := hide (less_drop hx hy)
    clear hx hy
    obtain ⟨cv, hcv⟩ : ∃ cv, cv = cmpI x y := ⟨_, rfl⟩
    have HC : ∀ u, Calls Tryz.prog 91 #[x.v, y.v] u fun r w' => r = .returned (.int .i64 cv) ∧ Below u.heap.size u w' := fun u => by rw [hcv]; exact compare21_any x y u
    have Hcv := hide hcv
    clear hcv
    by_cases he : x = y
    · obtain rfl : cv = 0 := by rw [Hcv.out]; unfold cmpI; rw [if_pos he]
      have hq' := hide (show lessB l bl = lessB (l.drop (k + 1)) (bl.drop (k + 1)) by rw [hq.out, hD.out, if_pos he])
      clear he Hcv
      go_upto_region 4 with fail
      (refine wp_region_after (by kernel_rfl) (by kernel_rfl) ?_
       repeat (any_goals (first | go_big_quiet_skip | (go_big_quiet_want; go_big_quiet_op; first | go_big_quiet_on | go_big_quiet_call ((go_at_call 91; exact Calls.after (HC _)))) | quiet_step ((go_at_call 91; exact Calls.after (HC _))) | (refine wpQuiet_step (fun K hK => ?_); go_simp; split <;> (refine hK _ ?_; clear hK K))))
       all_goals (refine wpQuiet_nil ?_; intro _ hw'; obtain ⟨u', hw''⟩ := hw'; subst hw''; obtain ⟨wd, hbd⟩ := u'; simp only [After.val_mk]))
      have ld := later hbd
      go_wp2_with fail
      go_roundw
      case rel => exact ⟨k + 1, by omega, by go_num, hq', hbr.trans (hbd.mono hbr.size)⟩
      case measure => simp [intOf]; omega
    · by_cases hn : ltI x y
      · obtain rfl : cv = -1 := by rw [Hcv.out]; unfold cmpI; rw [if_neg he, if_pos hn]
        have hq' := hide (show lessB l bl = true by rw [hq.out, hD.out, if_neg he, decide_eq_true hn])
        clear he Hcv hn
        go_upto_region 4 with fail
        (refine wp_region_after (by kernel_rfl) (by kernel_rfl) ?_
         repeat (any_goals (first | go_big_quiet_skip | (go_big_quiet_want; go_big_quiet_op; first | go_big_quiet_on | go_big_quiet_call ((go_at_call 91; exact Calls.after (HC _)))) | quiet_step ((go_at_call 91; exact Calls.after (HC _))) | (refine wpQuiet_step (fun K hK => ?_); go_simp; split <;> (refine hK _ ?_; clear hK K))))
         all_goals (refine wpQuiet_nil ?_; intro _ hw'; obtain ⟨u', hw''⟩ := hw'; subst hw''; obtain ⟨wd, hbd⟩ := u'; simp only [After.val_mk]))
        have ld := later hbd
        go_wp2_with fail
        go_ret
        exact ⟨by rw [hq'.out]; rfl, below_of⟩
      · obtain rfl : cv = 1 := by rw [Hcv.out]; unfold cmpI; rw [if_neg he, if_neg hn]
        have hq' := hide (show lessB l bl = false by rw [hq.out, hD.out, if_neg he, decide_eq_false hn])
        clear he Hcv hn
        go_upto_region 4 with fail
        (refine wp_region_after (by kernel_rfl) (by kernel_rfl) ?_
         repeat (any_goals (first | go_big_quiet_skip | (go_big_quiet_want; go_big_quiet_op; first | go_big_quiet_on | go_big_quiet_call ((go_at_call 91; exact Calls.after (HC _)))) | quiet_step ((go_at_call 91; exact Calls.after (HC _))) | (refine wpQuiet_step (fun K hK => ?_); go_simp; split <;> (refine hK _ ?_; clear hK K))))
         all_goals (refine wpQuiet_nil ?_; intro _ hw'; obtain ⟨u', hw''⟩ := hw'; subst hw''; obtain ⟨wd, hbd⟩ := u'; simp only [After.val_mk]))
        have ld := later hbd
        go_wp2_with fail
        go_ret
        exact ⟨by rw [hq'.out]; rfl, below_of⟩
theorem step_last_any (A : Option Addr) (c : Nat) (V : List ViewE) (GA : Option Addr) (gc : Nat) (G : List NodeE) (x y : IDE) (w : World) (H : ViewsAt w A V) (hf : FewV V) :
    Calls Tryz.prog 32 #[.slice A V.length c, .agg #[.slice GA G.length gc], x.v, y.v, .bool true] w fun r w' => r = .returned (StepE.mk (homeV V x).1 x.machine x.serial (-1)).v ∧ Below w.heap.size w w' := by
  have HH : ∀ u [Later w u], Calls Tryz.prog 62 #[.slice A V.length c, x.v] u (HomePost V x u) := fun u i => refHome_any A c V x u (H.later u) hf
  unfold HomePost at HH
  obtain ⟨hm, hhm⟩ : ∃ n, (homeV V x).1 = n := ⟨_, rfl⟩
  obtain ⟨hb, hhb⟩ : ∃ n, (homeV V x).2 = n := ⟨_, rfl⟩
  rw [hhm, hhb] at HH
  rw [hhm]
  clear hhm hhb H
  go_enter Tryz.func32, Tryz.ntmps32
  go_upto_region 1 with fail
  refine wp_name ?_
  intro w1 hw1
  have b8 : w1.heap[w.heap.size + 1 + 1 + 1]? = some (.cells #[.int .i64 0, .int .i64 0, .int .i64 0, .int .i64 0] 44 (0, 0)) := (by rw [← hw1]; simp only [heap_alloc_if, World.size_alloc]; repeat (first | rw [if_pos trivial] | rw [if_neg (by omega)] | rw [if_pos (by omega)]); try rfl)
  obtain ⟨B5, B6, B7, B8, l1⟩ := box4 hw1
  have lw1 : Later w w1 := l1 w
  have l11 : Later w1 w1 := Later.refl
  have hz1 : w1.heap.size = w.heap.size + 1 + 1 + 1 + 1 := by rw [← hw1]; simp
  clear hw1
  go_wp2_with (go_at_call 62; refine (HH _).mono ?_; rintro r w2 ⟨rfl, hb2⟩; have l2 := later hb2)
  have bw2 : Below w.heap.size w w2 := below_of
  have hle : w.heap.size ≤ w.heap.size + 1 + 1 + 1 := by omega
  have e := blk_set (blk_set (blk_set (blk_set (B8 w2).1 0 (.int .i64 hm)) 1 (.int .i64 x.machine)) 2 (.int .i64 x.serial)) 3 (.int .i64 (-1))
  have hbe : Below w.heap.size w ((((w2.setCell ⟨w.heap.size + 1 + 1 + 1, 0, none⟩ (.int .i64 hm)).setCell ⟨w.heap.size + 1 + 1 + 1, 1, none⟩ (.int .i64 x.machine)).setCell ⟨w.heap.size + 1 + 1 + 1, 2, none⟩ (.int .i64 x.serial)).setCell ⟨w.heap.size + 1 + 1 + 1, 3, none⟩ (.int .i64 (-1))) := (((bw2.setCell (p := ⟨w.heap.size + 1 + 1 + 1, 0, none⟩) hle _).setCell (p := ⟨w.heap.size + 1 + 1 + 1, 1, none⟩) hle _).setCell (p := ⟨w.heap.size + 1 + 1 + 1, 2, none⟩) hle _).setCell (p := ⟨w.heap.size + 1 + 1 + 1, 3, none⟩) hle _
  have hld := load_step e
  exact bodyPost_ret (results_cell rfl rfl hld) rfl ⟨rfl, hbe⟩
end Go.Proofs.YtpkfenlfgdbkcaaGreatDoor
