/-
  Contracts of the functions of this seat that each theorem names: what a call returns, and that it writes nothing that was there before. The conditions stand in each theorem.
-/
import Derived.Test.YtpkfenlfgdbkcaaGreatDoorGrp32
import Derived.Deep.RegionHeld3
set_option linter.unusedSimpArgs false
set_option linter.unusedVariables false
namespace Go.Proofs.YtpkfenlfgdbkcaaGreatDoor
open Go.RowKit
attribute [local go_sem ↓] run_eql_id run_neq_id
attribute [local simp] heap_drew
set_option maxRecDepth 100000 in
set_option maxHeartbeats 4000000 in
theorem put21_any (A : Option Addr) (c : Nat) (es : List IDE) (x : IDE) (w : World) (hs : SlAt IDE.cells 2 w A es) (hl : es.length ≤ 1000000000) (hc : es.length ≤ c) (hm : c ≤ maxLen) :
    Calls Tryz.prog 95 #[.slice A es.length c, x.v] w (PutPost A c es (putI es x) w) := by
  have HL : ∀ u [Later w u], SlAt IDE.cells 2 u A es := fun u i => hs.below i.below
  have hsl : es.length ≤ 9223372036854775807 := by omega
  go_enter Tryz.func95, Tryz.ntmps95
  go_upto_region 2 with fail
  refine wp_name ?_
  intro w0 hw0
  obtain ⟨B0, l0⟩ := box1 hw0
  clear hw0
  go_loopw [5] (fun i wr => ∃ k : Nat, k ≤ es.length ∧ i = .int .i64 k ∧ (∀ (j : Nat) (y : IDE), j < k → es[j]? = some y → ltI y x) ∧ Below w0.heap.size w0 wr) (fun i _ => es.length - (intOf i).toNat)
  case atStart => exact ⟨0, by omega, rfl, fun j x h => absurd h (by omega), Below.refl _ _⟩
  case round =>
    obtain ⟨k, hk, rfl, hlo, hbw⟩ := hrel
    have lr := later hbw
    have Hlo := hide hlo
    clear hlo
    by_cases hlt : k < es.length
    · obtain ⟨g1, o1, y, rfl, hy, C1⟩ := IDE.get (HL wr) hlt
      have Hy := hide hy
      clear hy
      have hti : decide ((k : Int) < (es.length : Int)) = true := by simp; omega
      obtain ⟨cv, hcv⟩ : ∃ cv, cv = cmpI y x := ⟨_, rfl⟩
      have HC : ∀ u, Calls Tryz.prog 91 #[y.v, x.v] u fun r w' => r = .returned (.int .i64 cv) ∧ Below u.heap.size u w' := fun u => by rw [hcv]; exact compare21_any y x u
      have Hcv := hide hcv
      clear hcv
      by_cases hn : ltI y x
      · obtain rfl : cv = -1 := by rw [Hcv.out]; unfold cmpI; rw [if_neg (by rintro rfl; exact ltI_irrefl y hn), if_pos hn]
        have Hn := hide hn
        clear hn
        go_upto_region 2 with fail
        (refine wp_region_after (by kernel_rfl) (by kernel_rfl) ?_
         repeat (any_goals (first | go_big_quiet_skip | (go_big_quiet_want; go_big_quiet_op; first | go_big_quiet_on | go_big_quiet_call ((go_at_call 91; exact Calls.after (HC _)))) | quiet_step ((go_at_call 91; exact Calls.after (HC _))) | (refine wpQuiet_step (fun K hK => ?_); go_simp; split <;> (refine hK _ ?_; clear hK K))))
         all_goals (refine wpQuiet_nil ?_; intro _ hw'; obtain ⟨u', hw''⟩ := hw'; subst hw''; obtain ⟨wd, hbd⟩ := u'; simp only [After.val_mk]))
        have ld := later hbd
        go_wp2_with fail
        go_roundw
        case rel => exact ⟨k + 1, by omega, by go_num, fun j z hj hz => by
          rcases Nat.lt_or_ge j k with h | h
          · exact Hlo.out j z h hz
          · have : j = k := by omega
            subst this
            rw [Hy.out] at hz; injection hz with hz; subst hz; exact Hn.out, hbw.trans (hbd.mono hbw.size)⟩
        case measure => simp [intOf]; omega
      · have Hk := hide (cntI_eq (x := x) hk Hlo.out (fun z hz => by rw [Hy.out] at hz; injection hz with hz; subst hz; exact hn))
        have hcn : decide (cv < 0) = false := by
          have := Hcv.out
          unfold cmpI at this
          rw [if_neg hn] at this
          split at this <;> simp [this]
        have hnot := hide hn
        clear hn
        go_upto_region 2 with fail
        (refine wp_region_after (by kernel_rfl) (by kernel_rfl) ?_
         repeat (any_goals (first | go_big_quiet_skip | (go_big_quiet_want; go_big_quiet_op; first | go_big_quiet_on | go_big_quiet_call ((go_at_call 91; exact Calls.after (HC _)))) | quiet_step ((go_at_call 91; exact Calls.after (HC _))) | (refine wpQuiet_step (fun K hK => ?_); go_simp; split <;> (refine hK _ ?_; clear hK K))))
         all_goals (refine wpQuiet_nil ?_; intro _ hw'; obtain ⟨u', hw''⟩ := hw'; subst hw''; obtain ⟨wd, hbd⟩ := u'; simp only [After.val_mk]))
        have ld := later hbd
        clear hbd
        cases hq : ideq y.machine y.serial x.machine x.serial
        · have Hp := hide (show putI es x = es.take k ++ [x] ++ es.drop k by
            unfold putI
            rw [Hk.out, Hy.out, if_neg (fun e => by injection e with e; rw [ideq_iff, e] at hq; simp at hq)])
          go_upto_region 4 with fail
          (refine wp_region_after (by kernel_rfl) (by kernel_rfl) ?_
           repeat (any_goals (first | go_big_quiet_skip | (go_big_quiet_want; go_big_quiet_op; first | go_big_quiet_on | go_big_quiet_call (fail)) | quiet_step (fail) | (refine wpQuiet_step (fun K hK => ?_); go_simp; split <;> (refine hK _ ?_; clear hK K))))
           all_goals (refine wpQuiet_nil ?_; intro _ hw'; obtain ⟨u', hw''⟩ := hw'; subst hw''; obtain ⟨wd, hbd⟩ := u'; simp only [After.val_mk]))
          have ld := later hbd
          go_upto_region 6 with fail
          refine wp_name ?_
          intro wz hwz
          have lz := later_name' hwz (inferInstance : Later w0 _)
          have hsrc : ∀ u [Later w u], SlAt IDE.cells 2 u (if c = k then some ⟨g1, o1, none⟩ else some ⟨g1, o1 + k * 2, none⟩) (es.drop k) := fun u i => by rw [if_neg (by omega)]; exact SlAt.drop (HL u) k
          have hzb : w.heap.size < wz.heap.size := Nat.lt_of_lt_of_le (blk_lt (B0 w0).1) (lz w0).below.size
          have HZ := HL wz
          have hk0 : (0 : Int) ≤ (k : Int) := by omega
          have hkc : (k : Int) ≤ (c : Int) := by omega
          have hkl : (k : Int) ≤ (es.length : Int) := by omega
          have q0 := blk_cell (B0 wz).1 0
          have q1 := blk_cell (B0 wz).1 1
          simp at q0 q1
          clear hwz
          have hpl : (putI es x).length = es.length + 1 := by rw [Hp.out]; exact (by first | (simp; done) | (simp; omega) | omega)
          have htk : (es.take k).length = k := by rw [List.length_take]; omega
          have hdk : (es.drop k).length = es.length - k := by rw [List.length_drop]
          go_region_held3 (fun w' => w'.cell? ⟨w.heap.size, 0, none⟩ = some (.int .i64 x.machine) ∧ w'.cell? ⟨w.heap.size, 1, none⟩ = some (.int .i64 x.serial)) (first | go_keep)
            ((first
              | (have ho9 := ho2
                 refine step_app (P := Tryz.prog) rfl (.tmp 41) (.tmp 44) (by rfl) IDE.enc idT (if c = k then some ⟨g1, o1, none⟩ else some ⟨g1, o1 + k * 2, none⟩) (c - k) (es.drop k) (es.take k ++ [x]) (.slice A2 (k + 1) c2) (by rfl) (by rfl) (m := es.length - k) (n := es.length + 1) hdk (by simp only [List.length_append, htk, List.length_singleton] <;> omega) (ho2.later _) (hsrc _) (by omega) (by simp [maxLen]; omega) (by first | (simp; done) | (simp; omega) | omega) ?_
                 intro A3 c3 w3 ho3 hm3 hb3 hg3
                 have l3 := later_base (W := wz) hb3
                 have hz3 : wz.heap.size ≤ w3.heap.size := (l3 wz).below.size
                 have p0 := blk_cell (B0 w3).1 0
                 have p1 := blk_cell (B0 w3).1 1
                 simp at p0 p1)
              | (refine step_app rfl (.tmp 38) (.tmp 40) (by rfl) IDE.enc idT _ _ [x] (es.take k) _ (by rfl) (by rfl) (m := 1) (n := k + 1) rfl (by rw [htk]) (ho1.later _) (blk_slAt IDE.enc (fr := (0, 0)) (e := 24) (by first | (exact (by (simp only [heap_drew, heap_alloc_if, World.size_alloc]); (repeat (first | rw [if_pos rfl] | rw [if_neg (by omega)] | rw [if_pos (by omega)])); try rfl)) | (refine (hgh _ (by first | (simp; done) | (simp; omega) | omega) (by simp [Value.ownBlock] <;> omega)).trans (by (simp only [heap_drew, heap_alloc_if, World.size_alloc]); (repeat (first | rw [if_pos rfl] | rw [if_neg (by omega)] | rw [if_pos (by omega)])); try rfl))) [x] (by rfl)) (by omega) (by simp [maxLen]; omega) (by first | (simp; done) | (simp; omega) | omega) ?_
                 intro A2 c2 w2 ho2 hm2 hb2 hg2
                 have l2 := later_base (W := wz) hb2
                 have hz2 : wz.heap.size ≤ w2.heap.size := (l2 wz).below.size
                 have p0 := blk_cell (B0 w2).1 0
                 have p1 := blk_cell (B0 w2).1 1
                 simp at p0 p1)
              | (refine step_app rfl (.tmp 34) (.tmp 37) (by rfl) IDE.enc idT _ _ (es.take k) ([] : List IDE) (.slice (some ⟨_, 0, none⟩) 0 0) (by rfl) (by rfl) htk (Nat.zero_add _) (Own.empty_blk (base := wz.heap.size) (by first | (simp; done) | (simp; omega) | omega) (by (simp only [heap_drew, heap_alloc_if, World.size_alloc]); (repeat (first | rw [if_pos rfl] | rw [if_neg (by omega)] | rw [if_pos (by omega)])); try rfl)) ((HL _).take _) (by omega) (by simp [maxLen]; omega) (by first | (simp; done) | (simp; omega) | omega) ?_
                 intro A1 c1 w1 ho1 hm1 hb1 hg1
                 obtain ⟨-, -, -, -, hgh⟩ := hg1
                 have l1 := later_base (W := wz) hb1
                 have hz1 : wz.heap.size ≤ w1.heap.size := (l1 wz).below.size
                 have p0 := blk_cell (B0 w1).1 0
                 have p1 := blk_cell (B0 w1).1 1
                 simp at p0 p1)
              ))
          all_goals go_wp2_with fail
          all_goals go_ret
          all_goals
            have hq3 := ho3.at_ IDE.enc
            exact ⟨_, A3, c3, hide Hp.out.symm, by rw [← hq3.1]; rfl, .inr (by rw [← hq3.1]; exact ho3.mono (Nat.le_of_lt hzb)), below_of⟩
        · have Hp := hide (show es = putI es x by
            unfold putI
            rw [ideq_iff, decide_eq_true_eq] at hq
            rw [Hk.out, Hy.out, hq, if_pos rfl])
          go_upto_region 4 with fail
          (refine wp_region_after (by kernel_rfl) (by kernel_rfl) ?_
           repeat (any_goals (first | go_big_quiet_skip | (go_big_quiet_want; go_big_quiet_op; first | go_big_quiet_on | go_big_quiet_call (fail)) | quiet_step (fail) | (refine wpQuiet_step (fun K hK => ?_); go_simp; split <;> (refine hK _ ?_; clear hK K))))
           all_goals (refine wpQuiet_nil ?_; intro _ hw'; obtain ⟨u', hw''⟩ := hw'; subst hw''; obtain ⟨wd, hbd⟩ := u'; simp only [After.val_mk]))
          have ld := later hbd
          go_wp2_with fail
          go_ret
          exact ⟨es, _, c, Hp, rfl, .inl ⟨rfl, rfl, rfl⟩, below_of⟩
    · have hk' : k = es.length := by omega
      subst hk'
      have Hk := hide (cntI_eq (x := x) hk Hlo.out (fun y hy => by rw [List.getElem?_eq_none (by omega)] at hy; cases hy))
      have Hp := hide (show putI es x = es.take es.length ++ [x] ++ ([] : List IDE) by unfold putI; rw [Hk.out, List.getElem?_eq_none (by omega)]; simp)
      have hti : decide ((es.length : Int) < (es.length : Int)) = false := by simp
      have hdr : es.drop es.length = [] := List.drop_length
      rcases A with _ | ad
      all_goals
        go_upto_region 2 with fail
        (refine wp_region_after (by kernel_rfl) (by kernel_rfl) ?_
         repeat (any_goals (first | go_big_quiet_skip | (go_big_quiet_want; go_big_quiet_op; first | go_big_quiet_on | go_big_quiet_call (fail)) | quiet_step (fail) | (refine wpQuiet_step (fun K hK => ?_); go_simp; split <;> (refine hK _ ?_; clear hK K))))
         all_goals (refine wpQuiet_nil ?_; intro _ hw'; obtain ⟨u', hw''⟩ := hw'; subst hw''; obtain ⟨wd, hbd⟩ := u'; simp only [After.val_mk]))
        have ld := later hbd
        clear hbd
        go_upto_region 4 with fail
        (refine wp_region_after (by kernel_rfl) (by kernel_rfl) ?_
         repeat (any_goals (first | go_big_quiet_skip | (go_big_quiet_want; go_big_quiet_op; first | go_big_quiet_on | go_big_quiet_call (fail)) | quiet_step (fail) | (refine wpQuiet_step (fun K hK => ?_); go_simp; split <;> (refine hK _ ?_; clear hK K))))
         all_goals (refine wpQuiet_nil ?_; intro _ hw'; obtain ⟨u', hw''⟩ := hw'; subst hw''; obtain ⟨wd, hbd⟩ := u'; simp only [After.val_mk]))
        have ld := later hbd
        go_upto_region 6 with fail
        refine wp_name ?_
        intro wz hwz
        have lz := later_name' hwz (inferInstance : Later w0 _)
        have hzb : w.heap.size < wz.heap.size := Nat.lt_of_lt_of_le (blk_lt (B0 w0).1) (lz w0).below.size
        have HZ := HL wz
        have hk0 : (0 : Int) ≤ (es.length : Int) := by omega
        have hkc : (es.length : Int) ≤ (c : Int) := by omega
        have hkl : (es.length : Int) ≤ (es.length : Int) := by omega
        have q0 := blk_cell (B0 wz).1 0
        have q1 := blk_cell (B0 wz).1 1
        simp at q0 q1
        clear hwz
        have hpl : (putI es x).length = es.length + 1 := by rw [Hp.out]; exact (by first | (simp; done) | (simp; omega) | omega)
        have htk : (es.take es.length).length = es.length := by rw [List.length_take]; omega
        have hdk : (es.drop es.length).length = es.length - es.length := by rw [List.length_drop]
        go_region_held3 (fun w' => w'.cell? ⟨w.heap.size, 0, none⟩ = some (.int .i64 x.machine) ∧ w'.cell? ⟨w.heap.size, 1, none⟩ = some (.int .i64 x.serial)) (first | go_keep)
          ((first
            | (have ho9 := ho2
               refine step_app (P := Tryz.prog) rfl (.tmp 41) (.tmp 44) (by rfl) IDE.enc idT _ _ ([] : List IDE) (es.take es.length ++ [x]) (.slice A2 (es.length + 1) c2) (by rfl) (by rfl) (m := 0) (n := es.length + 1) rfl (by simp only [List.length_append, htk, List.length_singleton] <;> omega) (ho2.later _) SlAt.nil (by omega) (by simp [maxLen]; omega) (by first | (simp; done) | (simp; omega) | omega) ?_
               intro A3 c3 w3 ho3 hm3 hb3 hg3
               have l3 := later_base (W := wz) hb3
               have hz3 : wz.heap.size ≤ w3.heap.size := (l3 wz).below.size
               have p0 := blk_cell (B0 w3).1 0
               have p1 := blk_cell (B0 w3).1 1
               simp at p0 p1)
            | (refine step_app rfl (.tmp 38) (.tmp 40) (by rfl) IDE.enc idT _ _ [x] (es.take es.length) _ (by rfl) (by rfl) (m := 1) (n := es.length + 1) rfl (by rw [htk]) (ho1.later _) (blk_slAt IDE.enc (fr := (0, 0)) (e := 24) (by first | (exact (by (simp only [heap_drew, heap_alloc_if, World.size_alloc]); (repeat (first | rw [if_pos rfl] | rw [if_neg (by omega)] | rw [if_pos (by omega)])); try rfl)) | (refine (hgh _ (by first | (simp; done) | (simp; omega) | omega) (by simp [Value.ownBlock] <;> omega)).trans (by (simp only [heap_drew, heap_alloc_if, World.size_alloc]); (repeat (first | rw [if_pos rfl] | rw [if_neg (by omega)] | rw [if_pos (by omega)])); try rfl))) [x] (by rfl)) (by omega) (by simp [maxLen]; omega) (by first | (simp; done) | (simp; omega) | omega) ?_
               intro A2 c2 w2 ho2 hm2 hb2 hg2
               have l2 := later_base (W := wz) hb2
               have hz2 : wz.heap.size ≤ w2.heap.size := (l2 wz).below.size
               have p0 := blk_cell (B0 w2).1 0
               have p1 := blk_cell (B0 w2).1 1
               simp at p0 p1)
            | (refine step_app rfl (.tmp 34) (.tmp 37) (by rfl) IDE.enc idT _ _ (es.take es.length) ([] : List IDE) (.slice (some ⟨_, 0, none⟩) 0 0) (by rfl) (by rfl) htk (Nat.zero_add _) (Own.empty_blk (base := wz.heap.size) (by first | (simp; done) | (simp; omega) | omega) (by (simp only [heap_drew, heap_alloc_if, World.size_alloc]); (repeat (first | rw [if_pos rfl] | rw [if_neg (by omega)] | rw [if_pos (by omega)])); try rfl)) ((HL _).take _) (by omega) (by simp [maxLen]; omega) (by first | (simp; done) | (simp; omega) | omega) ?_
               intro A1 c1 w1 ho1 hm1 hb1 hg1
               obtain ⟨-, -, -, -, hgh⟩ := hg1
               have l1 := later_base (W := wz) hb1
               have hz1 : wz.heap.size ≤ w1.heap.size := (l1 wz).below.size
               have p0 := blk_cell (B0 w1).1 0
               have p1 := blk_cell (B0 w1).1 1
               simp at p0 p1)
            ))
        all_goals go_wp2_with fail
        all_goals go_ret
        all_goals
          have hq3 := ho3.at_ IDE.enc
          exact ⟨_, A3, c3, hide Hp.out.symm, by rw [← hq3.1]; rfl, .inr (by rw [← hq3.1]; exact ho3.mono (Nat.le_of_lt hzb)), below_of⟩
end Go.Proofs.YtpkfenlfgdbkcaaGreatDoor
