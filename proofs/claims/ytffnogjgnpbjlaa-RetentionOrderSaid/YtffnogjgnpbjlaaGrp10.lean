/-
  Small texts of this seat, put into one. Conditions stand in each theorem.
-/
import Derived.Test.YtffnogjgnpbjlaaGrp15
import Derived.Deep.RegionHeld3
import Derived.Test.YtffnogjgnpbjlaaGrp8
import Derived.Test.YtffnogjgnpbjlaaGReach
import Derived.Test.YtffnogjgnpbjlaaGrp1
set_option linter.unusedSimpArgs false
set_option linter.unusedVariables false
namespace Go.Proofs.Ytffnogjgnpbjlaa
open Go.RowKit
attribute [local go_sem ↓] run_eql_id run_neq_id
attribute [local simp] heap_drew
set_option maxRecDepth 100000 in
set_option maxHeartbeats 4000000 in
theorem put21_any (A : Option Addr) (c : Nat) (es : List IDE) (x : IDE) (w : World) (hs : SlAt IDE.cells 2 w A es) (hl : es.length ≤ 1000000000) (hc : es.length ≤ c) (hm : c ≤ maxLen) :
    Calls Try.prog 49 #[.slice A es.length c, x.v] w (PutPost A c es (putI es x) w) := by
  have HL : ∀ u [Later w u], SlAt IDE.cells 2 u A es := fun u i => hs.below i.below
  have hsl : es.length ≤ 9223372036854775807 := by omega
  go_enter Try.func49, Try.ntmps49
  go_upto_region 2 with fail
  refine wp_name ?_
  intro w0 hw0
  obtain ⟨B0, l0⟩ := box1 hw0
  clear hw0
  go_loopw [5] (fun i wr => ∃ k : Nat, k ≤ es.length ∧ i = .int .i64 k ∧ (∀ (j : Nat) (y : IDE), j < k → es[j]? = some y → ltI y x) ∧ Below w0.heap.size w0 wr) (fun i _ => es.length - (intOf i).toNat)
  case atStart => exact ⟨0, by omega, rfl, fun j x h => absurd h (by omega), Below.refl _ _⟩
  case round =>
    obtain ⟨k, hk, rfl, hlo, hbw⟩ := hrel
    have lr := later hbw
    have Hlo := hide hlo
    clear hlo
    by_cases hlt : k < es.length
    · obtain ⟨g1, o1, y, rfl, hy, C1⟩ := IDE.get (HL wr) hlt
      have Hy := hide hy
      clear hy
      have hti : decide ((k : Int) < (es.length : Int)) = true := by simp; omega
      obtain ⟨cv, hcv⟩ : ∃ cv, cv = cmpI y x := ⟨_, rfl⟩
      have HC : ∀ u, Calls Try.prog 26 #[y.v, x.v] u fun r w' => r = .returned (.int .i64 cv) ∧ Below u.heap.size u w' := fun u => by rw [hcv]; exact compare21_any y x u
      have Hcv := hide hcv
      clear hcv
      by_cases hn : ltI y x
      · obtain rfl : cv = -1 := by rw [Hcv.out]; unfold cmpI; rw [if_neg (by rintro rfl; exact ltI_irrefl y hn), if_pos hn]
        have Hn := hide hn
        clear hn
        go_upto_region 2 with fail
        (refine wp_region_after (by kernel_rfl) (by kernel_rfl) ?_
         repeat (any_goals (first | go_big_quiet_skip | (go_big_quiet_want; go_big_quiet_op; first | go_big_quiet_on | go_big_quiet_call ((go_at_call 26; exact Calls.after (HC _)))) | quiet_step ((go_at_call 26; exact Calls.after (HC _))) | (refine wpQuiet_step (fun K hK => ?_); go_simp; split <;> (refine hK _ ?_; clear hK K))))
         all_goals (refine wpQuiet_nil ?_; intro _ hw'; obtain ⟨u', hw''⟩ := hw'; subst hw''; obtain ⟨wd, hbd⟩ := u'; simp only [After.val_mk]))
        have ld := later hbd
        go_wp2_with fail
        go_roundw
        case rel => exact ⟨k + 1, by omega, by go_num, fun j z hj hz => by
          rcases Nat.lt_or_ge j k with h | h
          · exact Hlo.out j z h hz
          · have : j = k := by omega
            subst this
            rw [Hy.out] at hz; injection hz with hz; subst hz; exact Hn.out, hbw.trans (hbd.mono hbw.size)⟩
        case measure => simp [intOf]; omega
      · have Hk := hide (cntI_eq (x := x) hk Hlo.out (fun z hz => by rw [Hy.out] at hz; injection hz with hz; subst hz; exact hn))
        have hcn : decide (cv < 0) = false := by
          have := Hcv.out
          unfold cmpI at this
          rw [if_neg hn] at this
          split at this <;> simp [this]
        have hnot := hide hn
        clear hn
        go_upto_region 2 with fail
        (refine wp_region_after (by kernel_rfl) (by kernel_rfl) ?_
         repeat (any_goals (first | go_big_quiet_skip | (go_big_quiet_want; go_big_quiet_op; first | go_big_quiet_on | go_big_quiet_call ((go_at_call 26; exact Calls.after (HC _)))) | quiet_step ((go_at_call 26; exact Calls.after (HC _))) | (refine wpQuiet_step (fun K hK => ?_); go_simp; split <;> (refine hK _ ?_; clear hK K))))
         all_goals (refine wpQuiet_nil ?_; intro _ hw'; obtain ⟨u', hw''⟩ := hw'; subst hw''; obtain ⟨wd, hbd⟩ := u'; simp only [After.val_mk]))
        have ld := later hbd
        clear hbd
        cases hq : ideq y.machine y.serial x.machine x.serial
        · have Hp := hide (show putI es x = es.take k ++ [x] ++ es.drop k by
            unfold putI
            rw [Hk.out, Hy.out, if_neg (fun e => by injection e with e; rw [ideq_iff, e] at hq; simp at hq)])
          go_upto_region 4 with fail
          (refine wp_region_after (by kernel_rfl) (by kernel_rfl) ?_
           repeat (any_goals (first | go_big_quiet_skip | (go_big_quiet_want; go_big_quiet_op; first | go_big_quiet_on | go_big_quiet_call (fail)) | quiet_step (fail) | (refine wpQuiet_step (fun K hK => ?_); go_simp; split <;> (refine hK _ ?_; clear hK K))))
           all_goals (refine wpQuiet_nil ?_; intro _ hw'; obtain ⟨u', hw''⟩ := hw'; subst hw''; obtain ⟨wd, hbd⟩ := u'; simp only [After.val_mk]))
          have ld := later hbd
          go_upto_region 6 with fail
          refine wp_name ?_
          intro wz hwz
          have lz := later_name' hwz (inferInstance : Later w0 _)
          have hsrc : ∀ u [Later w u], SlAt IDE.cells 2 u (if c = k then some ⟨g1, o1, none⟩ else some ⟨g1, o1 + k * 2, none⟩) (es.drop k) := fun u i => by rw [if_neg (by omega)]; exact SlAt.drop (HL u) k
          have hzb : w.heap.size < wz.heap.size := Nat.lt_of_lt_of_le (blk_lt (B0 w0).1) (lz w0).below.size
          have HZ := HL wz
          have hk0 : (0 : Int) ≤ (k : Int) := by omega
          have hkc : (k : Int) ≤ (c : Int) := by omega
          have hkl : (k : Int) ≤ (es.length : Int) := by omega
          have q0 := blk_cell (B0 wz).1 0
          have q1 := blk_cell (B0 wz).1 1
          simp at q0 q1
          clear hwz
          have hpl : (putI es x).length = es.length + 1 := by rw [Hp.out]; exact (by first | (simp; done) | (simp; omega) | omega)
          have htk : (es.take k).length = k := by rw [List.length_take]; omega
          have hdk : (es.drop k).length = es.length - k := by rw [List.length_drop]
          go_region_held3 (fun w' => w'.cell? ⟨w.heap.size, 0, none⟩ = some (.int .i64 x.machine) ∧ w'.cell? ⟨w.heap.size, 1, none⟩ = some (.int .i64 x.serial)) (first | go_keep)
            ((first
              | (have ho9 := ho2
                 refine step_app (P := Try.prog) rfl (.tmp 41) (.tmp 44) (by rfl) IDE.enc idT (if c = k then some ⟨g1, o1, none⟩ else some ⟨g1, o1 + k * 2, none⟩) (c - k) (es.drop k) (es.take k ++ [x]) (.slice A2 (k + 1) c2) (by rfl) (by rfl) (m := es.length - k) (n := es.length + 1) hdk (by simp only [List.length_append, htk, List.length_singleton] <;> omega) (ho2.later _) (hsrc _) (by omega) (by simp [maxLen]; omega) (by first | (simp; done) | (simp; omega) | omega) ?_
                 intro A3 c3 w3 ho3 hm3 hb3 hg3
                 have l3 := later_base (W := wz) hb3
                 have hz3 : wz.heap.size ≤ w3.heap.size := (l3 wz).below.size
                 have p0 := blk_cell (B0 w3).1 0
                 have p1 := blk_cell (B0 w3).1 1
                 simp at p0 p1)
              | (refine step_app rfl (.tmp 38) (.tmp 40) (by rfl) IDE.enc idT _ _ [x] (es.take k) _ (by rfl) (by rfl) (m := 1) (n := k + 1) rfl (by rw [htk]) (ho1.later _) (blk_slAt IDE.enc (fr := (0, 0)) (e := 46) (by first | (exact (by (simp only [heap_drew, heap_alloc_if, World.size_alloc]); (repeat (first | rw [if_pos rfl] | rw [if_neg (by omega)] | rw [if_pos (by omega)])); try rfl)) | (refine (hgh _ (by first | (simp; done) | (simp; omega) | omega) (by simp [Value.ownBlock] <;> omega)).trans (by (simp only [heap_drew, heap_alloc_if, World.size_alloc]); (repeat (first | rw [if_pos rfl] | rw [if_neg (by omega)] | rw [if_pos (by omega)])); try rfl))) [x] (by rfl)) (by omega) (by simp [maxLen]; omega) (by first | (simp; done) | (simp; omega) | omega) ?_
                 intro A2 c2 w2 ho2 hm2 hb2 hg2
                 have l2 := later_base (W := wz) hb2
                 have hz2 : wz.heap.size ≤ w2.heap.size := (l2 wz).below.size
                 have p0 := blk_cell (B0 w2).1 0
                 have p1 := blk_cell (B0 w2).1 1
                 simp at p0 p1)
              | (refine step_app rfl (.tmp 34) (.tmp 37) (by rfl) IDE.enc idT _ _ (es.take k) ([] : List IDE) (.slice (some ⟨_, 0, none⟩) 0 0) (by rfl) (by rfl) htk (Nat.zero_add _) (Own.empty_blk (base := wz.heap.size) (by first | (simp; done) | (simp; omega) | omega) (by (simp only [heap_drew, heap_alloc_if, World.size_alloc]); (repeat (first | rw [if_pos rfl] | rw [if_neg (by omega)] | rw [if_pos (by omega)])); try rfl)) ((HL _).take _) (by omega) (by simp [maxLen]; omega) (by first | (simp; done) | (simp; omega) | omega) ?_
                 intro A1 c1 w1 ho1 hm1 hb1 hg1
                 obtain ⟨-, -, -, -, hgh⟩ := hg1
                 have l1 := later_base (W := wz) hb1
                 have hz1 : wz.heap.size ≤ w1.heap.size := (l1 wz).below.size
                 have p0 := blk_cell (B0 w1).1 0
                 have p1 := blk_cell (B0 w1).1 1
                 simp at p0 p1)
              ))
          all_goals go_wp2_with fail
          all_goals go_ret
          all_goals
            have hq3 := ho3.at_ IDE.enc
            exact ⟨_, A3, c3, hide Hp.out.symm, by rw [← hq3.1]; rfl, .inr (by rw [← hq3.1]; exact ho3.mono (Nat.le_of_lt hzb)), below_of⟩
        · have Hp := hide (show es = putI es x by
            unfold putI
            rw [ideq_iff, decide_eq_true_eq] at hq
            rw [Hk.out, Hy.out, hq, if_pos rfl])
          go_upto_region 4 with fail
          (refine wp_region_after (by kernel_rfl) (by kernel_rfl) ?_
           repeat (any_goals (first | go_big_quiet_skip | (go_big_quiet_want; go_big_quiet_op; first | go_big_quiet_on | go_big_quiet_call (fail)) | quiet_step (fail) | (refine wpQuiet_step (fun K hK => ?_); go_simp; split <;> (refine hK _ ?_; clear hK K))))
           all_goals (refine wpQuiet_nil ?_; intro _ hw'; obtain ⟨u', hw''⟩ := hw'; subst hw''; obtain ⟨wd, hbd⟩ := u'; simp only [After.val_mk]))
          have ld := later hbd
          go_wp2_with fail
          go_ret
          exact ⟨es, _, c, Hp, rfl, .inl ⟨rfl, rfl, rfl⟩, below_of⟩
    · have hk' : k = es.length := by omega
      subst hk'
      have Hk := hide (cntI_eq (x := x) hk Hlo.out (fun y hy => by rw [List.getElem?_eq_none (by omega)] at hy; cases hy))
      have Hp := hide (show putI es x = es.take es.length ++ [x] ++ ([] : List IDE) by unfold putI; rw [Hk.out, List.getElem?_eq_none (by omega)]; simp)
      have hti : decide ((es.length : Int) < (es.length : Int)) = false := by simp
      have hdr : es.drop es.length = [] := List.drop_length
      rcases A with _ | ad
      all_goals
        go_upto_region 2 with fail
        (refine wp_region_after (by kernel_rfl) (by kernel_rfl) ?_
         repeat (any_goals (first | go_big_quiet_skip | (go_big_quiet_want; go_big_quiet_op; first | go_big_quiet_on | go_big_quiet_call (fail)) | quiet_step (fail) | (refine wpQuiet_step (fun K hK => ?_); go_simp; split <;> (refine hK _ ?_; clear hK K))))
         all_goals (refine wpQuiet_nil ?_; intro _ hw'; obtain ⟨u', hw''⟩ := hw'; subst hw''; obtain ⟨wd, hbd⟩ := u'; simp only [After.val_mk]))
        have ld := later hbd
        clear hbd
        go_upto_region 4 with fail
        (refine wp_region_after (by kernel_rfl) (by kernel_rfl) ?_
         repeat (any_goals (first | go_big_quiet_skip | (go_big_quiet_want; go_big_quiet_op; first | go_big_quiet_on | go_big_quiet_call (fail)) | quiet_step (fail) | (refine wpQuiet_step (fun K hK => ?_); go_simp; split <;> (refine hK _ ?_; clear hK K))))
         all_goals (refine wpQuiet_nil ?_; intro _ hw'; obtain ⟨u', hw''⟩ := hw'; subst hw''; obtain ⟨wd, hbd⟩ := u'; simp only [After.val_mk]))
        have ld := later hbd
        go_upto_region 6 with fail
        refine wp_name ?_
        intro wz hwz
        have lz := later_name' hwz (inferInstance : Later w0 _)
        have hzb : w.heap.size < wz.heap.size := Nat.lt_of_lt_of_le (blk_lt (B0 w0).1) (lz w0).below.size
        have HZ := HL wz
        have hk0 : (0 : Int) ≤ (es.length : Int) := by omega
        have hkc : (es.length : Int) ≤ (c : Int) := by omega
        have hkl : (es.length : Int) ≤ (es.length : Int) := by omega
        have q0 := blk_cell (B0 wz).1 0
        have q1 := blk_cell (B0 wz).1 1
        simp at q0 q1
        clear hwz
        have hpl : (putI es x).length = es.length + 1 := by rw [Hp.out]; exact (by first | (simp; done) | (simp; omega) | omega)
        have htk : (es.take es.length).length = es.length := by rw [List.length_take]; omega
        have hdk : (es.drop es.length).length = es.length - es.length := by rw [List.length_drop]
        go_region_held3 (fun w' => w'.cell? ⟨w.heap.size, 0, none⟩ = some (.int .i64 x.machine) ∧ w'.cell? ⟨w.heap.size, 1, none⟩ = some (.int .i64 x.serial)) (first | go_keep)
          ((first
            | (have ho9 := ho2
               refine step_app (P := Try.prog) rfl (.tmp 41) (.tmp 44) (by rfl) IDE.enc idT _ _ ([] : List IDE) (es.take es.length ++ [x]) (.slice A2 (es.length + 1) c2) (by rfl) (by rfl) (m := 0) (n := es.length + 1) rfl (by simp only [List.length_append, htk, List.length_singleton] <;> omega) (ho2.later _) SlAt.nil (by omega) (by simp [maxLen]; omega) (by first | (simp; done) | (simp; omega) | omega) ?_
               intro A3 c3 w3 ho3 hm3 hb3 hg3
               have l3 := later_base (W := wz) hb3
               have hz3 : wz.heap.size ≤ w3.heap.size := (l3 wz).below.size
               have p0 := blk_cell (B0 w3).1 0
               have p1 := blk_cell (B0 w3).1 1
               simp at p0 p1)
            | (refine step_app rfl (.tmp 38) (.tmp 40) (by rfl) IDE.enc idT _ _ [x] (es.take es.length) _ (by rfl) (by rfl) (m := 1) (n := es.length + 1) rfl (by rw [htk]) (ho1.later _) (blk_slAt IDE.enc (fr := (0, 0)) (e := 46) (by first | (exact (by (simp only [heap_drew, heap_alloc_if, World.size_alloc]); (repeat (first | rw [if_pos rfl] | rw [if_neg (by omega)] | rw [if_pos (by omega)])); try rfl)) | (refine (hgh _ (by first | (simp; done) | (simp; omega) | omega) (by simp [Value.ownBlock] <;> omega)).trans (by (simp only [heap_drew, heap_alloc_if, World.size_alloc]); (repeat (first | rw [if_pos rfl] | rw [if_neg (by omega)] | rw [if_pos (by omega)])); try rfl))) [x] (by rfl)) (by omega) (by simp [maxLen]; omega) (by first | (simp; done) | (simp; omega) | omega) ?_
               intro A2 c2 w2 ho2 hm2 hb2 hg2
               have l2 := later_base (W := wz) hb2
               have hz2 : wz.heap.size ≤ w2.heap.size := (l2 wz).below.size
               have p0 := blk_cell (B0 w2).1 0
               have p1 := blk_cell (B0 w2).1 1
               simp at p0 p1)
            | (refine step_app rfl (.tmp 34) (.tmp 37) (by rfl) IDE.enc idT _ _ (es.take es.length) ([] : List IDE) (.slice (some ⟨_, 0, none⟩) 0 0) (by rfl) (by rfl) htk (Nat.zero_add _) (Own.empty_blk (base := wz.heap.size) (by first | (simp; done) | (simp; omega) | omega) (by (simp only [heap_drew, heap_alloc_if, World.size_alloc]); (repeat (first | rw [if_pos rfl] | rw [if_neg (by omega)] | rw [if_pos (by omega)])); try rfl)) ((HL _).take _) (by omega) (by simp [maxLen]; omega) (by first | (simp; done) | (simp; omega) | omega) ?_
               intro A1 c1 w1 ho1 hm1 hb1 hg1
               obtain ⟨-, -, -, -, hgh⟩ := hg1
               have l1 := later_base (W := wz) hb1
               have hz1 : wz.heap.size ≤ w1.heap.size := (l1 wz).below.size
               have p0 := blk_cell (B0 w1).1 0
               have p1 := blk_cell (B0 w1).1 1
               simp at p0 p1)
            ))
        all_goals go_wp2_with fail
        all_goals go_ret
        all_goals
          have hq3 := ho3.at_ IDE.enc
          exact ⟨_, A3, c3, hide Hp.out.symm, by rw [← hq3.1]; rfl, .inr (by rw [← hq3.1]; exact ho3.mono (Nat.le_of_lt hzb)), below_of⟩
end Go.Proofs.Ytffnogjgnpbjlaa

namespace Go.Proofs.Ytffnogjgnpbjlaa
open Go.RowKit
attribute [local simp] heap_drew
theorem putPost_own {A0 : Option Addr} {c0 : Nat} {es : List IDE} {w w' : World} {base : Nat} {q : List IDE} {A : Option Addr} {c : Nat} (ho : Own IDE.cells 2 46 base w (.slice A0 es.length c0) es) (hb : base ≤ w.heap.size) (hbw : Below w.heap.size w w')
    (h : (A = A0 ∧ c = c0 ∧ q = es) ∨ Own IDE.cells 2 46 w.heap.size w' (.slice A q.length c) q) : Own IDE.cells 2 46 base w' (.slice A q.length c) q := by
  rcases h with ⟨rfl, rfl, rfl⟩ | h
  · exact ho.below hbw
  · exact h.mono hb
theorem setI_snoc {l : List IDE} {k : Nat} {y : IDE} (h : l[k]? = some y) : setI (l.take (k + 1)) = putI (setI (l.take k)) y := by
  unfold setI
  rw [take_snoc_get h, List.foldl_append]; rfl
theorem setI_lenA (l : List IDE) : (setI l).length ≤ l.length := nodup_len (setI_sorted l).nodup fun x h => setI_mem.1 h
set_option maxRecDepth 100000 in
set_option maxHeartbeats 4000000 in
theorem set21_any (A : Option Addr) (c : Nat) (l : List IDE) (w : World) (hs : SlAt IDE.cells 2 w A l) (hl : l.length ≤ 1000000) : Calls Try.prog 29 #[.slice A l.length c] w (SetIPost l w) := by
  go_enter Try.func29, Try.ntmps29
  go_upto_region 2 with fail
  refine wp_name ?_
  intro w1 hw1
  have ho1 : Own IDE.cells 2 46 w.heap.size w1 (.slice (some ⟨w.heap.size, 0, none⟩) 0 0) ([] : List IDE) := Own.empty_blk (Nat.le_refl _) (by rw [← hw1]; exact heap_alloc_new _ _)
  have hb1 : Below w.heap.size w w1 := by rw [← hw1]; exact (by repeat (first | with_reducible exact Below.refl _ _ | (with_reducible refine Below.drew ?_) | (with_reducible refine below_drewN ?_ _) | (with_reducible refine Below.alloc ?_ ?_ _; rotate_left; (first | omega | (simp <;> omega))) | (with_reducible refine Below.setCell ?_ ?_ _; rotate_left; (first | omega | (simp <;> omega)))))
  clear hw1
  go_wp2_with fail
  go_loopw [3, 4] (fun ov kv wr => ∃ (k : Nat) (q : List IDE) (QA : Option Addr) (QC : Nat), k ≤ l.length ∧ kv = .int .i64 k ∧ ov = .slice QA q.length QC ∧ Hid (q = setI (l.take k)) ∧ Own IDE.cells 2 46 w.heap.size wr (.slice QA q.length QC) q ∧ Below w.heap.size w wr) (fun _ kv _ => l.length - (intOf kv).toNat)
  case atStart => exact ⟨0, [], _, _, by omega, rfl, rfl, hide rfl, ho1, hb1⟩
  case round =>
    obtain ⟨k, q, QA, QC, hk, rfl, rfl, hq, hoq, hbr⟩ := hrel
    have lr := later hbr
    have lrr : Later wr wr := Later.refl
    have hql := hide (show q.length ≤ k by rw [hq.out]; exact Nat.le_trans (setI_lenA _) (by rw [List.length_take]; omega))
    by_cases hlt : k < l.length
    · have hki : (k : Int) < (l.length : Int) := by omega
      obtain ⟨y, hy⟩ : ∃ y, l[k]? = some y := ⟨_, List.getElem?_eq_getElem hlt⟩
      obtain ⟨b9, o9, rfl, C1, C2⟩ := id_at hs hy
      have Hs := hide (show setI (l.take (k + 1)) = putI q y by rw [hq.out]; exact setI_snoc hy)
      have HP : ∀ u [Later wr u], Calls Try.prog 49 #[.slice QA q.length QC, y.v] u (PutPost QA QC q (putI q y) u) := fun u i => put21_any QA QC q y u ((hoq.below i.below).at_ IDE.enc).2.2 (by have := hql.out; omega) (hoq.at_ IDE.enc).2.1 hoq.cap_le
      clear hy
      obtain ⟨y1, y2⟩ := y
      dsimp only [IDE.v] at C1 C2 HP
      go_wp2_with (go_at_call 49; refine (HP _).mono ?_; rintro r w3 ⟨q3, A3, c3, hq3, rfl, ho3, hb3⟩; have l3 := later hb3)
      go_roundw
      case rel => exact ⟨k + 1, q3, A3, c3, by omega, by go_num, rfl, hide (by rw [hq3.out]; exact Hs.out.symm), putPost_own hoq hbr.size hb3 ho3, hbr.trans (hb3.mono hbr.size)⟩
      case measure => simp [intOf]; omega
    · have hkk : k = l.length := by omega
      subst hkk
      go_wp2_with fail
      go_ret
      exact ⟨q, QA, QC, hide (by rw [hq.out, List.take_length]), rfl, hoq, hbr⟩
/-- What is in a and not in b. -/
def minI (a b : List IDE) : List IDE := setI (a.filter fun x => decide (x ∉ b))
theorem minI_mem {a b : List IDE} {x : IDE} : x ∈ minI a b ↔ x ∈ a ∧ x ∉ b := by unfold minI; rw [setI_mem, List.mem_filter]; simp
theorem minI_yes {a b : List IDE} {k : Nat} {y : IDE} (h : a[k]? = some y) (hy : y ∉ b) : minI (a.take (k + 1)) b = putI (minI (a.take k) b) y := by
  unfold minI setI
  rw [take_snoc_get h, List.filter_append, List.foldl_append]
  simp [hy]
theorem minI_no {a b : List IDE} {k : Nat} {y : IDE} (h : a[k]? = some y) (hy : y ∈ b) : minI (a.take (k + 1)) b = minI (a.take k) b := by
  unfold minI setI
  rw [take_snoc_get h, List.filter_append, List.foldl_append]
  simp [hy]
theorem minI_len (a b : List IDE) : (minI a b).length ≤ a.length := Nat.le_trans (setI_lenA _) (List.length_filter_le _ _)
def MinP (a b : List IDE) (w : World) (r : Ending) (w' : World) : Prop := ∃ q A c, Hid (q = minI a b) ∧ r = .returned (.slice A q.length c) ∧ Own IDE.cells 2 46 w.heap.size w' (.slice A q.length c) q ∧ Below w.heap.size w w'
set_option maxRecDepth 100000 in
set_option maxHeartbeats 4000000 in
theorem minus21_any (A : Option Addr) (c : Nat) (l : List IDE) (BA : Option Addr) (bc : Nat) (bl : List IDE) (w : World) (hs : SlAt IDE.cells 2 w A l) (hbs : SlAt IDE.cells 2 w BA bl) (hl : l.length ≤ 1000000) (hbl : bl.length ≤ 1000000) : Calls Try.prog 58 #[.slice A l.length c, .slice BA bl.length bc] w (MinP l bl w) := by
  have HH : ∀ (x : IDE) (u : World) [Later w u], Calls Try.prog 24 #[.slice BA bl.length bc, x.v] u fun r w' => r = .returned (.bool (decide (x ∈ bl))) ∧ Below u.heap.size u w' := fun x u j => has21_any BA bc bl x u (hbs.below j.below) (by omega)
  go_enter Try.func58, Try.ntmps58
  go_upto_region 2 with fail
  refine wp_name ?_
  intro w1 hw1
  have ho1 : Own IDE.cells 2 46 w.heap.size w1 (.slice (some ⟨w.heap.size, 0, none⟩) 0 0) ([] : List IDE) := Own.empty_blk (Nat.le_refl _) (by rw [← hw1]; exact heap_alloc_new _ _)
  have hb1 : Below w.heap.size w w1 := by rw [← hw1]; exact (by repeat (first | with_reducible exact Below.refl _ _ | (with_reducible refine Below.drew ?_) | (with_reducible refine below_drewN ?_ _) | (with_reducible refine Below.alloc ?_ ?_ _; rotate_left; (first | omega | (simp <;> omega))) | (with_reducible refine Below.setCell ?_ ?_ _; rotate_left; (first | omega | (simp <;> omega)))))
  clear hw1
  go_wp2_with fail
  go_loopw [5, 6] (fun ov kv wr => ∃ (k : Nat) (q : List IDE) (QA : Option Addr) (QC : Nat), k ≤ l.length ∧ kv = .int .i64 k ∧ ov = .slice QA q.length QC ∧ Hid (q = minI (l.take k) bl) ∧ Own IDE.cells 2 46 w.heap.size wr (.slice QA q.length QC) q ∧ Below w.heap.size w wr) (fun _ kv _ => l.length - (intOf kv).toNat)
  case atStart => exact ⟨0, [], _, _, by omega, rfl, rfl, hide rfl, ho1, hb1⟩
  case round =>
    obtain ⟨k, q, QA, QC, hk, rfl, rfl, hq, hoq, hbr⟩ := hrel
    have lr := later hbr
    have lrr : Later wr wr := Later.refl
    have hql := hide (show q.length ≤ k by rw [hq.out]; exact Nat.le_trans (minI_len _ _) (by rw [List.length_take]; omega))
    by_cases hlt : k < l.length
    · have hki : (k : Int) < (l.length : Int) := by omega
      obtain ⟨y, hy⟩ : ∃ y, l[k]? = some y := ⟨_, List.getElem?_eq_getElem hlt⟩
      obtain ⟨b9, o9, rfl, C1, C2⟩ := id_at hs hy
      have HHy := fun (u : World) (j : Later w u) => HH y u
      cases hmem : decide (y ∈ bl) with
      | true =>
        have Hs := hide (show minI (l.take (k + 1)) bl = q by rw [hq.out]; exact minI_no hy (of_decide_eq_true hmem))
        simp only [hmem] at HHy
        clear hy hmem
        obtain ⟨y1, y2⟩ := y
        dsimp only [IDE.v] at C1 C2 HHy
        go_wp2_with (go_at_call 24; refine (HHy _ inferInstance).mono ?_; rintro r w2 ⟨rfl, hb2⟩; have l2 := later hb2)
        go_roundw
        case rel => exact ⟨k + 1, q, QA, QC, by omega, by go_num, rfl, hide Hs.out.symm, hoq.below hb2, hbr.trans (hb2.mono hbr.size)⟩
        case measure => simp [intOf]; omega
      | false =>
        have Hs := hide (show minI (l.take (k + 1)) bl = putI q y by rw [hq.out]; exact minI_yes hy (of_decide_eq_false hmem))
        have HP : ∀ u [Later wr u], Calls Try.prog 49 #[.slice QA q.length QC, y.v] u (PutPost QA QC q (putI q y) u) := fun u i => put21_any QA QC q y u ((hoq.below i.below).at_ IDE.enc).2.2 (by have := hql.out; omega) (hoq.at_ IDE.enc).2.1 hoq.cap_le
        simp only [hmem] at HHy
        clear hy hmem
        obtain ⟨y1, y2⟩ := y
        dsimp only [IDE.v] at C1 C2 HHy HP
        go_upto_region 6 with (go_at_call 24; refine (HHy _ inferInstance).mono ?_; rintro r w2 ⟨rfl, hb2⟩; have l2 := later hb2)
        go_wp2_with (go_at_call 49; refine (HP _).mono ?_; rintro r w3 ⟨q3, A3, c3, hq3, rfl, ho3, hb3⟩; have l3 := later hb3)
        go_roundw
        case rel => exact ⟨k + 1, q3, A3, c3, by omega, by go_num, rfl, hide (by rw [hq3.out]; exact Hs.out.symm), putPost_own (hoq.below hb2) (Nat.le_trans hbr.size hb2.size) hb3 ho3, (hbr.trans (hb2.mono hbr.size)).trans (hb3.mono (Nat.le_trans hbr.size hb2.size))⟩
        case measure => simp [intOf]; omega
    · have hkk : k = l.length := by omega
      subst hkk
      go_wp2_with fail
      go_ret
      exact ⟨q, QA, QC, hide (by rw [hq.out, List.take_length]), rfl, hoq, hbr⟩
end Go.Proofs.Ytffnogjgnpbjlaa
