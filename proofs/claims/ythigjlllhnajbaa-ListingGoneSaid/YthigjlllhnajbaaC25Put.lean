/-
  Contracts of the functions of this seat that each theorem names: what a call returns, and that it writes nothing that was there before. The conditions stand in each theorem.
-/
import Derived.Test.YthigjlllhnajbaaC25Plain3
import Derived.Test.YthigjlllhnajbaaC25Apply
import Derived.Test.YthigjlllhnajbaaGrpA
import Derived.Deep.RegionHeld3
namespace Go.Proofs.Ythigjlllhnajbaa
open Go.RowKit
attribute [local simp] heap_drew
set_option maxRecDepth 100000 in
set_option maxHeartbeats 4000000 in
theorem put_any (A : Option Addr) (c : Nat) (es : List ListedE) (e : ListedE) (w : World) (hs : SlAt ListedE.cells 3 w A es) (hl : es.length ≤ 1000000000) (hc : es.length ≤ c) (hm : c ≤ maxLen) :
    Calls Try.prog 35 #[.slice A es.length c, e.v] w fun r w' => ((r = .returned (.slice A es.length c) ∧ putL es e = es) ∨ ∃ A' c', r = .returned (.slice A' (putL es e).length c') ∧ Own ListedE.cells 3 64 w.heap.size w' (.slice A' (putL es e).length c') (putL es e)) ∧ Below w.heap.size w w' := by
  have HL : ∀ u [Later w u], SlAt ListedE.cells 3 u A es := fun u i => hs.below i.below
  have hsl : es.length ≤ 9223372036854775807 := by omega
  go_enter Try.func35, Try.ntmps35
  go_upto_region 2 with fail
  refine wp_name ?_
  intro w0 hw0
  obtain ⟨B0, l0⟩ := box1 hw0
  clear hw0
  go_loopw [5] (fun i wr => ∃ k : Nat, k ≤ es.length ∧ i = .int .i64 k ∧ (∀ (j : Nat) (x : ListedE), j < k → es[j]? = some x → x.number < e.number) ∧ Below w0.heap.size w0 wr) (fun i _ => es.length - (intOf i).toNat)
  case atStart => exact ⟨0, by omega, rfl, fun j x h => absurd h (by omega), Below.refl _ _⟩
  case round =>
    obtain ⟨k, hk, rfl, hlo, hbw⟩ := hrel
    have lr := later hbw
    have Hlo := hide hlo
    clear hlo
    by_cases hlt : k < es.length
    · obtain ⟨g1, o1, x, rfl, hx, C1⟩ := ListedE.get (HL wr) hlt
      have Hx := hide hx
      clear hx
      have hti : decide ((k : Int) < (es.length : Int)) = true := by simp; omega
      by_cases hn : x.number < e.number
      · go_upto_region 2 with fail
        (refine wp_region_after (by kernel_rfl) (by kernel_rfl) ?_
         repeat (any_goals (first | go_big_quiet_skip | (go_big_quiet_want; go_big_quiet_op; first | go_big_quiet_on | go_big_quiet_call (fail)) | quiet_step (fail) | (refine wpQuiet_step (fun K hK => ?_); go_simp; split <;> (refine hK _ ?_; clear hK K))))
         all_goals (refine wpQuiet_nil ?_; intro _ hw'; obtain ⟨u', hw''⟩ := hw'; subst hw''; obtain ⟨wd, hbd⟩ := u'; simp only [After.val_mk]))
        have ld := later hbd
        go_wp2_with fail
        go_roundw
        case rel => exact ⟨k + 1, by omega, by go_num, fun j y hj hy => by
          rcases Nat.lt_or_ge j k with h | h
          · exact Hlo.out j y h hy
          · have : j = k := by omega
            subst this
            rw [Hx.out] at hy; injection hy with hy; subst hy; exact hn, hbw.trans (hbd.mono hbw.size)⟩
        case measure => simp [intOf]; omega
      · have hn' : decide (x.number < e.number) = false := by simpa using hn
        have Hk := hide (countL_eq (n := e.number) hk Hlo.out (fun y hy => by rw [Hx.out] at hy; injection hy with hy; subst hy; exact hn))
        go_upto_region 2 with fail
        (refine wp_region_after (by kernel_rfl) (by kernel_rfl) ?_
         repeat (any_goals (first | go_big_quiet_skip | (go_big_quiet_want; go_big_quiet_op; first | go_big_quiet_on | go_big_quiet_call (fail)) | quiet_step (fail) | (refine wpQuiet_step (fun K hK => ?_); go_simp; split <;> (refine hK _ ?_; clear hK K))))
         all_goals (refine wpQuiet_nil ?_; intro _ hw'; obtain ⟨u', hw''⟩ := hw'; subst hw''; obtain ⟨wd, hbd⟩ := u'; simp only [After.val_mk]))
        have ld := later hbd
        clear hbd
        by_cases hq : x.number = e.number
        · have Hp := hide (show putL es e = es by unfold putL; rw [Hk.out, Hx.out]; simp [hq])
          go_upto_region 4 with fail
          (refine wp_region_after (by kernel_rfl) (by kernel_rfl) ?_
           repeat (any_goals (first | go_big_quiet_skip | (go_big_quiet_want; go_big_quiet_op; first | go_big_quiet_on | go_big_quiet_call (fail)) | quiet_step (fail) | (refine wpQuiet_step (fun K hK => ?_); go_simp; split <;> (refine hK _ ?_; clear hK K))))
           all_goals (refine wpQuiet_nil ?_; intro _ hw'; obtain ⟨u', hw''⟩ := hw'; subst hw''; obtain ⟨wd, hbd⟩ := u'; simp only [After.val_mk]))
          have ld := later hbd
          go_wp2_with fail
          go_ret
          exact ⟨.inl ⟨rfl, Hp.out⟩, below_of⟩
        · have hq' : decide (x.number = e.number) = false := by simpa using hq
          have hq2 : (x.number == e.number) = false := by simpa using hq
          have Hp := hide (show putL es e = es.take k ++ [e] ++ es.drop k by unfold putL; rw [Hk.out, Hx.out]; simp [hq])
          go_upto_region 4 with fail
          (refine wp_region_after (by kernel_rfl) (by kernel_rfl) ?_
           repeat (any_goals (first | go_big_quiet_skip | (go_big_quiet_want; go_big_quiet_op; first | go_big_quiet_on | go_big_quiet_call (fail)) | quiet_step (fail) | (refine wpQuiet_step (fun K hK => ?_); go_simp; split <;> (refine hK _ ?_; clear hK K))))
           all_goals (refine wpQuiet_nil ?_; intro _ hw'; obtain ⟨u', hw''⟩ := hw'; subst hw''; obtain ⟨wd, hbd⟩ := u'; simp only [After.val_mk]))
          have ld := later hbd
          go_upto_region 6 with fail
          refine wp_name ?_
          intro wz hwz
          have lz := later_name' hwz (inferInstance : Later w0 _)
          have hsrc : ∀ u [Later w u], SlAt ListedE.cells 3 u (if c = k then some ⟨g1, o1, none⟩ else some ⟨g1, o1 + k * 3, none⟩) (es.drop k) := fun u i => by rw [if_neg (by omega)]; exact SlAt.drop (HL u) k
          have hzb : w.heap.size < wz.heap.size := Nat.lt_of_lt_of_le (blk_lt (B0 w0).1) (lz w0).below.size
          have HZ := HL wz
          have hk0 : (0 : Int) ≤ (k : Int) := by omega
          have hkc : (k : Int) ≤ (c : Int) := by omega
          have hkl : (k : Int) ≤ (es.length : Int) := by omega
          have q0 := blk_cell (B0 wz).1 0
          have q1 := blk_cell (B0 wz).1 1
          have q2 := blk_cell (B0 wz).1 2
          simp at q0 q1 q2
          clear hwz
          have hpl : (putL es e).length = es.length + 1 := by rw [Hp.out]; exact (by first | (simp; done) | (simp; omega) | omega)
          have htk : (es.take k).length = k := by rw [List.length_take]; omega
          have hdk : (es.drop k).length = es.length - k := by rw [List.length_drop]
          go_region_held3 (fun w' => w'.cell? ⟨w.heap.size, 0, none⟩ = some (.int .u64 e.number) ∧ w'.cell? ⟨w.heap.size, 1, none⟩ = some (.int .i64 e.distance) ∧ w'.cell? ⟨w.heap.size, 2, none⟩ = some (.bool e.weak)) (first | go_keep)
            ((first
              | (have ho9 := ho2
                 refine step_app (P := Try.prog) rfl (.tmp 44) (.tmp 47) (by rfl) ListedE.enc listedT (if c = k then some ⟨g1, o1, none⟩ else some ⟨g1, o1 + k * 3, none⟩) (c - k) (es.drop k) (es.take k ++ [e]) (.slice A2 (k + 1) c2) (by rfl) (by rfl) (m := es.length - k) (n := es.length + 1) hdk (by simp only [List.length_append, htk, List.length_singleton] <;> omega) (ho2.later _) (hsrc _) (by omega) (by simp [maxLen]; omega) (by first | (simp; done) | (simp; omega) | omega) ?_
                 intro A3 c3 w3 ho3 hm3 hb3 hg3
                 have l3 := later_base (W := wz) hb3
                 have hz3 : wz.heap.size ≤ w3.heap.size := (l3 wz).below.size
                 have p0 := blk_cell (B0 w3).1 0
                 have p1 := blk_cell (B0 w3).1 1
                 have p2 := blk_cell (B0 w3).1 2
                 simp at p0 p1 p2)
              | (refine step_app rfl (.tmp 41) (.tmp 43) (by rfl) ListedE.enc listedT _ _ [e] (es.take k) _ (by rfl) (by rfl) (m := 1) (n := k + 1) rfl (by rw [htk]) (ho1.later _) (blk_slAt ListedE.enc (fr := (0, 0)) (e := 64) (by first | (exact (by (simp only [heap_drew, heap_alloc_if, World.size_alloc]); (repeat (first | rw [if_pos rfl] | rw [if_neg (by omega)] | rw [if_pos (by omega)])); try rfl)) | (refine (hgh _ (by first | (simp; done) | (simp; omega) | omega) (by simp [Value.ownBlock] <;> omega)).trans (by (simp only [heap_drew, heap_alloc_if, World.size_alloc]); (repeat (first | rw [if_pos rfl] | rw [if_neg (by omega)] | rw [if_pos (by omega)])); try rfl))) [e] (by rfl)) (by omega) (by simp [maxLen]; omega) (by first | (simp; done) | (simp; omega) | omega) ?_
                 intro A2 c2 w2 ho2 hm2 hb2 hg2
                 have l2 := later_base (W := wz) hb2
                 have hz2 : wz.heap.size ≤ w2.heap.size := (l2 wz).below.size
                 have p0 := blk_cell (B0 w2).1 0
                 have p1 := blk_cell (B0 w2).1 1
                 have p2 := blk_cell (B0 w2).1 2
                 simp at p0 p1 p2)
              | (refine step_app rfl (.tmp 37) (.tmp 40) (by rfl) ListedE.enc listedT _ _ (es.take k) ([] : List ListedE) (.slice (some ⟨_, 0, none⟩) 0 0) (by rfl) (by rfl) htk (Nat.zero_add _) (Own.empty_blk (base := wz.heap.size) (by first | (simp; done) | (simp; omega) | omega) (by (simp only [heap_drew, heap_alloc_if, World.size_alloc]); (repeat (first | rw [if_pos rfl] | rw [if_neg (by omega)] | rw [if_pos (by omega)])); try rfl)) ((HL _).take _) (by omega) (by simp [maxLen]; omega) (by first | (simp; done) | (simp; omega) | omega) ?_
                 intro A1 c1 w1 ho1 hm1 hb1 hg1
                 obtain ⟨-, -, -, -, hgh⟩ := hg1
                 have l1 := later_base (W := wz) hb1
                 have hz1 : wz.heap.size ≤ w1.heap.size := (l1 wz).below.size
                 have p0 := blk_cell (B0 w1).1 0
                 have p1 := blk_cell (B0 w1).1 1
                 have p2 := blk_cell (B0 w1).1 2
                 simp at p0 p1 p2)
              ))
          all_goals go_wp2_with fail
          all_goals go_ret
          all_goals first
            | exact ⟨.inr ⟨A3, c3, rfl, by rw [Hp.out]; exact Own.mono ho3 (by omega)⟩, below_of⟩
            | exact ⟨.inr ⟨A3, c3, by rw [hpl]; rfl, by rw [hpl, Hp.out]; exact Own.mono ho3 (by omega)⟩, below_of⟩
    · have hk' : k = es.length := by omega
      subst hk'
      have Hk := hide (countL_eq (n := e.number) hk Hlo.out (fun y hy => by rw [List.getElem?_eq_none (by omega)] at hy; cases hy))
      have Hp := hide (show putL es e = es.take es.length ++ [e] ++ ([] : List ListedE) by unfold putL; rw [Hk.out, List.getElem?_eq_none (by omega)]; simp)
      have hti : decide ((es.length : Int) < (es.length : Int)) = false := by simp
      have hdr : es.drop es.length = [] := List.drop_length
      rcases A with _ | ad
      all_goals
        go_upto_region 2 with fail
        (refine wp_region_after (by kernel_rfl) (by kernel_rfl) ?_
         repeat (any_goals (first | go_big_quiet_skip | (go_big_quiet_want; go_big_quiet_op; first | go_big_quiet_on | go_big_quiet_call (fail)) | quiet_step (fail) | (refine wpQuiet_step (fun K hK => ?_); go_simp; split <;> (refine hK _ ?_; clear hK K))))
         all_goals (refine wpQuiet_nil ?_; intro _ hw'; obtain ⟨u', hw''⟩ := hw'; subst hw''; obtain ⟨wd, hbd⟩ := u'; simp only [After.val_mk]))
        have ld := later hbd
        clear hbd
        go_upto_region 4 with fail
        (refine wp_region_after (by kernel_rfl) (by kernel_rfl) ?_
         repeat (any_goals (first | go_big_quiet_skip | (go_big_quiet_want; go_big_quiet_op; first | go_big_quiet_on | go_big_quiet_call (fail)) | quiet_step (fail) | (refine wpQuiet_step (fun K hK => ?_); go_simp; split <;> (refine hK _ ?_; clear hK K))))
         all_goals (refine wpQuiet_nil ?_; intro _ hw'; obtain ⟨u', hw''⟩ := hw'; subst hw''; obtain ⟨wd, hbd⟩ := u'; simp only [After.val_mk]))
        have ld := later hbd
        go_upto_region 6 with fail
        refine wp_name ?_
        intro wz hwz
        have lz := later_name' hwz (inferInstance : Later w0 _)
        have hzb : w.heap.size < wz.heap.size := Nat.lt_of_lt_of_le (blk_lt (B0 w0).1) (lz w0).below.size
        have HZ := HL wz
        have hk0 : (0 : Int) ≤ (es.length : Int) := by omega
        have hkc : (es.length : Int) ≤ (c : Int) := by omega
        have hkl : (es.length : Int) ≤ (es.length : Int) := by omega
        have q0 := blk_cell (B0 wz).1 0
        have q1 := blk_cell (B0 wz).1 1
        have q2 := blk_cell (B0 wz).1 2
        simp at q0 q1 q2
        clear hwz
        have hpl : (putL es e).length = es.length + 1 := by rw [Hp.out]; exact (by first | (simp; done) | (simp; omega) | omega)
        have htk : (es.take es.length).length = es.length := by rw [List.length_take]; omega
        have hdk : (es.drop es.length).length = es.length - es.length := by rw [List.length_drop]
        go_region_held3 (fun w' => w'.cell? ⟨w.heap.size, 0, none⟩ = some (.int .u64 e.number) ∧ w'.cell? ⟨w.heap.size, 1, none⟩ = some (.int .i64 e.distance) ∧ w'.cell? ⟨w.heap.size, 2, none⟩ = some (.bool e.weak)) (first | go_keep)
          ((first
            | (have ho9 := ho2
               refine step_app (P := Try.prog) rfl (.tmp 44) (.tmp 47) (by rfl) ListedE.enc listedT _ _ ([] : List ListedE) (es.take es.length ++ [e]) (.slice A2 (es.length + 1) c2) (by rfl) (by rfl) (m := 0) (n := es.length + 1) rfl (by simp only [List.length_append, htk, List.length_singleton] <;> omega) (ho2.later _) SlAt.nil (by omega) (by simp [maxLen]; omega) (by first | (simp; done) | (simp; omega) | omega) ?_
               intro A3 c3 w3 ho3 hm3 hb3 hg3
               have l3 := later_base (W := wz) hb3
               have hz3 : wz.heap.size ≤ w3.heap.size := (l3 wz).below.size
               have p0 := blk_cell (B0 w3).1 0
               have p1 := blk_cell (B0 w3).1 1
               have p2 := blk_cell (B0 w3).1 2
               simp at p0 p1 p2)
            | (refine step_app rfl (.tmp 41) (.tmp 43) (by rfl) ListedE.enc listedT _ _ [e] (es.take es.length) _ (by rfl) (by rfl) (m := 1) (n := es.length + 1) rfl (by rw [htk]) (ho1.later _) (blk_slAt ListedE.enc (fr := (0, 0)) (e := 64) (by first | (exact (by (simp only [heap_drew, heap_alloc_if, World.size_alloc]); (repeat (first | rw [if_pos rfl] | rw [if_neg (by omega)] | rw [if_pos (by omega)])); try rfl)) | (refine (hgh _ (by first | (simp; done) | (simp; omega) | omega) (by simp [Value.ownBlock] <;> omega)).trans (by (simp only [heap_drew, heap_alloc_if, World.size_alloc]); (repeat (first | rw [if_pos rfl] | rw [if_neg (by omega)] | rw [if_pos (by omega)])); try rfl))) [e] (by rfl)) (by omega) (by simp [maxLen]; omega) (by first | (simp; done) | (simp; omega) | omega) ?_
               intro A2 c2 w2 ho2 hm2 hb2 hg2
               have l2 := later_base (W := wz) hb2
               have hz2 : wz.heap.size ≤ w2.heap.size := (l2 wz).below.size
               have p0 := blk_cell (B0 w2).1 0
               have p1 := blk_cell (B0 w2).1 1
               have p2 := blk_cell (B0 w2).1 2
               simp at p0 p1 p2)
            | (refine step_app rfl (.tmp 37) (.tmp 40) (by rfl) ListedE.enc listedT _ _ (es.take es.length) ([] : List ListedE) (.slice (some ⟨_, 0, none⟩) 0 0) (by rfl) (by rfl) htk (Nat.zero_add _) (Own.empty_blk (base := wz.heap.size) (by first | (simp; done) | (simp; omega) | omega) (by (simp only [heap_drew, heap_alloc_if, World.size_alloc]); (repeat (first | rw [if_pos rfl] | rw [if_neg (by omega)] | rw [if_pos (by omega)])); try rfl)) ((HL _).take _) (by omega) (by simp [maxLen]; omega) (by first | (simp; done) | (simp; omega) | omega) ?_
               intro A1 c1 w1 ho1 hm1 hb1 hg1
               obtain ⟨-, -, -, -, hgh⟩ := hg1
               have l1 := later_base (W := wz) hb1
               have hz1 : wz.heap.size ≤ w1.heap.size := (l1 wz).below.size
               have p0 := blk_cell (B0 w1).1 0
               have p1 := blk_cell (B0 w1).1 1
               have p2 := blk_cell (B0 w1).1 2
               simp at p0 p1 p2)
            ))
        all_goals go_wp2_with fail
        all_goals go_ret
        all_goals first
          | exact ⟨.inr ⟨A3, c3, rfl, by rw [Hp.out]; exact Own.mono ho3 (by omega)⟩, below_of⟩
          | exact ⟨.inr ⟨A3, c3, by rw [hpl]; rfl, by rw [hpl, Hp.out]; exact Own.mono ho3 (by omega)⟩, below_of⟩
end Go.Proofs.Ythigjlllhnajbaa
