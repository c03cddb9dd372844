/-
  Small texts of this seat, put into one. Conditions stand in each theorem.
-/
import Derived.Test.YtffnogjgnpbjlaaGrp15
import Derived.Test.YtffnogjgnpbjlaaOwnLib
import Derived.Test.YtffnogjgnpbjlaaGrp1
import Derived.Test.YtffnogjgnpbjlaaGrp10
import Derived.Test.YtffnogjgnpbjlaaGrp8
set_option linter.unusedSimpArgs false
set_option linter.unusedVariables false
namespace Go.Proofs.Ytffnogjgnpbjlaa
open Go.RowKit
attribute [local go_sem ↓] run_eql_id run_neq_id
attribute [local simp] heap_drew
theorem nodeTW : ElemT Try.prog 22 56 5 56 := ElemT.mk' (z := .agg #[.int .i64 0, .int .i64 0, .int .i64 0, .int .i64 0, .slice none 0 0]) Try.underlying22 (by kernel_rfl) rfl
def keepX (x : IDE) (n : NodeE) : Bool := decide (n.id ≠ x)
/-- What Without answers. -/
def WoP (l : List NodeE) (x : IDE) (w : World) (r : Ending) (w' : World) : Prop := ∃ o OA OC, Hid (o = l.filter (keepX x)) ∧ r = .returned (.agg #[.slice OA o.length OC]) ∧ Own NodeE.cells 5 56 w.heap.size w' (.slice OA o.length OC) o ∧ Below w.heap.size w w'
theorem woP_con {l : List NodeE} {x : IDE} : conL (l.filter (keepX x)) = woN (conL l) x := by
  unfold conL woN
  rw [List.filter_map]
  rfl
theorem filterW_succ {α : Type} {p : α → Bool} {l : List α} {k : Nat} {x : α} (h : l[k]? = some x) : (l.take (k + 1)).filter p = (l.take k).filter p ++ if p x then [x] else [] := by
  rw [take_snoc_get h, List.filter_append]
  cases hx : p x <;> simp [hx]
theorem filterW_len {α : Type} {p : α → Bool} {l : List α} {k : Nat} : ((l.take k).filter p).length ≤ l.length := Nat.le_trans (List.length_filter_le _ _) (by rw [List.length_take]; omega)
set_option maxRecDepth 100000 in
set_option maxHeartbeats 8000000 in
theorem without_any (A : Option Addr) (c : Nat) (l : List NodeE) (x : IDE) (w : World) (H : NodesAt w A l) (hl : l.length ≤ 10000) :
    Calls Try.prog 28 #[.agg #[.slice A l.length c], x.v] w (WoP l x w) := by
  have HL := H.later
  have Hiq := fun n : IDE => hide (ideq_iff (a := n) (b := x))
  obtain ⟨xx, hxx⟩ : ∃ xx, xx = x := ⟨_, rfl⟩
  have HX := hide hxx
  rw [← hxx]
  have hxv : xx.v = .agg #[.int .i64 x.machine, .int .i64 x.serial] := by rw [hxx]
  rw [hxv]
  clear hxv hxx
  go_enter Try.func28, Try.ntmps28
  go_upto_region 1 with fail
  refine wp_name ?_
  intro w0 hw0
  have g0 : w0.heap[w.heap.size]? = some (.cells #[.slice A l.length c] 24 (0, 0)) := (by rw [← hw0]; simp only [heap_alloc_if, World.size_alloc]; repeat (first | rw [if_pos trivial] | rw [if_neg (by omega)] | rw [if_pos (by omega)]); try rfl)
  have i0 : w0.heap[w.heap.size + 1]? = some (.cells #[.int .i64 x.machine, .int .i64 x.serial] 46 (0, 0)) := (by rw [← hw0]; simp only [heap_alloc_if, World.size_alloc]; repeat (first | rw [if_pos trivial] | rw [if_neg (by omega)] | rw [if_pos (by omega)]); try rfl)
  have r0 : w0.heap[w.heap.size + 1 + 1]? = some (.cells #[.slice none 0 0] 24 (0, 0)) := (by rw [← hw0]; simp only [heap_alloc_if, World.size_alloc]; repeat (first | rw [if_pos trivial] | rw [if_neg (by omega)] | rw [if_pos (by omega)]); try rfl)
  have hb0 : Below w.heap.size w w0 := by rw [← hw0]; exact below_of
  have hz0 : w0.heap.size = w.heap.size + 1 + 1 + 1 := by rw [← hw0]; simp
  clear hw0
  have l0 := later hb0
  have l00 : Later w0 w0 := Later.refl
  go_upto_region 2 with fail
  refine wp_name ?_
  intro w1 hw1
  have hb01 : Below w0.heap.size w0 w1 := by rw [← hw1]; exact (by repeat (first | with_reducible exact Below.refl _ _ | (with_reducible refine Below.drew ?_) | (with_reducible refine below_drewN ?_ _) | (with_reducible refine Below.alloc ?_ ?_ _; rotate_left; (first | omega | (simp <;> omega))) | (with_reducible refine Below.setCell ?_ ?_ _; rotate_left; (first | omega | (simp <;> omega)))))
  have o1 : w1.heap[w0.heap.size]? = some (.cells #[.slice none 0 0] 24 (0, 0)) := by rw [← hw1]; exact heap_alloc_new w0 _
  have g1 := blk_below g0 hb01
  have i1 := blk_below i0 hb01
  have r1 := blk_below r0 hb01
  have hb1 : Below w.heap.size w w1 := hb0.trans (hb01.mono hb0.size)
  clear hw1 l0 l00
  have l1 := later hb1
  rw [hz0] at o1
  clear hz0 g0 i0 r0 hb0 hb01
  obtain ⟨gO, hgO⟩ : ∃ gO, gO = w.heap.size + 1 + 1 + 1 := ⟨_, rfl⟩
  rw [← hgO] at o1 ⊢
  have hOG : gO ≠ w.heap.size := by omega
  have hOR : gO ≠ w.heap.size + 1 + 1 := by omega
  have hOI : gO ≠ w.heap.size + 1 := by omega
  have hOw : w.heap.size ≤ gO := by omega
  clear hgO
  go_wp2_with fail
  go_loopw [6] (fun iv wr => ∃ (k : Nat) (o : List NodeE) (OA : Option Addr) (OC : Nat), k ≤ l.length ∧ iv = .int .i64 k ∧ Hid (o = (l.take k).filter (keepX xx)) ∧ wr.heap[w.heap.size]? = some (.cells #[.slice A l.length c] 24 (0, 0)) ∧ wr.heap[w.heap.size + 1]? = some (.cells #[.int .i64 x.machine, .int .i64 x.serial] 46 (0, 0)) ∧ wr.heap[w.heap.size + 1 + 1]? = some (.cells #[.slice none 0 0] 24 (0, 0)) ∧ wr.heap[gO]? = some (.cells #[.slice OA o.length OC] 24 (0, 0)) ∧ Own NodeE.cells 5 56 w.heap.size wr (.slice OA o.length OC) o ∧ Below w.heap.size w wr) (fun iv _ => l.length - (intOf iv).toNat)
  case atStart => exact ⟨0, [], none, 0, by omega, rfl, hide rfl, g1, i1, r1, o1, Own.nil, hb1⟩
  case round =>
    clear g1 i1 r1 o1 hb1 l1
    obtain ⟨k, o, OA, OC, hk, rfl, ho, hgG, hgI, hgR, hgO, hown, hbr⟩ := hrel
    have lr := later hbr
    have lrr : Later wr wr := Later.refl
    have BG := boxed hgG
    have BI := boxed hgI
    have BO := boxed hgO
    have hol : o.length ≤ 10000 := by rw [ho.out]; exact Nat.le_trans filterW_len hl
    by_cases hlt : k < l.length
    · have hki : (k : Int) < (l.length : Int) := by omega
      obtain ⟨b1, o1, n, rfl, hn, C1, F1, hf1, hf2⟩ := H.get hlt
      have hfs := hide (filterW_succ (p := keepX xx) hn)
      have hnid := hide (show n.id = ⟨n.iDMachine, n.iDSerial⟩ from rfl)
      have hiq := hide (Hiq n.id).out
      clear hn F1
      go_upto_region 5 with fail
      (refine wp_region_after (by kernel_rfl) (by kernel_rfl) ?_
       repeat (any_goals (first | go_big_quiet_skip | (go_big_quiet_want; go_big_quiet_op; first | go_big_quiet_on | go_big_quiet_call (fail)) | quiet_step (fail) | (refine wpQuiet_step (fun K hK => ?_); go_simp; split <;> (refine hK _ ?_; clear hK K))))
       all_goals (refine wpQuiet_nil ?_; intro _ hw'; obtain ⟨u', hw''⟩ := hw'; subst hw''; obtain ⟨wd, hbd⟩ := u'; simp only [After.val_mk]))
      have ld := later hbd
      cases hmem : ideq n.iDMachine n.iDSerial x.machine x.serial with
      | true =>
        have e : n.id = xx := (of_decide_eq_true (hiq.out.symm.trans hmem)).trans HX.out.symm
        have ho2 := hide (show o = (l.take (k + 1)).filter (keepX xx) by rw [hfs.out, ho.out]; unfold keepX; rw [e]; simp)
        clear ho e
        go_wp2_with fail
        go_roundw
        case rel =>
          exact ⟨k + 1, o, OA, OC, by omega, by go_num, ho2, blk_below hgG hbd, blk_below hgI hbd, blk_below hgR hbd, blk_below hgO hbd, hown.below hbd, hbr.trans (hbd.mono hbr.size)⟩
        case measure => simp [intOf]; omega
      | false =>
        have e : n.id ≠ xx := fun e => of_decide_eq_false (hiq.out.symm.trans hmem) (e.trans HX.out)
        have ho2 := hide (show o ++ [n] = (l.take (k + 1)).filter (keepX xx) by rw [hfs.out, ho.out]; unfold keepX; rw [if_pos (by simpa using e)])
        clear ho e
        go_upto_region 6 with fail
        refine wp_name ?_
        intro w3 hw3
        have hb3 : Below wr.heap.size wr w3 := by rw [← hw3]; exact below_of
        clear hw3 hbd ld
        have hgG3 := blk_below hgG hb3
        have hgI3 := blk_below hgI hb3
        have hgR3 := blk_below hgR hb3
        have hgO3 := blk_below hgO hb3
        have ho3 := hown.below hb3
        have hbw3 : Below w.heap.size w w3 := hbr.trans (hb3.mono hbr.size)
        have hz3 := hbw3.size
        clear hgG hgI hgR hgO hown BG BI BO lr lrr hb3 hbr
        have l3 := later hbw3
        have l33 : Later w3 w3 := Later.refl
        have BG := boxed hgG3
        have BO := boxed hgO3
        have hb0 : Below w.heap.size w w3 := hbw3
        refine wp_region_held_drew (S := fun w' => Later w w' ∧ ∀ i : Nat, w'.cell? ⟨w.heap.size, i, none⟩ = (#[.slice (some ⟨b1, o1, none⟩) l.length c] : Array Value)[i]?) (by kernel_rfl) ⟨inferInstance, fun i => ((BG w3).2 i).1⟩ (fun hHeld => ?_)
        refine wpAnyH_take (i := 0) (oi := _) (v := ?_) rfl (by kernel_rfl) (by kernel_rfl) (by kernel_rfl) (fun _ _ _ h => h) (Or.inl ⟨by rfl, ?_⟩) (by assumption) ?_
        rotate_left 1
        · (intro wy hSw; (try dsimp only at hSw); obtain ⟨hLw, hSw⟩ := hSw; go_simp; try with_reducible rfl)
        (try simp only [Act.put])
        refine wpAnyH_take (i := 2) (oi := _) (v := ?_) rfl (by kernel_rfl) (by kernel_rfl) (by kernel_rfl) (fun _ _ _ h => h) (Or.inl ⟨by rfl, ?_⟩) (by assumption) ?_
        rotate_left 1
        · (intro wy hSw; (try dsimp only at hSw); obtain ⟨hLw, hSw⟩ := hSw; go_simp; try with_reducible rfl)
        (try simp only [Act.put])
        refine wpAnyH_take (i := 3) (oi := _) (v := ?_) rfl (by kernel_rfl) (by kernel_rfl) (by kernel_rfl) (fun _ _ _ h => h) (Or.inl ⟨by rfl, ?_⟩) (by assumption) ?_
        rotate_left 1
        · (intro wy hSw; (try dsimp only at hSw); obtain ⟨hLw, hSw⟩ := hSw; go_simp; try with_reducible rfl)
        (try simp only [Act.put])
        refine wpAnyH_take (i := 4) (oi := _) (v := ?_) rfl (by kernel_rfl) (by kernel_rfl) (by kernel_rfl) (fun _ _ _ h => h) (Or.inl ⟨by rfl, ?_⟩) (by assumption) ?_
        rotate_left 1
        · (intro wy hSw; (try dsimp only at hSw); obtain ⟨hLw, hSw⟩ := hSw; go_simp; try with_reducible rfl)
        (try simp only [Act.put])
        refine wpAnyH_take (i := 5) (oi := _) (v := ?_) rfl (by kernel_rfl) (by kernel_rfl) (by kernel_rfl) (fun _ _ _ h => h) (Or.inl ⟨by rfl, ?_⟩) (by assumption) ?_
        rotate_left 1
        · (intro wy hSw; (try dsimp only at hSw); obtain ⟨hLw, hSw⟩ := hSw; go_simp; try with_reducible rfl)
        (try simp only [Act.put])
        refine wpAnyH_take (i := 6) (oi := _) (v := ?_) rfl (by kernel_rfl) (by kernel_rfl) (by kernel_rfl) (fun _ _ _ h => h) (Or.inl ⟨by rfl, ?_⟩) (by assumption) ?_
        rotate_left 1
        · (intro wy hSw; (try dsimp only at hSw); obtain ⟨hLw, hSw⟩ := hSw; go_simp; try with_reducible rfl)
        (try simp only [Act.put])
        refine wpAnyH_ready (rs := [1, 7]) (by kernel_rfl) (by simp) ?_
        refine AllReadyH.cons (o := _) rfl (fun K9 hK9 => ?_) (AllReadyH.cons (o := _) rfl (fun K9 hK9 => ?_) AllReadyH.nil)
        · go_simp
          refine hK9.out _ _ (by exact ⟨inferInstance, fun i => ((BG _).2 i).1⟩) (fun hHeld => ?_)
          clear hK9 K9
          (try simp only [Act.put])
          refine wpAnyH_ready (rs := [7]) (by kernel_rfl) (by simp) ?_
          refine AllReadyH.cons (o := _) rfl ?_ AllReadyH.nil
          intro K9 hK9
          go_simp
          refine hK9.out _ _ (by exact ⟨inferInstance, fun i => ((BG _).2 i).1⟩) (fun hHeld => ?_)
          clear hK9 K9
          (try simp only [Act.put])
          refine wpAnyH_ready (rs := [8]) (by kernel_rfl) (by simp) ?_
          refine AllReadyH.cons (o := _) rfl ?_ AllReadyH.nil
          intro K9 hK9
          refine step_app2 (P := Try.prog) rfl (.tmp 24) (.tmp 30) (by rfl) NodeE.enc nodeTW _ _ [n] o (.slice OA o.length OC) (by rfl) (by rfl) (m := 1) (n := o.length + 1) rfl rfl (ho3.later _) (blk_slAt NodeE.enc (fr := (0, 0)) (e := 56) (heap_alloc_new _ _) [n] rfl) (by omega) (by unfold maxLen; omega) (by simp only [heap_drew, World.size_alloc]; omega) ?_
          intro A9 c9 w9 ho9 hm9 hst9
          have hst : Step w3 w9 (.slice OA o.length OC) (.slice A9 (o.length + 1) c9) := Step.trans (Step.of_below (below_of (b := w3))) hst9
          have hgG9 := hst.keep ho3 hgG3 (by decide)
          have hgR9 := hst.keep ho3 hgR3 (by decide)
          have hgI9 := hst.keep ho3 hgI3 (by decide)
          have hgO9 := hst.keep ho3 hgO3 (by decide)
          have hb9 : Below w.heap.size w w9 := hst.below ho3 hb0 hz3
          have l9 := later hb9
          have BO9 := boxed hgO9
          refine hK9.out _ _ (by exact ⟨⟨hb9⟩, fun i => blk_cell hgG9 i⟩) (fun hHeld => ?_)
          clear hK9 K9
          (try simp only [Act.put])
          refine wpAnyH_take (i := 9) (oi := _) (v := ?_) rfl (by kernel_rfl) (by kernel_rfl) (by kernel_rfl) (fun _ _ _ h => h) (Or.inl ⟨by rfl, ?_⟩) (by assumption) ?_
          rotate_left 1
          · (intro wy hSw; (try dsimp only at hSw); obtain ⟨hLw, hSw⟩ := hSw; go_simp; try with_reducible rfl)
          (try simp only [Act.put])
          refine wpAnyH_ready (rs := [10]) (by kernel_rfl) (by simp) ?_
          refine AllReadyH.cons (o := _) rfl ?_ AllReadyH.nil
          intro K9 hK9
          go_simp
          refine hK9.out _ _ (by exact ⟨⟨hb9.setCell (p := ⟨gO, 0, none⟩) hOw _⟩, fun i => blk_cell ((blk_far hOG.symm _).trans hgG9) i⟩) (fun hHeld => ?_)
          clear hK9 K9
          (try simp only [Act.put])
          refine wpAnyH_done (by kernel_rfl) ?_ _
          have hgG10 := (blk_far (p := ⟨gO, 0, none⟩) hOG.symm (.slice A9 (o.length + 1) c9)).trans hgG9
          have hgR10 := (blk_far (p := ⟨gO, 0, none⟩) hOR.symm (.slice A9 (o.length + 1) c9)).trans hgR9
          have hgI10 := (blk_far (p := ⟨gO, 0, none⟩) hOI.symm (.slice A9 (o.length + 1) c9)).trans hgI9
          have hgO10 := blk_set hgO9 0 (.slice A9 (o.length + 1) c9)
          have hb10 := hb9.setCell (p := ⟨gO, 0, none⟩) hOw (.slice A9 (o.length + 1) c9)
          have ho10 := ho9.far (p := ⟨gO, 0, none⟩) (own_off ho9 hgO9 (by decide)) (.slice A9 (o.length + 1) c9)
          obtain ⟨w10, hw10⟩ : ∃ x, w9.setCell ⟨gO, 0, none⟩ (.slice A9 (o.length + 1) c9) = x := ⟨_, rfl⟩
          rw [hw10] at hgG10 hgI10 hgR10 hgO10 hb10 ho10 ⊢
          clear hw10 BO9 l9 hb9 hgO9 hgR9 hgI9 hgG9 hst hst9 ho9
          have l10 := later hb10
          have l1010 : Later w10 w10 := Later.refl
          have hlk : (o ++ [n]).length = o.length + 1 := by simp
          go_wp2_with fail
          go_roundw
          case rel =>
            exact ⟨k + 1, o ++ [n], A9, c9, by omega, by go_num, ho2, blk_below hgG10 below_of, blk_below hgI10 below_of, blk_below hgR10 below_of, by rw [hlk]; exact blk_below hgO10 below_of, by rw [hlk]; exact ho10.below below_of, hb10.trans (below_of.mono hb10.size)⟩
          case measure => simp [intOf]; omega
        · go_simp
          refine hK9.out _ _ (by exact ⟨inferInstance, fun i => ((BG _).2 i).1⟩) (fun hHeld => ?_)
          clear hK9 K9
          (try simp only [Act.put])
          refine wpAnyH_ready (rs := [1]) (by kernel_rfl) (by simp) ?_
          refine AllReadyH.cons (o := _) rfl ?_ AllReadyH.nil
          intro K9 hK9
          go_simp
          refine hK9.out _ _ (by exact ⟨inferInstance, fun i => ((BG _).2 i).1⟩) (fun hHeld => ?_)
          clear hK9 K9
          (try simp only [Act.put])
          refine wpAnyH_ready (rs := [8]) (by kernel_rfl) (by simp) ?_
          refine AllReadyH.cons (o := _) rfl ?_ AllReadyH.nil
          intro K9 hK9
          refine step_app2 (P := Try.prog) rfl (.tmp 24) (.tmp 30) (by rfl) NodeE.enc nodeTW _ _ [n] o (.slice OA o.length OC) (by rfl) (by rfl) (m := 1) (n := o.length + 1) rfl rfl (ho3.later _) (blk_slAt NodeE.enc (fr := (0, 0)) (e := 56) (heap_alloc_new _ _) [n] rfl) (by omega) (by unfold maxLen; omega) (by simp only [heap_drew, World.size_alloc]; omega) ?_
          intro A9 c9 w9 ho9 hm9 hst9
          have hst : Step w3 w9 (.slice OA o.length OC) (.slice A9 (o.length + 1) c9) := Step.trans (Step.of_below (below_of (b := w3))) hst9
          have hgG9 := hst.keep ho3 hgG3 (by decide)
          have hgR9 := hst.keep ho3 hgR3 (by decide)
          have hgI9 := hst.keep ho3 hgI3 (by decide)
          have hgO9 := hst.keep ho3 hgO3 (by decide)
          have hb9 : Below w.heap.size w w9 := hst.below ho3 hb0 hz3
          have l9 := later hb9
          have BO9 := boxed hgO9
          refine hK9.out _ _ (by exact ⟨⟨hb9⟩, fun i => blk_cell hgG9 i⟩) (fun hHeld => ?_)
          clear hK9 K9
          (try simp only [Act.put])
          refine wpAnyH_take (i := 9) (oi := _) (v := ?_) rfl (by kernel_rfl) (by kernel_rfl) (by kernel_rfl) (fun _ _ _ h => h) (Or.inl ⟨by rfl, ?_⟩) (by assumption) ?_
          rotate_left 1
          · (intro wy hSw; (try dsimp only at hSw); obtain ⟨hLw, hSw⟩ := hSw; go_simp; try with_reducible rfl)
          (try simp only [Act.put])
          refine wpAnyH_ready (rs := [10]) (by kernel_rfl) (by simp) ?_
          refine AllReadyH.cons (o := _) rfl ?_ AllReadyH.nil
          intro K9 hK9
          go_simp
          refine hK9.out _ _ (by exact ⟨⟨hb9.setCell (p := ⟨gO, 0, none⟩) hOw _⟩, fun i => blk_cell ((blk_far hOG.symm _).trans hgG9) i⟩) (fun hHeld => ?_)
          clear hK9 K9
          (try simp only [Act.put])
          refine wpAnyH_done (by kernel_rfl) ?_ _
          have hgG10 := (blk_far (p := ⟨gO, 0, none⟩) hOG.symm (.slice A9 (o.length + 1) c9)).trans hgG9
          have hgR10 := (blk_far (p := ⟨gO, 0, none⟩) hOR.symm (.slice A9 (o.length + 1) c9)).trans hgR9
          have hgI10 := (blk_far (p := ⟨gO, 0, none⟩) hOI.symm (.slice A9 (o.length + 1) c9)).trans hgI9
          have hgO10 := blk_set hgO9 0 (.slice A9 (o.length + 1) c9)
          have hb10 := hb9.setCell (p := ⟨gO, 0, none⟩) hOw (.slice A9 (o.length + 1) c9)
          have ho10 := ho9.far (p := ⟨gO, 0, none⟩) (own_off ho9 hgO9 (by decide)) (.slice A9 (o.length + 1) c9)
          obtain ⟨w10, hw10⟩ : ∃ x, w9.setCell ⟨gO, 0, none⟩ (.slice A9 (o.length + 1) c9) = x := ⟨_, rfl⟩
          rw [hw10] at hgG10 hgI10 hgR10 hgO10 hb10 ho10 ⊢
          clear hw10 BO9 l9 hb9 hgO9 hgR9 hgI9 hgG9 hst hst9 ho9
          have l10 := later hb10
          have l1010 : Later w10 w10 := Later.refl
          have hlk : (o ++ [n]).length = o.length + 1 := by simp
          go_wp2_with fail
          go_roundw
          case rel =>
            exact ⟨k + 1, o ++ [n], A9, c9, by omega, by go_num, ho2, blk_below hgG10 below_of, blk_below hgI10 below_of, blk_below hgR10 below_of, by rw [hlk]; exact blk_below hgO10 below_of, by rw [hlk]; exact ho10.below below_of, hb10.trans (below_of.mono hb10.size)⟩
          case measure => simp [intOf]; omega
    · have hk' : k = l.length := by omega
      subst hk'
      have hfin := hide (show o = l.filter (keepX xx) by rw [ho.out, List.take_length])
      clear ho
      have BR := boxed hgR
      go_wp2_with fail
      have rb := blk_cell (blk_set (show wr.heap[w.heap.size + 1 + 1]? = _ from hgR) 0 (.slice OA o.length OC)) 0
      simp at rb
      refine bodyPost_ret (v := .agg #[.slice OA o.length OC]) ?_ rfl ?_
      · simp [results, Try.results28, go_sem, rb]
      · refine ⟨o, OA, OC, hide (by rw [hfin.out, HX.out]), rfl, ?_, ?_⟩
        · exact hown.far (p := ⟨w.heap.size + 1 + 1, 0, none⟩) (own_off hown hgR (by decide)) _
        · exact hbr.setCell (p := ⟨w.heap.size + 1 + 1, 0, none⟩) (show w.heap.size ≤ w.heap.size + 1 + 1 by omega) _
end Go.Proofs.Ytffnogjgnpbjlaa

namespace Go.Proofs.Ytffnogjgnpbjlaa
open Go.RowKit
attribute [local go_sem] Oper.semAt_some
attribute [local simp] heap_drew
theorem wo_nodes {l o : List NodeE} {x : IDE} {A OA : Option Addr} {OC base : Nat} {w u : World} (H : NodesAt w A l) (hu : Below w.heap.size w u) (ho : o = l.filter (keepX x)) (hoo : Own NodeE.cells 5 56 base u (.slice OA o.length OC) o) : NodesAt u OA o :=
  ⟨(hoo.at_ NodeE.enc).2.2, fun n hn => (H.f n (List.mem_filter.1 (ho ▸ hn)).1).below hu, fun n hn => H.c n (List.mem_filter.1 (ho ▸ hn)).1⟩
theorem retL_minI {L : List NodeC} {roots : List IDE} {x : IDE} {q q2 : List IDE} (h : ReachL L roots q) (h2 : ReachL (woN L x) roots q2) : RetL L roots x (minI q q2) := ⟨setI_sorted _, fun y => by rw [minI_mem, h.2, h2.2]; rfl⟩
set_option maxRecDepth 100000 in
set_option maxHeartbeats 4000000 in
theorem refRet_any (A : Option Addr) (c : Nat) (l : List NodeE) (x : IDE) (RA : Option Addr) (rc : Nat) (roots : List IDE) (w : World) (H : NodesAt w A l) (hR : SlAt IDE.cells 2 w RA roots) (hl : l.length ≤ 10000) (hf : ∀ n ∈ l, n.fields.length ≤ 10000) (hr : roots.length ≤ 10000) :
    Calls Try.prog 37 #[.agg #[.slice A l.length c], x.v, .slice RA roots.length rc] w (RetPP (conL l) roots x w) := by
  have HR16 : ∀ u [Later w u], Calls Try.prog 36 #[.agg #[.slice A l.length c], .slice RA roots.length rc] u (ReachPost (conL l) roots u) := fun u i => reach16_any A c l RA rc roots u (H.below i.below) (hR.below i.below) hl hf hr
  have HW : ∀ u [Later w u], Calls Try.prog 28 #[.agg #[.slice A l.length c], x.v] u (WoP l x u) := fun u i => without_any A c l x u (H.below i.below) hl
  have HR2 : ∀ (u : World) [Later w u] (o : List NodeE) (OA : Option Addr) (OC base : Nat), o = l.filter (keepX x) → Own NodeE.cells 5 56 base u (.slice OA o.length OC) o → Calls Try.prog 36 #[.agg #[.slice OA o.length OC], .slice RA roots.length rc] u (ReachPost (woN (conL l) x) roots u) := fun u i o OA OC base ho hoo => by
    have ec : conL o = woN (conL l) x := by rw [ho, woP_con]
    rw [← ec]
    exact reach16_any OA OC o RA rc roots u (wo_nodes H i.below ho hoo) (hR.below i.below) (by rw [ho]; exact Nat.le_trans (List.length_filter_le _ _) hl) (fun n hn => hf n (List.mem_filter.1 (ho ▸ hn)).1) hr
  have hrl : ∀ q L', ReachL L' roots q → L'.length ≤ 10000 → q.length ≤ 1000000 := fun q L' h hL => by
    have := reach_len (l := L') h.1.nodup (fun z hz => firstN_ids.1 ((h.2 z).1 hz).node)
    omega
  have hll : (conL l).length ≤ 10000 := by unfold conL; rw [List.length_map]; exact hl
  have hwl : (woN (conL l) x).length ≤ 10000 := Nat.le_trans (List.length_filter_le _ _) hll
  have HM : ∀ (u : World) (q q2 : List IDE) (QA : Option Addr) (QC : Nat) (QB : Option Addr) (QD : Nat), ReachL (conL l) roots q → ReachL (woN (conL l) x) roots q2 → SlAt IDE.cells 2 u QA q → SlAt IDE.cells 2 u QB q2 → Calls Try.prog 58 #[.slice QA q.length QC, .slice QB q2.length QD] u (MinP q q2 u) := fun u q q2 QA QC QB QD h1 h2 s1 s2 => minus21_any QA QC q QB QD q2 u s1 s2 (hrl _ _ h1 hll) (hrl _ _ h2 hwl)
  obtain ⟨xx, hxx⟩ : ∃ xx, xx = x := ⟨_, rfl⟩
  have Hxx := hide hxx
  rw [← hxx]
  clear hxx
  obtain ⟨x1, x2⟩ := x
  have hxv : xx.v = .agg #[.int .i64 x1, .int .i64 x2] := by rw [Hxx.out]
  rw [hxv]
  clear hxv
  dsimp only [IDE.v] at HW
  go_enter Try.func37, Try.ntmps37
  go_upto_region 1 with fail
  refine wp_name ?_
  intro w1 hw1
  obtain ⟨B0, B1, l1⟩ := box2 hw1
  clear hw1
  go_upto_region 2 with (go_at_call 36; refine (HR16 _).mono ?_; rintro r w2 ⟨q, QA, QC, hq, rfl, hoq, hb2⟩; have l2 := later hb2)
  have hql := hrl q _ hq hll
  have hS2 := (hoq.at_ IDE.enc).2.2
  have HH : ∀ u [Later w2 u], Calls Try.prog 24 #[.slice QA q.length QC, .agg #[.int .i64 x1, .int .i64 x2]] u fun r w' => r = .returned (.bool (decide ((⟨x1, x2⟩ : IDE) ∈ q))) ∧ Below u.heap.size u w' := fun u j => has21_any QA QC q ⟨x1, x2⟩ u (hS2.below j.below) (by omega)
  have hbw : Below w.heap.size w w2 := below_of
  clear HR16
  cases hmem : decide ((⟨x1, x2⟩ : IDE) ∈ q) with
  | false =>
    have hnr := hide (show ¬ Reach (conL l) roots xx from fun h => of_decide_eq_false hmem (by rw [← Hxx.out]; exact (hq.2 xx).2 h))
    simp only [hmem] at HH
    clear hmem
    go_wp2_with (go_at_call 24; refine (HH _).mono ?_; rintro r w3 ⟨rfl, hb3⟩; have l3 := later hb3)
    go_ret
    have l23 : Later w w3 := by infer_instance
    exact ⟨[], _, _, rfl, hide ⟨.nil, fun y => ⟨fun h => (by cases h), fun h => absurd h.reach hnr.out⟩⟩, Own.empty_blk l23.below.size (heap_alloc_new _ _), below_of⟩
  | true =>
    simp only [hmem] at HH
    clear hmem
    go_upto_region 4 with (go_at_call 24; refine (HH _).mono ?_; rintro r w3 ⟨rfl, hb3⟩; have l3 := later hb3)
    have Hq := hide hq
    clear hq
    go_wp2_with (first | (go_at_call 28; refine (HW _).mono ?_; rintro r w4 ⟨o, OA, OC, ho, rfl, hoo, hb4⟩; have l4 := later hb4) | (go_at_call 36; refine (HR2 _ _ _ _ _ ho.out hoo).mono ?_; rintro r w5 ⟨q2, QB, QD, hq2, rfl, hoq2, hb5⟩; have Hq2 := hide hq2; clear hq2; have l5 := later hb5) | (go_at_call 58; refine (HM _ _ _ _ _ _ _ Hq.out Hq2.out (hS2.below (show Later w2 _ from inferInstance).below) (hoq2.at_ IDE.enc).2.2).mono ?_; rintro r w6 ⟨q3, QE, QF, hq3, rfl, hoq3, hb6⟩; have l6 := later hb6))
    go_ret
    have l56 : Later w w5 := by infer_instance
    exact ⟨q3, QE, QF, rfl, hide (by rw [hq3.out, Hxx.out]; exact retL_minI Hq.out Hq2.out), hoq3.mono l56.below.size, below_of⟩
set_option maxRecDepth 100000 in
set_option maxHeartbeats 4000000 in
theorem refWords_any (A : Option Addr) (c : Nat) (l : List NodeE) (IA : Option Addr) (ic : Nat) (ids : List IDE) (w : World) (H : NodesAt w A l) (hI : SlAt IDE.cells 2 w IA ids) (hl : l.length ≤ 10000) (hf : ∀ n ∈ l, n.fields.length ≤ 10000) (hi : ids.length ≤ 10000) :
    Calls Try.prog 21 #[.agg #[.slice A l.length c], .slice IA ids.length ic] w (WorP (conL l) ids w) := by
  have HF : ∀ (x : IDE) (u : World) [Later w u], Calls Try.prog 30 #[.agg #[.slice A l.length c], x.v] u (Find16Post l x u) := fun x u j => find16_any A c l x u (H.below j.below) (by omega)
  have HS : ∀ u [Later w u], Calls Try.prog 29 #[.slice IA ids.length ic] u (SetIPost ids u) := fun u j => set21_any IA ic ids u (hI.below j.below) (by omega)
  go_enter Try.func21, Try.ntmps21
  go_upto_region 1 with fail
  refine wp_name ?_
  intro w1 hw1
  obtain ⟨B0, l1⟩ := box1 hw1
  clear hw1
  go_upto_region 3 with (go_at_call 29; refine (HS _).mono ?_; rintro r w2 ⟨q, QA, QC, hq, rfl, hoq, hb2⟩; have l2 := later hb2)
  have hql : q.length ≤ 10000 := by rw [hq.out]; exact Nat.le_trans (setI_len ids) hi
  go_wp2_with fail
  go_loopw [5, 6] (fun sv kv wr => ∃ (k : Nat) (s : Int), k ≤ q.length ∧ kv = .int .i64 k ∧ sv = .int .i64 s ∧ Hid (s = sumW (conL l) (q.take k)) ∧ Below w2.heap.size w2 wr) (fun _ kv _ => q.length - (intOf kv).toNat)
  case atStart => exact ⟨0, 0, by omega, rfl, rfl, hide rfl, Below.refl _ _⟩
  case round =>
    obtain ⟨k, s, hk, rfl, rfl, hs, hbr⟩ := hrel
    have lr := later hbr
    have lrr : Later wr wr := Later.refl
    have lw : Later w wr := by infer_instance
    have hsb : 0 ≤ s ∧ s ≤ 100020000 := by rw [hs.out]; exact sumW_bnd (conL_bnd hf) (by rw [List.length_take]; omega)
    obtain ⟨hs0, hs1⟩ := hsb
    by_cases hlt : k < q.length
    · have hki : (k : Int) < (q.length : Int) := by omega
      obtain ⟨y, hy⟩ : ∃ y, q[k]? = some y := ⟨_, List.getElem?_eq_getElem hlt⟩
      obtain ⟨b9, o9, rfl, C1, C2⟩ := id_at ((hoq.at_ IDE.enc).2.2) hy
      have hsn := hide (show sumW (conL l) (q.take (k + 1)) = s + wordsI (conL l) y by rw [take_snoc_get hy, sumW_snoc, ← hs.out])
      have HFy := fun (u : World) (j : Later w u) => HF y u
      unfold Find16Post at HFy
      clear hy
      obtain ⟨mm, hmm⟩ : ∃ m, m = (firstE l y).getD zeroN := ⟨_, rfl⟩
      obtain ⟨ok, hok⟩ : ∃ b, b = (firstE l y).isSome := ⟨_, rfl⟩
      rw [← hmm, ← hok] at HFy
      have hw0 := hide (show ok = false → wordsI (conL l) y = 0 from fun h => by
        rw [hok] at h
        unfold wordsI
        rw [firstE_N]
        cases hfx : firstE l y with
        | none => rfl
        | some m => rw [hfx] at h; cases h)
      have hw1 := hide (show ok = true → wordsI (conL l) y = 2 + max 2 (mm.fields.length : Int) ∧ mm.fields.length ≤ 10000 from fun h => by
        rw [hok] at h
        unfold wordsI
        rw [firstE_N, hmm]
        cases hfx : firstE l y with
        | none => rw [hfx] at h; cases h
        | some m => exact ⟨by simp [wordsN, NodeE.con], hf m (firstE_some hfx).1⟩)
      clear hmm hok
      obtain ⟨y1, y2⟩ := y
      obtain ⟨m1, m2, mk, mc, mA, mp, mf⟩ := mm
      dsimp only at C1 C2 HFy
      dsimp only [NodeE.v] at HFy
      go_upto_region 6 with fail
      refine wp_region_held_drew (S := fun w' => ∀ b [Later b wr], Later b w') (by kernel_rfl) (fun b _ => inferInstance) (fun hHeld => ?_)
      have hdr : ∀ b [Later b wr], Later b wr.drew := fun b _ => inferInstance
      obtain ⟨wz, hwz⟩ : ∃ z, z = wr.drew := ⟨_, rfl⟩
      rw [← hwz] at hHeld hdr ⊢
      clear hwz
      have lz := hdr wr
      refine wpAnyH_take (i := 0) (oi := _) (v := ?_) rfl (by kernel_rfl) (by kernel_rfl) (by kernel_rfl) (fun _ _ _ h => h) (Or.inl ⟨by rfl, ?_⟩) (by assumption) ?_
      rotate_left 1
      · (intro wy hSw; (try dsimp only at hSw); go_simp; try with_reducible rfl)
      (try simp only [Act.put, List.getElem_toArray, List.getElem_cons_succ, List.getElem_cons_zero, List.setIfInBounds_toArray, List.set_cons_zero, List.set_cons_succ])
      refine wpAnyH_take (i := 1) (oi := _) (v := ?_) rfl (by kernel_rfl) (by kernel_rfl) (by kernel_rfl) (fun _ _ _ h => h) (Or.inl ⟨by rfl, ?_⟩) (by assumption) ?_
      rotate_left 1
      · (intro wy hSw; (try dsimp only at hSw); go_simp; try with_reducible rfl)
      (try simp only [Act.put, List.getElem_toArray, List.getElem_cons_succ, List.getElem_cons_zero, List.setIfInBounds_toArray, List.set_cons_zero, List.set_cons_succ])
      refine wpAnyH_take (i := 2) (oi := _) (v := ?_) rfl (by kernel_rfl) (by kernel_rfl) (by kernel_rfl) (fun _ _ _ h => h) (Or.inl ⟨by rfl, ?_⟩) (by assumption) ?_
      rotate_left 1
      · (intro wy hSw; (try dsimp only at hSw); go_simp; try with_reducible rfl)
      (try simp only [Act.put, List.getElem_toArray, List.getElem_cons_succ, List.getElem_cons_zero, List.setIfInBounds_toArray, List.set_cons_zero, List.set_cons_succ])
      refine wpAnyH_take (i := 3) (oi := _) (v := ?_) rfl (by kernel_rfl) (by kernel_rfl) (by kernel_rfl) (fun _ _ _ h => h) (Or.inl ⟨by rfl, ?_⟩) (by assumption) ?_
      rotate_left 1
      · (intro wy hSw; (try dsimp only at hSw); go_simp; try with_reducible rfl)
      (try simp only [Act.put, List.getElem_toArray, List.getElem_cons_succ, List.getElem_cons_zero, List.setIfInBounds_toArray, List.set_cons_zero, List.set_cons_succ])
      refine wpAnyH_take (i := 4) (oi := _) (v := ?_) rfl (by kernel_rfl) (by kernel_rfl) (by kernel_rfl) (fun _ _ _ h => h) (Or.inl ⟨by rfl, ?_⟩) (by assumption) ?_
      rotate_left 1
      · (intro wy hSw; (try dsimp only at hSw); go_simp; try with_reducible rfl)
      (try simp only [Act.put, List.getElem_toArray, List.getElem_cons_succ, List.getElem_cons_zero, List.setIfInBounds_toArray, List.set_cons_zero, List.set_cons_succ])
      apply by_final2
      · intro final
        refine wpAnyH_ready (rs := [5, 9]) (by kernel_rfl) (by simp) ?_
        refine AllReadyH.cons (o := _) rfl ?_ (AllReadyH.cons (o := _) rfl ?_ AllReadyH.nil)
        · intro K9 hK9
          go_simp
          refine (HFy wz inferInstance).mono ?_
          rintro r w5 ⟨rfl, hb5⟩
          have l5 := later hb5
          (try dsimp only)
          refine hK9.out _ _ (fun b _ => inferInstance) (fun hHeld => ?_)
          clear hK9 K9
          (try simp only [Act.put, List.getElem_toArray, List.getElem_cons_succ, List.getElem_cons_zero, List.setIfInBounds_toArray, List.set_cons_zero, List.set_cons_succ])
          refine wpAnyH_take (i := 6) (oi := _) (v := ?_) rfl (by kernel_rfl) (by kernel_rfl) (by kernel_rfl) (fun _ _ _ h => h) (Or.inl ⟨by rfl, ?_⟩) (by assumption) ?_
          rotate_left 1
          · (intro wy hSw; (try dsimp only at hSw); go_simp; try with_reducible rfl)
          (try simp only [Act.put, List.getElem_toArray, List.getElem_cons_succ, List.getElem_cons_zero, List.setIfInBounds_toArray, List.set_cons_zero, List.set_cons_succ])
          refine wpAnyH_take (i := 7) (oi := _) (v := ?_) rfl (by kernel_rfl) (by kernel_rfl) (by kernel_rfl) (fun _ _ _ h => h) (Or.inl ⟨by rfl, ?_⟩) (by assumption) ?_
          rotate_left 1
          · (intro wy hSw; (try dsimp only at hSw); go_simp; try with_reducible rfl)
          (try simp only [Act.put, List.getElem_toArray, List.getElem_cons_succ, List.getElem_cons_zero, List.setIfInBounds_toArray, List.set_cons_zero, List.set_cons_succ])
          refine wpAnyH_take (i := 8) (oi := _) (v := ?_) rfl (by kernel_rfl) (by kernel_rfl) (by kernel_rfl) (fun _ _ _ h => h) (Or.inl ⟨by rfl, ?_⟩) (by assumption) ?_
          rotate_left 1
          · (intro wy hSw; (try dsimp only at hSw); go_simp; try with_reducible rfl)
          (try simp only [Act.put, List.getElem_toArray, List.getElem_cons_succ, List.getElem_cons_zero, List.setIfInBounds_toArray, List.set_cons_zero, List.set_cons_succ])
          refine wpAnyH_ready (rs := [9]) (by kernel_rfl) (by simp) ?_
          refine AllReadyH.cons (o := _) rfl ?_ AllReadyH.nil
          intro K9 hK9
          go_simp
          refine hK9.out _ _ (fun b _ => inferInstance) (fun hHeld2 => ?_)
          clear hK9 K9
          (try simp only [Act.put, List.getElem_toArray, List.getElem_cons_succ, List.getElem_cons_zero, List.setIfInBounds_toArray, List.set_cons_zero, List.set_cons_succ])
          refine wpAnyH_cast (l' := #[true, true, true, true, true, true, true, true, true, true, false, false]) (by kernel_rfl) ?_
          have lw9 : Later wr (w5.alloc (.cells #[.int .i64 0, .int .i64 0, .int .i64 0, .int .i64 0, .slice none 0 0] 56 (0, 0))) := inferInstance
          have kg : (w5.alloc (.cells #[.int .i64 0, .int .i64 0, .int .i64 0, .int .i64 0, .slice none 0 0] 56 (0, 0))).heap[w5.heap.size]? = some (.cells #[.int .i64 0, .int .i64 0, .int .i64 0, .int .i64 0, .slice none 0 0] 56 (0, 0)) := heap_alloc_new _ _
          have hgw : wr.heap.size ≤ w5.heap.size := (show Later wr w5 from inferInstance).below.size
          generalize w5.alloc (.cells #[.int .i64 0, .int .i64 0, .int .i64 0, .int .i64 0, .slice none 0 0] 56 (0, 0)) = wn at lw9 kg ⊢
          generalize w5.heap.size = g at kg hgw ⊢
          clear hHeld hHeld2
          revert hgw
          revert kg
          revert lw9
          revert wn
          revert g
          exact final ()
        · intro K9 hK9
          go_simp
          refine hK9.out _ _ (fun b _ => inferInstance) (fun hHeld => ?_)
          clear hK9 K9
          (try simp only [Act.put, List.getElem_toArray, List.getElem_cons_succ, List.getElem_cons_zero, List.setIfInBounds_toArray, List.set_cons_zero, List.set_cons_succ])
          have hgw : wr.heap.size ≤ wz.heap.size := lz.below.size
          have kg : (wz.alloc (.cells #[.int .i64 0, .int .i64 0, .int .i64 0, .int .i64 0, .slice none 0 0] 56 (0, 0))).heap[wz.heap.size]? = some (.cells #[.int .i64 0, .int .i64 0, .int .i64 0, .int .i64 0, .slice none 0 0] 56 (0, 0)) := heap_alloc_new _ _
          refine wpAnyH_ready (rs := [5]) (by kernel_rfl) (by simp) ?_
          refine AllReadyH.cons (o := _) rfl ?_ AllReadyH.nil
          intro K9 hK9
          go_simp
          refine (HFy _ inferInstance).mono ?_
          rintro r w5 ⟨rfl, hb5⟩
          have l5 := later hb5
          replace kg := blk_below kg hb5
          (try dsimp only)
          refine hK9.out _ _ (fun b _ => inferInstance) (fun hHeld2 => ?_)
          clear hK9 K9
          (try simp only [Act.put, List.getElem_toArray, List.getElem_cons_succ, List.getElem_cons_zero, List.setIfInBounds_toArray, List.set_cons_zero, List.set_cons_succ])
          refine wpAnyH_take (i := 6) (oi := _) (v := ?_) rfl (by kernel_rfl) (by kernel_rfl) (by kernel_rfl) (fun _ _ _ h => h) (Or.inl ⟨by rfl, ?_⟩) (by assumption) ?_
          rotate_left 1
          · (intro wy hSw; (try dsimp only at hSw); go_simp; try with_reducible rfl)
          (try simp only [Act.put, List.getElem_toArray, List.getElem_cons_succ, List.getElem_cons_zero, List.setIfInBounds_toArray, List.set_cons_zero, List.set_cons_succ])
          refine wpAnyH_take (i := 7) (oi := _) (v := ?_) rfl (by kernel_rfl) (by kernel_rfl) (by kernel_rfl) (fun _ _ _ h => h) (Or.inl ⟨by rfl, ?_⟩) (by assumption) ?_
          rotate_left 1
          · (intro wy hSw; (try dsimp only at hSw); go_simp; try with_reducible rfl)
          (try simp only [Act.put, List.getElem_toArray, List.getElem_cons_succ, List.getElem_cons_zero, List.setIfInBounds_toArray, List.set_cons_zero, List.set_cons_succ])
          refine wpAnyH_take (i := 8) (oi := _) (v := ?_) rfl (by kernel_rfl) (by kernel_rfl) (by kernel_rfl) (fun _ _ _ h => h) (Or.inl ⟨by rfl, ?_⟩) (by assumption) ?_
          rotate_left 1
          · (intro wy hSw; (try dsimp only at hSw); go_simp; try with_reducible rfl)
          (try simp only [Act.put, List.getElem_toArray, List.getElem_cons_succ, List.getElem_cons_zero, List.setIfInBounds_toArray, List.set_cons_zero, List.set_cons_succ])
          refine wpAnyH_cast (l' := #[true, true, true, true, true, true, true, true, true, true, false, false]) (by kernel_rfl) ?_
          have lw9 : Later wr w5 := inferInstance
          clear hHeld hHeld2 l5 hb5
          generalize wz.heap.size = g at kg hgw ⊢
          revert hgw
          revert kg
          revert lw9
          revert w5
          revert g
          exact final ()
      · clear hHeld hdr lz wz
        intro g wz lz kg hgw
        have Xg := boxed kg
        refine wpAnyH_ready (rs := [10]) (by kernel_rfl) (by simp) ?_
        refine AllReadyH.cons (o := _) rfl ?_ AllReadyH.nil
        intro K9 hK9
        go_simp
        have h8 := blk_set (blk_set (blk_set (blk_set (blk_set kg 0 (.int .i64 m1)) 1 (.int .i64 m2)) 2 (.int .i64 mk)) 3 (.int .i64 mc)) 4 (.slice mA mf.length mp)
        simp only [List.setIfInBounds_toArray, List.set_cons_zero, List.set_cons_succ] at h8
        have hb8 := ((((lz.below.setCell (p := ⟨g, 0, none⟩) hgw (.int .i64 m1)).setCell (p := ⟨g, 1, none⟩) hgw (.int .i64 m2)).setCell (p := ⟨g, 2, none⟩) hgw (.int .i64 mk)).setCell (p := ⟨g, 3, none⟩) hgw (.int .i64 mc)).setCell (p := ⟨g, 4, none⟩) hgw (.slice mA mf.length mp)
        generalize ((((wz.setCell ⟨g, 0, none⟩ (.int .i64 m1)).setCell ⟨g, 1, none⟩ (.int .i64 m2)).setCell ⟨g, 2, none⟩ (.int .i64 mk)).setCell ⟨g, 3, none⟩ (.int .i64 mc)).setCell ⟨g, 4, none⟩ (.slice mA mf.length mp) = w8 at h8 hb8 ⊢
        have l8 := later hb8
        refine hK9.out _ _ (fun b _ => inferInstance) (fun hHeld => ?_)
        clear hK9 K9 Xg kg lz
        (try simp only [Act.put, List.getElem_toArray, List.getElem_cons_succ, List.getElem_cons_zero, List.setIfInBounds_toArray, List.set_cons_zero, List.set_cons_succ])
        refine wpAnyH_take (i := 11) (oi := _) (v := ?_) rfl (by kernel_rfl) (by kernel_rfl) (by kernel_rfl) (fun _ _ _ h => h) (Or.inl ⟨by rfl, ?_⟩) (by assumption) ?_
        rotate_left 1
        · (intro wy hSw; (try dsimp only at hSw); go_simp; try with_reducible rfl)
        (try simp only [Act.put, List.getElem_toArray, List.getElem_cons_succ, List.getElem_cons_zero, List.setIfInBounds_toArray, List.set_cons_zero, List.set_cons_succ])
        refine wpAnyH_done (by kernel_rfl) ?_ _
        have X8 := boxed h8
        have l88 : Later w8 w8 := Later.refl
        clear hHeld HFy
        cases ok with
        | false =>
          have e0 := hide (hw0.out rfl)
          go_wp2_with fail
          go_roundw
          case rel => exact ⟨k + 1, s, by omega, by go_num, rfl, hide (by rw [hsn.out, e0.out, Int.add_zero]), hbr.trans (hb8.mono hbr.size)⟩
          case measure => simp [intOf]; omega
        | true =>
          obtain ⟨h1, e2⟩ := hw1.out rfl
          dsimp only at h1 e2
          have e1 := hide h1
          clear h1
          go_wp2_with fail
          go_roundw
          case rel => exact ⟨k + 1, s + 2 + max 2 (mf.length : Int), by omega, by go_num, by first | rfl | (congr 1; rw [IntKind.wrap_i64]; omega), hide (by rw [hsn.out, e1.out]; omega), hbr.trans (hb8.mono hbr.size)⟩
          case measure => simp [intOf]; omega
    · have hkk : k = q.length := by omega
      subst hkk
      go_wp2_with fail
      go_ret
      exact ⟨s, rfl, hide (by rw [hs.out, List.take_length, hq.out]), below_of⟩
end Go.Proofs.Ytffnogjgnpbjlaa
