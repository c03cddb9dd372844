/-
  Contracts of the functions of this seat that each theorem names: what a call returns, and that it writes nothing that was there before. The conditions stand in each theorem.
-/
import Derived.Test.YtnfpbkimdhhmfaaGWalk2
import Derived.Test.YtnfpbkimdhhmfaaOwnLib
namespace Go.Proofs.Ytnfpbkimdhhmfaa
open Go.RowKit
attribute [local go_sem ↓] run_eql_id run_neq_id
attribute [local simp] heap_drew
theorem nodeT : ElemT Try.prog 22 64 5 56 := ElemT.mk' (z := .agg #[.int .i64 0, .int .i64 0, .int .i64 0, .int .i64 0, .slice none 0 0]) Try.underlying22 (by kernel_rfl) rfl
def keepE (ks : List IDE) (n : NodeE) : Bool := decide (n.id ∈ ks)
def RestrPost (l : List NodeE) (ks : List IDE) (w : World) (r : Ending) (w' : World) : Prop := ∃ o OA OC, Hid (o = l.filter (keepE ks)) ∧ r = .returned (.agg #[.slice OA o.length OC]) ∧ Own NodeE.cells 5 64 w.heap.size w' (.slice OA o.length OC) o ∧ Below w.heap.size w w'
theorem filter_take_succ {α : Type} {p : α → Bool} {l : List α} {k : Nat} {x : α} (h : l[k]? = some x) : (l.take (k + 1)).filter p = (l.take k).filter p ++ if p x then [x] else [] := by
  rw [take_snoc_get h, List.filter_append]
  cases hx : p x <;> simp [hx]
theorem filter_take_len {α : Type} {p : α → Bool} {l : List α} {k : Nat} : ((l.take k).filter p).length ≤ l.length := Nat.le_trans (List.length_filter_le _ _) (by rw [List.length_take]; omega)
set_option maxRecDepth 100000 in
set_option maxHeartbeats 8000000 in
theorem restrict_any (A : Option Addr) (c : Nat) (l : List NodeE) (KA : Option Addr) (kc : Nat) (ks : List IDE) (w : World) (H : NodesAt w A l) (hK : SlAt IDE.cells 2 w KA ks) (hl : l.length ≤ 10000) (hkl : ks.length ≤ 1000000) :
    Calls Try.prog 22 #[.agg #[.slice A l.length c], .slice KA ks.length kc] w (RestrPost l ks w) := by
  have HL := H.later
  have HK : ∀ u [Later w u], SlAt IDE.cells 2 u KA ks := fun u i => hK.below i.below
  have HH : ∀ (x : IDE) (u : World) [Later w u], Calls Try.prog 38 #[.slice KA ks.length kc, .agg #[.int .i64 x.machine, .int .i64 x.serial]] u fun r w' => r = .returned (.bool (decide (x ∈ ks))) ∧ Below u.heap.size u w' := fun x u j => hasID_any KA kc ks x u (HK u) (by omega)
  go_enter Try.func22, Try.ntmps22
  go_upto_region 1 with fail
  refine wp_name ?_
  intro w0 hw0
  have g0 : w0.heap[w.heap.size]? = some (.cells #[.slice A l.length c] 24 (0, 0)) := (by rw [← hw0]; simp only [heap_alloc_if, World.size_alloc]; repeat (first | rw [if_pos trivial] | rw [if_neg (by omega)] | rw [if_pos (by omega)]); try rfl)
  have r0 : w0.heap[w.heap.size + 1]? = some (.cells #[.slice none 0 0] 24 (0, 0)) := (by rw [← hw0]; simp only [heap_alloc_if, World.size_alloc]; repeat (first | rw [if_pos trivial] | rw [if_neg (by omega)] | rw [if_pos (by omega)]); try rfl)
  have hb0 : Below w.heap.size w w0 := by rw [← hw0]; exact below_of
  have hz0 : w0.heap.size = w.heap.size + 1 + 1 := by rw [← hw0]; simp
  clear hw0
  have l0 := later hb0
  have l00 : Later w0 w0 := Later.refl
  go_upto_region 2 with fail
  refine wp_name ?_
  intro w1 hw1
  have hb01 : Below w0.heap.size w0 w1 := by rw [← hw1]; exact (by repeat (first | with_reducible exact Below.refl _ _ | (with_reducible refine Below.drew ?_) | (with_reducible refine below_drewN ?_ _) | (with_reducible refine Below.alloc ?_ ?_ _; rotate_left; (first | omega | (simp <;> omega))) | (with_reducible refine Below.setCell ?_ ?_ _; rotate_left; (first | omega | (simp <;> omega)))))
  have o1 : w1.heap[w0.heap.size]? = some (.cells #[.slice none 0 0] 24 (0, 0)) := by rw [← hw1]; exact heap_alloc_new w0 _
  have g1 := blk_below g0 hb01
  have r1 := blk_below r0 hb01
  have hb1 : Below w.heap.size w w1 := hb0.trans (hb01.mono hb0.size)
  clear hw1 l0 l00
  have l1 := later hb1
  rw [hz0] at o1
  clear hz0 g0 r0 hb0 hb01
  obtain ⟨gO, hgO⟩ : ∃ gO, gO = w.heap.size + 1 + 1 := ⟨_, rfl⟩
  rw [← hgO] at o1 ⊢
  have hOG : gO ≠ w.heap.size := by omega
  have hOR : gO ≠ w.heap.size + 1 := by omega
  have hOw : w.heap.size ≤ gO := by omega
  clear hgO
  go_wp2_with fail
  go_loopw [6] (fun iv wr => ∃ (k : Nat) (o : List NodeE) (OA : Option Addr) (OC : Nat), k ≤ l.length ∧ iv = .int .i64 k ∧ Hid (o = (l.take k).filter (keepE ks)) ∧ wr.heap[w.heap.size]? = some (.cells #[.slice A l.length c] 24 (0, 0)) ∧ wr.heap[w.heap.size + 1]? = some (.cells #[.slice none 0 0] 24 (0, 0)) ∧ wr.heap[gO]? = some (.cells #[.slice OA o.length OC] 24 (0, 0)) ∧ Own NodeE.cells 5 64 w.heap.size wr (.slice OA o.length OC) o ∧ Below w.heap.size w wr) (fun iv _ => l.length - (intOf iv).toNat)
  case atStart => exact ⟨0, [], none, 0, by omega, rfl, hide rfl, g1, r1, o1, Own.nil, hb1⟩
  case round =>
    clear g1 r1 o1 hb1 l1
    obtain ⟨k, o, OA, OC, hk, rfl, ho, hgG, hgR, hgO, hown, hbr⟩ := hrel
    have lr := later hbr
    have lrr : Later wr wr := Later.refl
    have BG := boxed hgG
    have BO := boxed hgO
    have hol : o.length ≤ 10000 := by rw [ho.out]; exact Nat.le_trans filter_take_len hl
    by_cases hlt : k < l.length
    · have hki : (k : Int) < (l.length : Int) := by omega
      obtain ⟨b1, o1, n, rfl, hn, C1, F1, hf1, hf2⟩ := H.get hlt
      have HHn := fun (u : World) (i : Later w u) => HH n.id u
      unfold NodeE.id at HHn
      have hfs := hide (filter_take_succ (p := keepE ks) hn)
      clear hn F1
      cases hmem : decide (n.id ∈ ks)
      · have ho2 := hide (show o = (l.take (k + 1)).filter (keepE ks) by rw [hfs.out, ho.out]; unfold keepE; rw [hmem]; simp)
        unfold NodeE.id at hmem
        simp only [hmem] at HHn
        clear hmem ho
        go_wp2_with (go_at_call 38; refine (HHn _ inferInstance).mono ?_; rintro r w2 ⟨rfl, hb2⟩; have l2 := later hb2)
        go_roundw
        case rel =>
          have hbx : Below wr.heap.size wr w2 := below_of
          exact ⟨k + 1, o, OA, OC, by omega, by go_num, ho2, blk_below hgG below_of, blk_below hgR below_of, blk_below hgO below_of, hown.below below_of, below_of⟩
        case measure => simp [intOf]; omega
      · have ho2 := hide (show o ++ [n] = (l.take (k + 1)).filter (keepE ks) by rw [hfs.out, ho.out]; unfold keepE; rw [hmem]; rfl)
        unfold NodeE.id at hmem
        simp only [hmem] at HHn
        clear hmem ho
        go_upto_region 6 with (go_at_call 38; refine (HHn _ inferInstance).mono ?_; rintro r w2 ⟨rfl, hb2⟩; have l2 := later hb2)
        refine wp_name ?_
        intro w3 hw3
        have hb3 : Below wr.heap.size wr w3 := by rw [← hw3]; exact below_of
        clear hw3 hb2 l2
        have hgG3 := blk_below hgG hb3
        have hgR3 := blk_below hgR hb3
        have hgO3 := blk_below hgO hb3
        have ho3 := hown.below hb3
        have hbw3 : Below w.heap.size w w3 := hbr.trans (hb3.mono hbr.size)
        have hz3 := hbw3.size
        clear hgG hgR hgO hown BG BO lr lrr hb3 hbr
        have l3 := later hbw3
        have l33 : Later w3 w3 := Later.refl
        have BG := boxed hgG3
        have BO := boxed hgO3
        have hb0 : Below w.heap.size w w3 := hbw3
        refine wp_region_held_drew (S := fun w' => Later w w' ∧ ∀ i : Nat, w'.cell? ⟨w.heap.size, i, none⟩ = (#[.slice (some ⟨b1, o1, none⟩) l.length c] : Array Value)[i]?) (by kernel_rfl) ⟨inferInstance, fun i => ((BG w3).2 i).1⟩ (fun hHeld => ?_)
        refine wpAnyH_take (i := 0) (oi := _) (v := ?_) rfl (by kernel_rfl) (by kernel_rfl) (by kernel_rfl) (fun _ _ _ h => h) (Or.inl ⟨by rfl, ?_⟩) (by assumption) ?_
        rotate_left 1
        · (intro wy hSw; (try dsimp only at hSw); obtain ⟨hLw, hSw⟩ := hSw; go_simp; try with_reducible rfl)
        (try simp only [Act.put])
        refine wpAnyH_take (i := 2) (oi := _) (v := ?_) rfl (by kernel_rfl) (by kernel_rfl) (by kernel_rfl) (fun _ _ _ h => h) (Or.inl ⟨by rfl, ?_⟩) (by assumption) ?_
        rotate_left 1
        · (intro wy hSw; (try dsimp only at hSw); obtain ⟨hLw, hSw⟩ := hSw; go_simp; try with_reducible rfl)
        (try simp only [Act.put])
        refine wpAnyH_take (i := 3) (oi := _) (v := ?_) rfl (by kernel_rfl) (by kernel_rfl) (by kernel_rfl) (fun _ _ _ h => h) (Or.inl ⟨by rfl, ?_⟩) (by assumption) ?_
        rotate_left 1
        · (intro wy hSw; (try dsimp only at hSw); obtain ⟨hLw, hSw⟩ := hSw; go_simp; try with_reducible rfl)
        (try simp only [Act.put])
        refine wpAnyH_take (i := 4) (oi := _) (v := ?_) rfl (by kernel_rfl) (by kernel_rfl) (by kernel_rfl) (fun _ _ _ h => h) (Or.inl ⟨by rfl, ?_⟩) (by assumption) ?_
        rotate_left 1
        · (intro wy hSw; (try dsimp only at hSw); obtain ⟨hLw, hSw⟩ := hSw; go_simp; try with_reducible rfl)
        (try simp only [Act.put])
        refine wpAnyH_take (i := 5) (oi := _) (v := ?_) rfl (by kernel_rfl) (by kernel_rfl) (by kernel_rfl) (fun _ _ _ h => h) (Or.inl ⟨by rfl, ?_⟩) (by assumption) ?_
        rotate_left 1
        · (intro wy hSw; (try dsimp only at hSw); obtain ⟨hLw, hSw⟩ := hSw; go_simp; try with_reducible rfl)
        (try simp only [Act.put])
        refine wpAnyH_take (i := 6) (oi := _) (v := ?_) rfl (by kernel_rfl) (by kernel_rfl) (by kernel_rfl) (fun _ _ _ h => h) (Or.inl ⟨by rfl, ?_⟩) (by assumption) ?_
        rotate_left 1
        · (intro wy hSw; (try dsimp only at hSw); obtain ⟨hLw, hSw⟩ := hSw; go_simp; try with_reducible rfl)
        (try simp only [Act.put])
        refine wpAnyH_ready (rs := [1, 7]) (by kernel_rfl) (by simp) ?_
        refine AllReadyH.cons (o := _) rfl (fun K9 hK9 => ?_) (AllReadyH.cons (o := _) rfl (fun K9 hK9 => ?_) AllReadyH.nil)
        · go_simp
          refine hK9.out _ _ (by exact ⟨inferInstance, fun i => ((BG _).2 i).1⟩) (fun hHeld => ?_)
          clear hK9 K9
          (try simp only [Act.put])
          refine wpAnyH_ready (rs := [7]) (by kernel_rfl) (by simp) ?_
          refine AllReadyH.cons (o := _) rfl (fun K9 hK9 => ?_) AllReadyH.nil
          go_simp
          refine hK9.out _ _ (by exact ⟨inferInstance, fun i => ((BG _).2 i).1⟩) (fun hHeld => ?_)
          clear hK9 K9
          (try simp only [Act.put])
          refine wpAnyH_ready (rs := [8]) (by kernel_rfl) (by simp) ?_
          refine AllReadyH.cons (o := _) rfl (fun K9 hK9 => ?_) AllReadyH.nil
          refine step_app2 (P := Try.prog) rfl (.tmp 24) (.tmp 30) (by rfl) NodeE.enc nodeT _ _ [n] o (.slice OA o.length OC) (by rfl) (by rfl) (m := 1) (n := o.length + 1) rfl rfl (ho3.later _) (blk_slAt NodeE.enc (fr := (0, 0)) (e := 64) (heap_alloc_new _ _) [n] rfl) (by omega) (by unfold maxLen; omega) (by simp only [heap_drew, World.size_alloc]; omega) ?_
          intro A9 c9 w9 ho9 hm9 hst9
          have hst : Step w3 w9 (.slice OA o.length OC) (.slice A9 (o.length + 1) c9) := Step.trans (Step.of_below (below_of (b := w3))) hst9
          have hgG9 := hst.keep ho3 hgG3 (by decide)
          have hgR9 := hst.keep ho3 hgR3 (by decide)
          have hgO9 := hst.keep ho3 hgO3 (by decide)
          have hb9 : Below w.heap.size w w9 := hst.below ho3 hb0 hz3
          have l9 := later hb9
          have BO9 := boxed hgO9
          refine hK9.out _ _ (by exact ⟨⟨hb9⟩, fun i => blk_cell hgG9 i⟩) (fun hHeld => ?_)
          clear hK9 K9
          (try simp only [Act.put])
          refine wpAnyH_take (i := 9) (oi := _) (v := ?_) rfl (by kernel_rfl) (by kernel_rfl) (by kernel_rfl) (fun _ _ _ h => h) (Or.inl ⟨by rfl, ?_⟩) (by assumption) ?_
          rotate_left 1
          · (intro wy hSw; (try dsimp only at hSw); obtain ⟨hLw, hSw⟩ := hSw; go_simp; try with_reducible rfl)
          (try simp only [Act.put])
          refine wpAnyH_ready (rs := [10]) (by kernel_rfl) (by simp) ?_
          refine AllReadyH.cons (o := _) rfl (fun K9 hK9 => ?_) AllReadyH.nil
          go_simp
          refine hK9.out _ _ (by exact ⟨⟨hb9.setCell (p := ⟨gO, 0, none⟩) hOw _⟩, fun i => blk_cell ((blk_far hOG.symm _).trans hgG9) i⟩) (fun hHeld => ?_)
          clear hK9 K9
          (try simp only [Act.put])
          refine wpAnyH_done (by kernel_rfl) ?_ _
          have hgG10 := (blk_far (p := ⟨gO, 0, none⟩) hOG.symm (.slice A9 (o.length + 1) c9)).trans hgG9
          have hgR10 := (blk_far (p := ⟨gO, 0, none⟩) hOR.symm (.slice A9 (o.length + 1) c9)).trans hgR9
          have hgO10 := blk_set hgO9 0 (.slice A9 (o.length + 1) c9)
          have hb10 := hb9.setCell (p := ⟨gO, 0, none⟩) hOw (.slice A9 (o.length + 1) c9)
          have ho10 := ho9.far (p := ⟨gO, 0, none⟩) (own_off ho9 hgO9 (by decide)) (.slice A9 (o.length + 1) c9)
          obtain ⟨w10, hw10⟩ : ∃ x, w9.setCell ⟨gO, 0, none⟩ (.slice A9 (o.length + 1) c9) = x := ⟨_, rfl⟩
          rw [hw10] at hgG10 hgR10 hgO10 hb10 ho10 ⊢
          clear hw10 BO9 l9 hb9 hgO9 hgR9 hgG9 hst hst9 ho9
          have l10 := later hb10
          have l1010 : Later w10 w10 := Later.refl
          have hlk : (o ++ [n]).length = o.length + 1 := by simp
          go_wp2_with fail
          go_roundw
          case rel =>
            exact ⟨k + 1, o ++ [n], A9, c9, by omega, by go_num, ho2, blk_below hgG10 below_of, blk_below hgR10 below_of, by rw [hlk]; exact blk_below hgO10 below_of, by rw [hlk]; exact ho10.below below_of, hb10.trans (below_of.mono hb10.size)⟩
          case measure => simp [intOf]; omega
        · go_simp
          refine hK9.out _ _ (by exact ⟨inferInstance, fun i => ((BG _).2 i).1⟩) (fun hHeld => ?_)
          clear hK9 K9
          (try simp only [Act.put])
          refine wpAnyH_ready (rs := [1]) (by kernel_rfl) (by simp) ?_
          refine AllReadyH.cons (o := _) rfl (fun K9 hK9 => ?_) AllReadyH.nil
          go_simp
          refine hK9.out _ _ (by exact ⟨inferInstance, fun i => ((BG _).2 i).1⟩) (fun hHeld => ?_)
          clear hK9 K9
          (try simp only [Act.put])
          refine wpAnyH_ready (rs := [8]) (by kernel_rfl) (by simp) ?_
          refine AllReadyH.cons (o := _) rfl (fun K9 hK9 => ?_) AllReadyH.nil
          refine step_app2 (P := Try.prog) rfl (.tmp 24) (.tmp 30) (by rfl) NodeE.enc nodeT _ _ [n] o (.slice OA o.length OC) (by rfl) (by rfl) (m := 1) (n := o.length + 1) rfl rfl (ho3.later _) (blk_slAt NodeE.enc (fr := (0, 0)) (e := 64) (heap_alloc_new _ _) [n] rfl) (by omega) (by unfold maxLen; omega) (by simp only [heap_drew, World.size_alloc]; omega) ?_
          intro A9 c9 w9 ho9 hm9 hst9
          have hst : Step w3 w9 (.slice OA o.length OC) (.slice A9 (o.length + 1) c9) := Step.trans (Step.of_below (below_of (b := w3))) hst9
          have hgG9 := hst.keep ho3 hgG3 (by decide)
          have hgR9 := hst.keep ho3 hgR3 (by decide)
          have hgO9 := hst.keep ho3 hgO3 (by decide)
          have hb9 : Below w.heap.size w w9 := hst.below ho3 hb0 hz3
          have l9 := later hb9
          have BO9 := boxed hgO9
          refine hK9.out _ _ (by exact ⟨⟨hb9⟩, fun i => blk_cell hgG9 i⟩) (fun hHeld => ?_)
          clear hK9 K9
          (try simp only [Act.put])
          refine wpAnyH_take (i := 9) (oi := _) (v := ?_) rfl (by kernel_rfl) (by kernel_rfl) (by kernel_rfl) (fun _ _ _ h => h) (Or.inl ⟨by rfl, ?_⟩) (by assumption) ?_
          rotate_left 1
          · (intro wy hSw; (try dsimp only at hSw); obtain ⟨hLw, hSw⟩ := hSw; go_simp; try with_reducible rfl)
          (try simp only [Act.put])
          refine wpAnyH_ready (rs := [10]) (by kernel_rfl) (by simp) ?_
          refine AllReadyH.cons (o := _) rfl (fun K9 hK9 => ?_) AllReadyH.nil
          go_simp
          refine hK9.out _ _ (by exact ⟨⟨hb9.setCell (p := ⟨gO, 0, none⟩) hOw _⟩, fun i => blk_cell ((blk_far hOG.symm _).trans hgG9) i⟩) (fun hHeld => ?_)
          clear hK9 K9
          (try simp only [Act.put])
          refine wpAnyH_done (by kernel_rfl) ?_ _
          have hgG10 := (blk_far (p := ⟨gO, 0, none⟩) hOG.symm (.slice A9 (o.length + 1) c9)).trans hgG9
          have hgR10 := (blk_far (p := ⟨gO, 0, none⟩) hOR.symm (.slice A9 (o.length + 1) c9)).trans hgR9
          have hgO10 := blk_set hgO9 0 (.slice A9 (o.length + 1) c9)
          have hb10 := hb9.setCell (p := ⟨gO, 0, none⟩) hOw (.slice A9 (o.length + 1) c9)
          have ho10 := ho9.far (p := ⟨gO, 0, none⟩) (own_off ho9 hgO9 (by decide)) (.slice A9 (o.length + 1) c9)
          obtain ⟨w10, hw10⟩ : ∃ x, w9.setCell ⟨gO, 0, none⟩ (.slice A9 (o.length + 1) c9) = x := ⟨_, rfl⟩
          rw [hw10] at hgG10 hgR10 hgO10 hb10 ho10 ⊢
          clear hw10 BO9 l9 hb9 hgO9 hgR9 hgG9 hst hst9 ho9
          have l10 := later hb10
          have l1010 : Later w10 w10 := Later.refl
          have hlk : (o ++ [n]).length = o.length + 1 := by simp
          go_wp2_with fail
          go_roundw
          case rel =>
            exact ⟨k + 1, o ++ [n], A9, c9, by omega, by go_num, ho2, blk_below hgG10 below_of, blk_below hgR10 below_of, by rw [hlk]; exact blk_below hgO10 below_of, by rw [hlk]; exact ho10.below below_of, hb10.trans (below_of.mono hb10.size)⟩
          case measure => simp [intOf]; omega
    · have hk' : k = l.length := by omega
      subst hk'
      have hfin := hide (show o = l.filter (keepE ks) by rw [ho.out, List.take_length])
      clear ho
      have BR := boxed hgR
      go_wp2_with fail
      have rb := blk_cell (blk_set (show wr.heap[w.heap.size + 1]? = _ from hgR) 0 (.slice OA o.length OC)) 0
      simp at rb
      refine bodyPost_ret (v := .agg #[.slice OA o.length OC]) ?_ rfl ?_
      · simp [results, Try.results22, go_sem, rb]
      · refine ⟨o, OA, OC, hfin, rfl, ?_, ?_⟩
        · exact hown.far (p := ⟨w.heap.size + 1, 0, none⟩) (own_off hown hgR (by decide)) _
        · exact hbr.setCell (p := ⟨w.heap.size + 1, 0, none⟩) (by simp) _
end Go.Proofs.Ytnfpbkimdhhmfaa
