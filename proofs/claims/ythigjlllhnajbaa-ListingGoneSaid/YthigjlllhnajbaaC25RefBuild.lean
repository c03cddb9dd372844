/-
  Contracts of the functions of this seat that each theorem names: what a call returns, and that it writes nothing that was there before. The conditions stand in each theorem.
-/
import Derived.Test.YthigjlllhnajbaaC25Put
namespace Go.Proofs.Ythigjlllhnajbaa
open Go.RowKit
/-- put on a slice of the call's own: the slice stays the call's own. -/
theorem put_own {base : Nat} {A : Option Addr} {c : Nat} {es : List ListedE} (e : ListedE) {w : World} (hown : Own ListedE.cells 3 64 base w (.slice A es.length c) es) (hl : es.length ≤ 1000000000) (hb : base ≤ w.heap.size) :
    Calls Try.prog 35 #[.slice A es.length c, e.v] w fun r w' => ∃ A' c', r = .returned (.slice A' (putL es e).length c') ∧ Own ListedE.cells 3 64 base w' (.slice A' (putL es e).length c') (putL es e) ∧ Below w.heap.size w w' := by
  obtain ⟨A0, c0, h0, hc, hm, hs⟩ := hown.slAt ListedE.enc
  injection h0 with h1 h2 h3
  subst h1 h3
  refine (put_any A c es e w hs hl hc hm).mono ?_
  rintro r w' ⟨⟨rfl, hp⟩ | ⟨A', c', rfl, ho⟩, hb'⟩
  · exact ⟨A, c, by rw [hp], by rw [hp]; exact hown.below hb', hb'⟩
  · exact ⟨A', c', rfl, ho.mono hb, hb'⟩
theorem put_q {base : Nat} {A : Option Addr} {c : Nat} {es : List ListedE} (e : ListedE) {w : World} (hown : Own ListedE.cells 3 64 base w (.slice A es.length c) es) (hl : es.length ≤ 1000000000) (hb : base ≤ w.heap.size) :
    Calls Try.prog 35 #[.slice A es.length c, e.v] w fun r w' => ∃ q A' c', Hid (q = putL es e) ∧ r = .returned (.slice A' q.length c') ∧ Own ListedE.cells 3 64 base w' (.slice A' q.length c') q ∧ Below w.heap.size w w' :=
  (put_own e hown hl hb).mono fun r w' ⟨A', c', h1, h2, h3⟩ => ⟨_, A', c', rfl, h1, h2, h3⟩
set_option maxRecDepth 100000 in
set_option maxHeartbeats 4000000 in
theorem refBuild_any (sA : Option Addr) (sC : Nat) (es : List StubE) (owner R S C : Int) (w : World) (hs : SlAt StubE.cells 12 w sA es) (hsl : es.length ≤ 100000000) :
    Calls Try.prog 14 #[.slice sA es.length sC, .int .i64 owner, .int .i64 R, .int .i64 S, .int .i64 C] w fun r w' => ∃ A c, r = .returned (.agg #[.int .i64 R, .int .i64 S, .int .i64 C, .slice A (refBuildL owner es).length c]) ∧
      Own ListedE.cells 3 64 w.heap.size w' (.slice A (refBuildL owner es).length c) (refBuildL owner es) ∧ Below w.heap.size w w' := by
  have Hs := hs.later
  have hsl' : es.length ≤ 9223372036854775807 := by omega
  go_enter Try.func14, Try.ntmps14
  go_upto_region 2 with fail
  refine wp_name ?_
  intro w1 hw1
  have b0 : w1.heap[w.heap.size]? = some (.cells #[.int .i64 0, .int .i64 0, .int .i64 0, .slice none 0 0] 26 (0, 0)) := (by rw [← hw1]; simp only [heap_alloc_if, World.size_alloc]; repeat (first | rw [if_pos trivial] | rw [if_neg (by omega)] | rw [if_pos (by omega)]); try rfl)
  have b1 : w1.heap[w.heap.size + 1]? = some (.cells #[.int .i64 R, .int .i64 S, .int .i64 C, .slice none 0 0] 26 (0, 0)) := (by rw [← hw1]; simp only [heap_alloc_if, World.size_alloc]; repeat (first | rw [if_pos trivial] | rw [if_neg (by omega)] | rw [if_pos (by omega)]); try rfl)
  have hz1 : w1.heap.size = w.heap.size + 1 + 1 := by rw [← hw1]; simp
  have hb1 : Below w.heap.size w w1 := by rw [← hw1]; exact (by repeat (first | with_reducible exact Below.refl _ _ | (with_reducible refine Below.drew ?_) | (with_reducible refine below_drewN ?_ _) | (with_reducible refine Below.alloc ?_ ?_ _; rotate_left; (first | omega | (simp <;> omega))) | (with_reducible refine Below.setCell ?_ ?_ _; rotate_left; (first | omega | (simp <;> omega)))))
  clear hw1
  have l1 := later hb1
  go_wp2_with fail
  go_loopw [12] (fun i wr => ∃ (k : Nat) (A : Option Addr) (c : Nat) (l : List ListedE), k ≤ es.length ∧ i = .int .i64 k ∧ l = refBuildL owner (es.take k) ∧ Own ListedE.cells 3 64 w1.heap.size wr (.slice A l.length c) l ∧
      wr.heap[w.heap.size + 1]? = some (.cells #[.int .i64 R, .int .i64 S, .int .i64 C, .slice A l.length c] 26 (0, 0)) ∧ Below (w.heap.size + 1) w1 wr) (fun i _ => es.length - (intOf i).toNat)
  case atStart => exact ⟨0, none, 0, [], by omega, rfl, rfl, Own.nil, b1, Below.refl _ _⟩
  case round =>
    obtain ⟨k, A, c, l, hk, rfl, hld, hown, hbx, hbr⟩ := hrel
    have hbw : Below w.heap.size w wr := hb1.trans (hbr.mono (by omega))
    have hzr := hbr.size
    have lr := later hbw
    have B1 := boxed hbx
    have Hld := hide hld
    clear hld hbx
    by_cases hlt : k < es.length
    · obtain ⟨b, off, x, rfl, hx, C1⟩ := StubE.get (Hs w) hlt
      have HT := hide (refBuild_take (o := owner) hx)
      clear hx
      by_cases ho : x.owner = owner
      · have hll : l.length ≤ 100000000 := by
          have h := refBuild_len (o := owner) (es.take k) []
          rw [Hld.out]; unfold refBuildL
          rw [List.length_take] at h
          simp at h; omega
        go_upto_region 6 with fail
        refine wp_region_held_drew (S := fun w' => ∀ b [Later b w], Later b w') (by kernel_rfl) (by intro b _; infer_instance) (fun hHeld => ?_)
        refine wpAnyH_take (i := 0) (oi := _) (v := ?_) rfl (by kernel_rfl) (by kernel_rfl) (by kernel_rfl) (fun _ _ _ h => h) (Or.inl ⟨by rfl, ?_⟩) (by assumption) ?_
        rotate_left 1
        · (intro wy hSw; (try dsimp only at hSw); go_simp; try with_reducible rfl)
        (try simp only [Act.put, List.setIfInBounds_toArray, List.set_cons_zero, List.set_cons_succ])
        refine wpAnyH_take (i := 2) (oi := _) (v := ?_) rfl (by kernel_rfl) (by kernel_rfl) (by kernel_rfl) (fun _ _ _ h => h) (Or.inl ⟨by rfl, ?_⟩) (by assumption) ?_
        rotate_left 1
        · (intro wy hSw; (try dsimp only at hSw); go_simp; try with_reducible rfl)
        (try simp only [Act.put, List.setIfInBounds_toArray, List.set_cons_zero, List.set_cons_succ])
        refine wpAnyH_take (i := 3) (oi := _) (v := ?_) rfl (by kernel_rfl) (by kernel_rfl) (by kernel_rfl) (fun _ _ _ h => h) (Or.inl ⟨by rfl, ?_⟩) (by assumption) ?_
        rotate_left 1
        · (intro wy hSw; (try dsimp only at hSw); go_simp; try with_reducible rfl)
        (try simp only [Act.put, List.setIfInBounds_toArray, List.set_cons_zero, List.set_cons_succ])
        refine wpAnyH_take (i := 4) (oi := _) (v := ?_) rfl (by kernel_rfl) (by kernel_rfl) (by kernel_rfl) (fun _ _ _ h => h) (Or.inl ⟨by rfl, ?_⟩) (by assumption) ?_
        rotate_left 1
        · (intro wy hSw; (try dsimp only at hSw); go_simp; try with_reducible rfl)
        (try simp only [Act.put, List.setIfInBounds_toArray, List.set_cons_zero, List.set_cons_succ])
        refine wpAnyH_take (i := 5) (oi := _) (v := ?_) rfl (by kernel_rfl) (by kernel_rfl) (by kernel_rfl) (fun _ _ _ h => h) (Or.inl ⟨by rfl, ?_⟩) (by assumption) ?_
        rotate_left 1
        · (intro wy hSw; (try dsimp only at hSw); go_simp; try with_reducible rfl)
        (try simp only [Act.put, List.setIfInBounds_toArray, List.set_cons_zero, List.set_cons_succ])
        refine wpAnyH_take (i := 6) (oi := _) (v := ?_) rfl (by kernel_rfl) (by kernel_rfl) (by kernel_rfl) (fun _ _ _ h => h) (Or.inl ⟨by rfl, ?_⟩) (by assumption) ?_
        rotate_left 1
        · (intro wy hSw; (try dsimp only at hSw); go_simp; try with_reducible rfl)
        (try simp only [Act.put, List.setIfInBounds_toArray, List.set_cons_zero, List.set_cons_succ])
        refine wpAnyH_take (i := 7) (oi := _) (v := ?_) rfl (by kernel_rfl) (by kernel_rfl) (by kernel_rfl) (fun _ _ _ h => h) (Or.inl ⟨by rfl, ?_⟩) (by assumption) ?_
        rotate_left 1
        · (intro wy hSw; (try dsimp only at hSw); go_simp; try with_reducible rfl)
        (try simp only [Act.put, List.setIfInBounds_toArray, List.set_cons_zero, List.set_cons_succ])
        refine wpAnyH_take (i := 8) (oi := _) (v := ?_) rfl (by kernel_rfl) (by kernel_rfl) (by kernel_rfl) (fun _ _ _ h => h) (Or.inl ⟨by rfl, ?_⟩) (by assumption) ?_
        rotate_left 1
        · (intro wy hSw; (try dsimp only at hSw); go_simp; try with_reducible rfl)
        (try simp only [Act.put, List.setIfInBounds_toArray, List.set_cons_zero, List.set_cons_succ])
        refine wpAnyH_take (i := 9) (oi := _) (v := ?_) rfl (by kernel_rfl) (by kernel_rfl) (by kernel_rfl) (fun _ _ _ h => h) (Or.inl ⟨by rfl, ?_⟩) (by assumption) ?_
        rotate_left 1
        · (intro wy hSw; (try dsimp only at hSw); go_simp; try with_reducible rfl)
        (try simp only [Act.put, List.setIfInBounds_toArray, List.set_cons_zero, List.set_cons_succ])
        refine wpAnyH_take (i := 10) (oi := _) (v := ?_) rfl (by kernel_rfl) (by kernel_rfl) (by kernel_rfl) (fun _ _ _ h => h) (Or.inl ⟨by rfl, ?_⟩) (by assumption) ?_
        rotate_left 1
        · (intro wy hSw; (try dsimp only at hSw); go_simp; try with_reducible rfl)
        (try simp only [Act.put, List.setIfInBounds_toArray, List.set_cons_zero, List.set_cons_succ])
        refine wpAnyH_take (i := 11) (oi := _) (v := ?_) rfl (by kernel_rfl) (by kernel_rfl) (by kernel_rfl) (fun _ _ _ h => h) (Or.inl ⟨by rfl, ?_⟩) (by assumption) ?_
        rotate_left 1
        · (intro wy hSw; (try dsimp only at hSw); go_simp; try with_reducible rfl)
        (try simp only [Act.put, List.setIfInBounds_toArray, List.set_cons_zero, List.set_cons_succ])
        refine wpAnyH_take (i := 12) (oi := _) (v := ?_) rfl (by kernel_rfl) (by kernel_rfl) (by kernel_rfl) (fun _ _ _ h => h) (Or.inl ⟨by rfl, ?_⟩) (by assumption) ?_
        rotate_left 1
        · (intro wy hSw; (try dsimp only at hSw); go_simp; try with_reducible rfl)
        (try simp only [Act.put, List.setIfInBounds_toArray, List.set_cons_zero, List.set_cons_succ])
        refine wpAnyH_take (i := 13) (oi := _) (v := ?_) rfl (by kernel_rfl) (by kernel_rfl) (by kernel_rfl) (fun _ _ _ h => h) (Or.inl ⟨by rfl, ?_⟩) (by assumption) ?_
        rotate_left 1
        · (intro wy hSw; (try dsimp only at hSw); go_simp; try with_reducible rfl)
        (try simp only [Act.put, List.setIfInBounds_toArray, List.set_cons_zero, List.set_cons_succ])
        refine wpAnyH_take (i := 14) (oi := _) (v := ?_) rfl (by kernel_rfl) (by kernel_rfl) (by kernel_rfl) (fun _ _ _ h => h) (Or.inl ⟨by rfl, ?_⟩) (by assumption) ?_
        rotate_left 1
        · (intro wy hSw; (try dsimp only at hSw); go_simp; try with_reducible rfl)
        (try simp only [Act.put, List.setIfInBounds_toArray, List.set_cons_zero, List.set_cons_succ])
        refine wpAnyH_take (i := 15) (oi := _) (v := ?_) rfl (by kernel_rfl) (by kernel_rfl) (by kernel_rfl) (fun _ _ _ h => h) (Or.inl ⟨by rfl, ?_⟩) (by assumption) ?_
        rotate_left 1
        · (intro wy hSw; (try dsimp only at hSw); go_simp; try with_reducible rfl)
        (try simp only [Act.put, List.setIfInBounds_toArray, List.set_cons_zero, List.set_cons_succ])
        refine wpAnyH_take (i := 16) (oi := _) (v := ?_) rfl (by kernel_rfl) (by kernel_rfl) (by kernel_rfl) (fun _ _ _ h => h) (Or.inl ⟨by rfl, ?_⟩) (by assumption) ?_
        rotate_left 1
        · (intro wy hSw; (try dsimp only at hSw); go_simp; try with_reducible rfl)
        (try simp only [Act.put, List.setIfInBounds_toArray, List.set_cons_zero, List.set_cons_succ])
        refine wpAnyH_take (i := 17) (oi := _) (v := ?_) rfl (by kernel_rfl) (by kernel_rfl) (by kernel_rfl) (fun _ _ _ h => h) (Or.inl ⟨by rfl, ?_⟩) (by assumption) ?_
        rotate_left 1
        · (intro wy hSw; (try dsimp only at hSw); go_simp; try with_reducible rfl)
        (try simp only [Act.put, List.setIfInBounds_toArray, List.set_cons_zero, List.set_cons_succ])
        refine wpAnyH_ready (rs := [1]) (by kernel_rfl) (by simp) ?_
        refine AllReadyH.cons (o := _) rfl (fun K9 hK9 => ?_) AllReadyH.nil
        go_simp
        refine hK9.out _ _ (by first | (intro b _; infer_instance) | exact later_put (W := w) (p := ⟨w.heap.size + 1, 3, none⟩) (Nat.le_succ _) rfl) (fun hHeld => ?_)
        clear hK9 K9
        (try simp only [Act.put, List.setIfInBounds_toArray, List.set_cons_zero, List.set_cons_succ])
        refine wpAnyH_ready (rs := [18]) (by kernel_rfl) (by simp) ?_
        refine AllReadyH.cons (o := _) rfl (fun K9 hK9 => ?_) AllReadyH.nil
        go_wp2_with (go_at_call 35; refine (put_q (listedOf x) (hown.later _) (by omega) (by first | (simp; done) | (simp; omega) | omega)).mono ?_; rintro r w7 ⟨q7, A7, c7, hq7, rfl, ho7, hb7⟩; have l7 := later hb7)
        refine hK9.out _ _ (by first | (intro b _; infer_instance) | exact later_put (W := w) (p := ⟨w.heap.size + 1, 3, none⟩) (Nat.le_succ _) rfl) (fun hHeld => ?_)
        clear hK9 K9
        (try simp only [Act.put, List.setIfInBounds_toArray, List.set_cons_zero, List.set_cons_succ])
        refine wpAnyH_take (i := 19) (oi := _) (v := ?_) rfl (by kernel_rfl) (by kernel_rfl) (by kernel_rfl) (fun _ _ _ h => h) (Or.inl ⟨by rfl, ?_⟩) (by assumption) ?_
        rotate_left 1
        · (intro wy hSw; (try dsimp only at hSw); go_simp; try with_reducible rfl)
        (try simp only [Act.put, List.setIfInBounds_toArray, List.set_cons_zero, List.set_cons_succ])
        refine wpAnyH_ready (rs := [20]) (by kernel_rfl) (by simp) ?_
        refine AllReadyH.cons (o := _) rfl (fun K9 hK9 => ?_) AllReadyH.nil
        go_simp
        refine hK9.out _ _ (by first | (intro b _; infer_instance) | exact later_put (W := w) (p := ⟨w.heap.size + 1, 3, none⟩) (Nat.le_succ _) rfl) (fun hHeld => ?_)
        clear hK9 K9
        (try simp only [Act.put, List.setIfInBounds_toArray, List.set_cons_zero, List.set_cons_succ])
        refine wpAnyH_done (by kernel_rfl) ?_ _
        all_goals go_wp2_with fail
        all_goals go_roundw
        case rel => exact ⟨k + 1, A7, c7, q7, by omega, by go_num, by rw [hq7.out, Hld.out, HT.out, if_pos ho], (ho7.later _).far (p := ⟨w.heap.size + 1, 3, none⟩) (fun e => absurd (World.ownsRow.lt ho7 _ e).1 (by first | (simp; done) | (simp; omega) | omega)) _, (blk_set (B1 _).1 3 _).trans (by simp), Below.setCell (p := ⟨w.heap.size + 1, 3, none⟩) (hbr.trans ((below_of (b := wr)).mono (by omega))) (Nat.le_refl _) _⟩
        case measure => simp [intOf]; omega
      · go_wp2_with fail
        go_roundw
        case rel => exact ⟨k + 1, A, c, l, by omega, by go_num, by rw [HT.out, ← Hld.out, if_neg ho], hown.later _, (B1 _).1, hbr.trans (below_of.mono (by omega))⟩
        case measure => simp [intOf]; omega
    · have hk' : k = es.length := by omega
      subst hk'
      have Hl := hide (show l = refBuildL owner es by rw [Hld.out, List.take_length])
      have C0 := boxed (show wr.heap[w.heap.size]? = _ from (hbr.block _ (by omega)).trans b0)
      go_wp2_with fail
      have r0 := blk_cell (C0 wr).1 0
      have r1 := blk_cell (C0 wr).1 1
      have r2 := blk_cell (C0 wr).1 2
      have r3 := blk_cell (C0 wr).1 3
      simp at r0 r1 r2 r3
      have hg : (Value.slice A l.length c).ownBlock ≠ some w.heap.size := fun e => absurd (World.ownsRow.lt hown _ e).1 (by omega)
      refine bodyPost_ret (v := .agg #[.int .i64 R, .int .i64 S, .int .i64 C, .slice A l.length c]) (by simp [results, Try.results14, go_sem, r0, r1, r2, r3]) rfl ⟨A, c, by rw [← Hl.out], ?_, ?_⟩
      · rw [← Hl.out]
        exact ((((hown.far (p := ⟨w.heap.size, 0, none⟩) hg _).far (p := ⟨w.heap.size, 1, none⟩) hg _).far (p := ⟨w.heap.size, 2, none⟩) hg _).far (p := ⟨w.heap.size, 3, none⟩) hg _).mono hb1.size
      · exact (by repeat (first | with_reducible exact hbw | with_reducible exact Below.refl _ _ | (with_reducible refine Below.drew ?_) | (with_reducible refine below_drewN ?_ _) | (with_reducible refine Below.alloc ?_ ?_ _; rotate_left; (first | omega | (simp <;> omega))) | (with_reducible refine Below.setCell ?_ ?_ _; rotate_left; (first | omega | (simp <;> omega)))))
end Go.Proofs.Ythigjlllhnajbaa
