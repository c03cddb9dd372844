/-
  Contracts of the functions of this seat that each theorem names: what a call returns, and that it writes nothing that was there before. The conditions stand in each theorem.
-/
import Derived.Test.YtomgdkfoinojiaaS32Ans3
import Derived.Deep.CutRange
namespace Go.Proofs.Ytomgdkfoinojiaa
open Go.RowKit
attribute [local simp] heap_drew
set_option maxRecDepth 100000 in
set_option maxHeartbeats 4000000 in
theorem sameAns_any (m o n ep : Int) (kn ro : Bool) (lu : Int) (A B : Option Addr) (c d : Nat) (il : List InsetE) (w : World) (hA : SlAt InsetE.cells 3 w A il) (hB : SlAt InsetE.cells 3 w B il) (hl : il.length ≤ 1000000000) :
    Calls Try.prog 26 #[.agg #[.int .i64 m, .int .i64 o, .int .u64 n, .int .i64 ep, .bool kn, .bool ro, .int .i64 lu, .slice A il.length c], .agg #[.int .i64 m, .int .i64 o, .int .u64 n, .int .i64 ep, .bool kn, .bool ro, .int .i64 lu, .slice B il.length d]] w fun r w' => r = .returned (.bool true) ∧ Below w.heap.size w w' := by
  have HS : ∀ u [Later w u], Calls Try.prog 16 #[.agg #[.int .i64 0, .int .u64 0, .bool false, .int .i64 0, .slice A il.length c], .agg #[.int .i64 0, .int .u64 0, .bool false, .int .i64 0, .slice B il.length d]] u fun r w' => r = .returned (.bool true) ∧ Below u.heap.size u w' := fun u i => by
    have h := same31_any ⟨0, 0, false, 0, A, c, il⟩ ⟨0, 0, false, 0, B, d, il⟩ u (hA.below i.below) (hB.below i.below) hl hl
    rw [show decide (SumE.con ⟨0, 0, false, 0, A, c, il⟩ = SumE.con ⟨0, 0, false, 0, B, d, il⟩) = true from decide_eq_true rfl] at h
    exact h
  go_enter Try.func26, Try.ntmps26
  go_upto_region 1 with fail
  refine wp_name ?_
  intro w0 hw0
  obtain ⟨B0, B1, l0⟩ := box2 hw0
  clear hw0
  have l00 : Later w0 w0 := Later.refl
  go_cut [5, 6] from 7 (fun s5 s6 wx => ∃ g5 g6, s5 = .pointer (some ⟨g5, 0, none⟩) ∧ s6 = .pointer (some ⟨g6, 0, none⟩) ∧ wx.heap[g5]? = some (.cells #[.int .i64 0, .int .u64 0, .bool false, .int .i64 0, .slice A il.length c] 41 (0, 0)) ∧ wx.heap[g6]? = some (.cells #[.int .i64 0, .int .u64 0, .bool false, .int .i64 0, .slice B il.length d] 41 (0, 0)) ∧ Below w0.heap.size w0 wx)
  case first =>
    refine wp_region_held_drew (S := fun w' => ∀ b [Later b w0], Later b w') (by kernel_rfl) (by intro b _; infer_instance) (fun hHeld => ?_)
    refine wpAnyH_take (i := 0) (oi := _) (v := ?_) rfl (by kernel_rfl) (by kernel_rfl) (by kernel_rfl) (fun _ _ _ h => h) (Or.inl ⟨by rfl, ?_⟩) (by assumption) ?_
    rotate_left 1
    · (intro wy hSw; (try dsimp only at hSw); go_simp; try with_reducible rfl)
    (try simp only [Act.put])
    refine wpAnyH_take (i := 1) (oi := _) (v := ?_) rfl (by kernel_rfl) (by kernel_rfl) (by kernel_rfl) (fun _ _ _ h => h) (Or.inl ⟨by rfl, ?_⟩) (by assumption) ?_
    rotate_left 1
    · (intro wy hSw; (try dsimp only at hSw); go_simp; try with_reducible rfl)
    (try simp only [Act.put])
    refine wpAnyH_take (i := 2) (oi := _) (v := ?_) rfl (by kernel_rfl) (by kernel_rfl) (by kernel_rfl) (fun _ _ _ h => h) (Or.inl ⟨by rfl, ?_⟩) (by assumption) ?_
    rotate_left 1
    · (intro wy hSw; (try dsimp only at hSw); go_simp; try with_reducible rfl)
    (try simp only [Act.put])
    refine wpAnyH_take (i := 3) (oi := _) (v := ?_) rfl (by kernel_rfl) (by kernel_rfl) (by kernel_rfl) (fun _ _ _ h => h) (Or.inl ⟨by rfl, ?_⟩) (by assumption) ?_
    rotate_left 1
    · (intro wy hSw; (try dsimp only at hSw); go_simp; try with_reducible rfl)
    (try simp only [Act.put])
    refine wpAnyH_take (i := 4) (oi := _) (v := ?_) rfl (by kernel_rfl) (by kernel_rfl) (by kernel_rfl) (fun _ _ _ h => h) (Or.inl ⟨by rfl, ?_⟩) (by assumption) ?_
    rotate_left 1
    · (intro wy hSw; (try dsimp only at hSw); go_simp; try with_reducible rfl)
    (try simp only [Act.put])
    refine wpAnyH_take (i := 5) (oi := _) (v := ?_) rfl (by kernel_rfl) (by kernel_rfl) (by kernel_rfl) (fun _ _ _ h => h) (Or.inl ⟨by rfl, ?_⟩) (by assumption) ?_
    rotate_left 1
    · (intro wy hSw; (try dsimp only at hSw); go_simp; try with_reducible rfl)
    (try simp only [Act.put])
    refine wpAnyH_ready (rs := [6, 7]) (by kernel_rfl) (by simp) ?_
    refine AllReadyH.cons (o := _) rfl (fun K9 hK9 => ?_) (AllReadyH.cons (o := _) rfl (fun K9 hK9 => ?_) AllReadyH.nil)
    · go_simp
      refine hK9.out _ _ (by intro b _; infer_instance) (fun hHeld => ?_)
      clear hK9 K9
      (try simp only [Act.put])
      refine wpAnyH_ready (rs := [7]) (by kernel_rfl) (by simp) ?_
      refine AllReadyH.cons (o := _) rfl (fun K9 hK9 => ?_) AllReadyH.nil
      go_simp
      refine hK9.out _ _ (by intro b _; infer_instance) (fun hHeld => ?_)
      clear hK9 K9
      (try simp only [Act.put])
      refine wpAnyH_ready (rs := [8]) (by kernel_rfl) (by simp) ?_
      refine AllReadyH.cons (o := _) rfl (fun K9 hK9 => ?_) AllReadyH.nil
      go_simp
      refine hK9.out _ _ (by intro b _; infer_instance) (fun hHeld => ?_)
      clear hK9 K9
      (try simp only [Act.put])
      refine wpAnyH_ready (rs := [9]) (by kernel_rfl) (by simp) ?_
      refine AllReadyH.cons (o := _) rfl (fun K9 hK9 => ?_) AllReadyH.nil
      go_simp
      refine hK9.out _ _ (by intro b _; infer_instance) (fun hHeld => ?_)
      clear hK9 K9
      (try simp only [Act.put])
      refine wpAnyH_done (by kernel_rfl) ?_ _
      go_wp2_with fail
      go_meet
      exact ⟨w0.heap.size, w0.heap.size + 1, rfl, rfl, by rw [heap_drew, heap_alloc_if, heap_alloc_if]; simp, by rw [heap_drew, heap_alloc_if, heap_alloc_if]; simp, below_of⟩
    · go_simp
      refine hK9.out _ _ (by intro b _; infer_instance) (fun hHeld => ?_)
      clear hK9 K9
      (try simp only [Act.put])
      refine wpAnyH_ready (rs := [6]) (by kernel_rfl) (by simp) ?_
      refine AllReadyH.cons (o := _) rfl (fun K9 hK9 => ?_) AllReadyH.nil
      go_simp
      refine hK9.out _ _ (by intro b _; infer_instance) (fun hHeld => ?_)
      clear hK9 K9
      (try simp only [Act.put])
      refine wpAnyH_ready (rs := [8]) (by kernel_rfl) (by simp) ?_
      refine AllReadyH.cons (o := _) rfl (fun K9 hK9 => ?_) AllReadyH.nil
      go_simp
      refine hK9.out _ _ (by intro b _; infer_instance) (fun hHeld => ?_)
      clear hK9 K9
      (try simp only [Act.put])
      refine wpAnyH_ready (rs := [9]) (by kernel_rfl) (by simp) ?_
      refine AllReadyH.cons (o := _) rfl (fun K9 hK9 => ?_) AllReadyH.nil
      go_simp
      refine hK9.out _ _ (by intro b _; infer_instance) (fun hHeld => ?_)
      clear hK9 K9
      (try simp only [Act.put])
      refine wpAnyH_done (by kernel_rfl) ?_ _
      go_wp2_with fail
      go_meet
      exact ⟨w0.heap.size + 1, w0.heap.size, rfl, rfl, by rw [heap_drew, heap_alloc_if, heap_alloc_if]; simp, by rw [heap_drew, heap_alloc_if, heap_alloc_if]; simp, below_of⟩
  case rest =>
    obtain ⟨g5, g6, rfl, rfl, h5, h6, hbc⟩ := hcut
    have lc := later hbc
    have B5 := boxed h5
    have B6 := boxed h6
    have lcc : Later wc wc := Later.refl
    go_wp2_with (go_at_call 16; refine (HS _).mono ?_; rintro r w9 ⟨rfl, hb9⟩; have l9 := later hb9)
    go_ret
    exact ⟨rfl, below_of⟩
end Go.Proofs.Ytomgdkfoinojiaa
