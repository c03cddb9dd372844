/-
  Contracts of the functions of this seat that each theorem names: what a call returns, and that it writes nothing that was there before. The conditions stand in each theorem.
-/
import Derived.Test.YtomgdkfoinojiaaGCmp
import Derived.Test.YtomgdkfoinojiaaGrpS
set_option linter.unusedSimpArgs false
set_option linter.unusedVariables false
namespace Go.Proofs.Ytomgdkfoinojiaa
open Go.RowKit
set_option maxHeartbeats 1000000 in
theorem compareU_any (x y : Int) (w : World) : Calls Try.prog 81 #[.int .u64 x, .int .u64 y] w fun r w' => r = .returned (.int .i64 (cmpN x y)) ∧ Grown w w' := by
  rcases Int.lt_trichotomy x y with h | h | h
  · have Hc := hide (show cmpN x y = -1 by unfold cmpN; rw [if_pos h])
    go_enter Try.func81, Try.ntmps81
    go_wp2
    all_goals go_ret
    all_goals exact ⟨ret_int Hc.out.symm, (inferInstance : Gr w _).out⟩
  · have Hc := hide (show cmpN x y = 0 by unfold cmpN; rw [if_neg (by omega), if_neg (by omega)])
    go_enter Try.func81, Try.ntmps81
    go_wp2
    all_goals go_ret
    all_goals exact ⟨ret_int Hc.out.symm, (inferInstance : Gr w _).out⟩
  · have Hc := hide (show cmpN x y = 1 by unfold cmpN; rw [if_neg (by omega), if_pos (by omega)])
    go_enter Try.func81, Try.ntmps81
    go_wp2
    all_goals go_ret
    all_goals exact ⟨ret_int Hc.out.symm, (inferInstance : Gr w _).out⟩
/-- Two keys in order. -/
def lexN (a b c d : Int) : Prop := a < c ∨ (a = c ∧ b < d)
instance (a b c d : Int) : Decidable (lexN a b c d) := by unfold lexN; infer_instance
theorem orCmp_lt (a b c d : Int) : decide (orI (cmpN a c) (cmpN b d) < 0) = decide (lexN a b c d) := by
  unfold orI cmpN lexN
  by_cases h1 : a < c
  · simp [h1]
  · by_cases h2 : c < a
    · have : ¬ a = c := by omega
      simp [h1, h2, this]
    · have he : a = c := by omega
      by_cases h3 : b < d
      · simp [he, h3]
      · by_cases h4 : d < b <;> simp [he, h3, h4]
def cmpIn (x y : InsetE) : Int := orI (cmpN x.client y.client) (cmpN x.number y.number)
def cmpSu (x y : SumE) : Int := orI (cmpN x.owner y.owner) (cmpN x.number y.number)
theorem cmpIn_lt (x y : InsetE) : Go.Proofs.ltOf cmpIn x y = decide (lexN x.client x.number y.client y.number) := orCmp_lt _ _ _ _
theorem cmpSu_lt (x y : SumE) : Go.Proofs.ltOf cmpSu x y = decide (lexN x.owner x.number y.owner y.number) := orCmp_lt _ _ _ _
theorem cmpIn_swo : Go.Sort.SWO (Go.Proofs.ltOf cmpIn) := ⟨fun x => by simp [cmpIn_lt, lexN], fun x y z => by simp only [cmpIn_lt, decide_eq_true_eq]; unfold lexN; omega, fun x y z => by simp only [cmpIn_lt, decide_eq_false_iff_not]; unfold lexN; omega⟩
theorem cmpSu_swo : Go.Sort.SWO (Go.Proofs.ltOf cmpSu) := ⟨fun x => by simp [cmpSu_lt, lexN], fun x y z => by simp only [cmpSu_lt, decide_eq_true_eq]; unfold lexN; omega, fun x y z => by simp only [cmpSu_lt, decide_eq_false_iff_not]; unfold lexN; omega⟩
set_option maxHeartbeats 2000000 in
theorem cmpIn_any (x y : InsetE) (w : World) :
    Calls Try.prog 48 #[.agg x.cells.toArray, .agg y.cells.toArray] w fun e w' => e = .returned (.int .i64 (cmpIn x y)) ∧ Grown w w' := by
  show Calls Try.prog 48 #[.agg #[.int .i64 x.client, .int .u64 x.number, .int .i64 x.out], .agg #[.int .i64 y.client, .int .u64 y.number, .int .i64 y.out]] w fun e w' => e = .returned (.int .i64 (cmpIn x y)) ∧ Grown w w'
  have Hc := hide (show cmpIn x y = orI (cmpN x.client y.client) (cmpN x.number y.number) from rfl)
  go_enter Try.func48, Try.ntmps48
  go_upto_region 1 with fail
  refine wp_name ?_
  intro w1 hw1
  have g1 : ∀ b [Gr b w], Gr b w1 := fun b i => by rw [← hw1]; infer_instance
  have c0 : ∀ u [Gr w1 u], u.cell? ⟨w.heap.size, 0, none⟩ = some (.int .i64 x.client) := Gr.cell (by rw [← hw1]; simp [go_sem])
  have c1 : ∀ u [Gr w1 u], u.cell? ⟨w.heap.size, 1, none⟩ = some (.int .u64 x.number) := Gr.cell (by rw [← hw1]; simp [go_sem])
  have c2 : ∀ u [Gr w1 u], u.cell? ⟨w.heap.size + 1, 0, none⟩ = some (.int .i64 y.client) := Gr.cell (by rw [← hw1]; simp [go_sem])
  have c3 : ∀ u [Gr w1 u], u.cell? ⟨w.heap.size + 1, 1, none⟩ = some (.int .u64 y.number) := Gr.cell (by rw [← hw1]; simp [go_sem])
  clear hw1
  go_region_held3 (fun w' => ∀ b [Gr b w1], Gr b w') ((intro b _; infer_instance))
    ((first
      | (go_at_call 78; refine (compare_any _ _ _).mono ?_; rintro r w2 ⟨rfl, hg2⟩; have g2 := gr hg2)
      | (go_at_call 81; refine (compareU_any _ _ _).mono ?_; rintro r w2 ⟨rfl, hg2⟩; have g2 := gr hg2)
      | (go_at_call 77; refine (or_any _ (cmpN x.client y.client) (cmpN x.number y.number) _ ((blk_cell (heap_alloc_new _ _) 0).trans rfl) ((blk_cell (heap_alloc_new _ _) 1).trans rfl)).mono ?_; rintro r w4 ⟨rfl, hg4⟩; have g4 := gr hg4)))
  all_goals go_wp2_with fail
  all_goals go_ret
  all_goals exact ⟨ret_int Hc.out.symm, (inferInstance : Gr w _).out⟩
set_option maxHeartbeats 2000000 in
theorem cmpSu_any (x y : SumE) (w : World) :
    Calls Try.prog 47 #[.agg x.cells.toArray, .agg y.cells.toArray] w fun e w' => e = .returned (.int .i64 (cmpSu x y)) ∧ Grown w w' := by
  show Calls Try.prog 47 #[.agg #[.int .i64 x.owner, .int .u64 x.number, .bool x.rooted, .int .i64 x.distance, .slice x.A x.inset.length x.c], .agg #[.int .i64 y.owner, .int .u64 y.number, .bool y.rooted, .int .i64 y.distance, .slice y.A y.inset.length y.c]] w fun e w' => e = .returned (.int .i64 (cmpSu x y)) ∧ Grown w w'
  have Hc := hide (show cmpSu x y = orI (cmpN x.owner y.owner) (cmpN x.number y.number) from rfl)
  go_enter Try.func47, Try.ntmps47
  go_upto_region 1 with fail
  refine wp_name ?_
  intro w1 hw1
  have g1 : ∀ b [Gr b w], Gr b w1 := fun b i => by rw [← hw1]; infer_instance
  have c0 : ∀ u [Gr w1 u], u.cell? ⟨w.heap.size, 0, none⟩ = some (.int .i64 x.owner) := Gr.cell (by rw [← hw1]; simp [go_sem])
  have c1 : ∀ u [Gr w1 u], u.cell? ⟨w.heap.size, 1, none⟩ = some (.int .u64 x.number) := Gr.cell (by rw [← hw1]; simp [go_sem])
  have c2 : ∀ u [Gr w1 u], u.cell? ⟨w.heap.size + 1, 0, none⟩ = some (.int .i64 y.owner) := Gr.cell (by rw [← hw1]; simp [go_sem])
  have c3 : ∀ u [Gr w1 u], u.cell? ⟨w.heap.size + 1, 1, none⟩ = some (.int .u64 y.number) := Gr.cell (by rw [← hw1]; simp [go_sem])
  clear hw1
  go_region_held3 (fun w' => ∀ b [Gr b w1], Gr b w') ((intro b _; infer_instance))
    ((first
      | (go_at_call 78; refine (compare_any _ _ _).mono ?_; rintro r w2 ⟨rfl, hg2⟩; have g2 := gr hg2)
      | (go_at_call 81; refine (compareU_any _ _ _).mono ?_; rintro r w2 ⟨rfl, hg2⟩; have g2 := gr hg2)
      | (go_at_call 77; refine (or_any _ (cmpN x.owner y.owner) (cmpN x.number y.number) _ ((blk_cell (heap_alloc_new _ _) 0).trans rfl) ((blk_cell (heap_alloc_new _ _) 1).trans rfl)).mono ?_; rintro r w4 ⟨rfl, hg4⟩; have g4 := gr hg4)))
  all_goals go_wp2_with fail
  all_goals go_ret
  all_goals exact ⟨ret_int Hc.out.symm, (inferInstance : Gr w _).out⟩
end Go.Proofs.Ytomgdkfoinojiaa
