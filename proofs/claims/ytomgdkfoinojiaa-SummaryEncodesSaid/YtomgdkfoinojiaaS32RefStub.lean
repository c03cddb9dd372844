/-
  Contracts of the functions of this seat that each theorem names: what a call returns, and that it writes nothing that was there before. The conditions stand in each theorem.
-/
import Derived.Test.YtomgdkfoinojiaaGrpU
import Derived.Test.YtomgdkfoinojiaaGReach16
import Derived.Test.YtomgdkfoinojiaaOwnLib
import Derived.Deep.CutRange
set_option linter.unusedSimpArgs false
set_option linter.unusedVariables false
namespace Go.Proofs.Ytomgdkfoinojiaa
open Go.RowKit
attribute [local go_sem ↓] run_eql_id run_neq_id
attribute [local simp] heap_drew
theorem insT : ElemT Try.prog 39 58 3 24 := ElemT.mk' (z := .agg #[.int .i64 0, .int .u64 0, .int .i64 0]) Try.underlying39 (by kernel_rfl) rfl
theorem farT : ElemT Try.prog 117 3 1 8 := ElemT.mk' (z := .int .i64 0) Try.underlying117 (by kernel_rfl) rfl
theorem scionT : ElemT Try.prog 26 48 12 80 := ElemT.mk' (z := .agg #[.int .i64 0, .int .u64 0, .int .i64 0, .int .i64 0, .int .i64 0, .int .i64 0, .int .i64 0, .bool false, .bool false, .bool false, .int .i64 0, .int .i64 0]) Try.underlying26 (by kernel_rfl) rfl
def StubPost (s : SumC) (w : World) (r : Ending) (w' : World) : Prop := ∃ x : SumE, Hid (x.con = s) ∧ r = .returned x.v ∧ Own InsetE.cells 3 58 w.heap.size w' (.slice x.A x.inset.length x.c) x.inset ∧ Below w.heap.size w w'
set_option maxHeartbeats 2000000 in
theorem root_any (k : ScionE) (w : World) : Calls Try.prog 69 #[k.v] w fun r w' => r = .returned (.bool (rootB k)) ∧ Below w.heap.size w w' := by
  obtain ⟨k1, k2, k3, k4, k5, k6, k7, k8, k9, k10, k11, k12⟩ := k
  have hz : ideq k3 k4 0 0 = decide ((⟨k3, k4⟩ : IDE) = ⟨0, 0⟩) := ideq_iff (a := ⟨k3, k4⟩) (b := ⟨0, 0⟩)
  have HV := hide (show rootB ⟨k1, k2, k3, k4, k5, k6, k7, k8, k9, k10, k11, k12⟩ = (!k9 && !k10 && !ideq k3 k4 0 0) by rw [hz]; rfl)
  clear hz
  dsimp only [ScionE.v]
  go_enter Try.func69, Try.ntmps69
  go_upto_region 1 with fail
  refine wp_name ?_
  intro w0 hw0
  obtain ⟨B0, l0⟩ := box1 hw0
  clear hw0
  cases k9
  · cases k10
    · go_wp2_with fail
      go_ret
      exact ⟨ret_bool (by rw [HV.out]; simp), below_of⟩
    · go_wp2_with fail
      go_ret
      exact ⟨ret_bool (by rw [HV.out]; simp), below_of⟩
  · go_wp2_with fail
    go_ret
    exact ⟨ret_bool (by rw [HV.out]; simp), below_of⟩
set_option maxHeartbeats 2000000 in
theorem before_any (x y : InsetE) (w : World) : Calls Try.prog 70 #[x.v, y.v] w fun r w' => r = .returned (.bool (ltIn x y)) ∧ Below w.heap.size w w' := by
  obtain ⟨x1, x2, x3⟩ := x
  obtain ⟨y1, y2, y3⟩ := y
  have HV := hide (show ltIn ⟨x1, x2, x3⟩ ⟨y1, y2, y3⟩ = decide (lexN x1 x2 y1 y2) from cmpIn_lt _ _)
  dsimp only [InsetE.v]
  go_enter Try.func70, Try.ntmps70
  go_upto_region 1 with fail
  refine wp_name ?_
  intro w0 hw0
  obtain ⟨B0, B1, l0⟩ := box2 hw0
  clear hw0
  by_cases h1 : x1 < y1
  · have HW := hide (show ltIn ⟨x1, x2, x3⟩ ⟨y1, y2, y3⟩ = true by rw [HV.out]; exact decide_eq_true (.inl h1))
    go_wp2_with fail
    go_ret
    exact ⟨ret_bool (by rw [HW.out]), below_of⟩
  · by_cases h2 : x1 = y1
    · subst h2
      have HW := hide (show ltIn ⟨x1, x2, x3⟩ ⟨x1, y2, y3⟩ = decide (x2 < y2) by rw [HV.out]; congr 1; unfold lexN; apply propext; omega)
      go_wp2_with fail
      go_ret
      exact ⟨ret_bool (by rw [HW.out]), below_of⟩
    · have HW := hide (show ltIn ⟨x1, x2, x3⟩ ⟨y1, y2, y3⟩ = false by rw [HV.out]; exact decide_eq_false (by unfold lexN; omega))
      have hb : (x1 == y1) = false := by rw [beq_eq_false_iff_ne]; exact h2
      go_wp2_with fail
      go_ret
      exact ⟨ret_bool (by rw [HW.out]), below_of⟩
end Go.Proofs.Ytomgdkfoinojiaa
