/-
  Contracts of the functions of this seat that each theorem names: what a call returns, and that it writes nothing that was there before. The conditions stand in each theorem.
-/
import Derived.Test.YtjegncmkebbdfaaGreatDoorGPlain
set_option linter.unusedSimpArgs false
set_option linter.unusedVariables false
namespace Go.Proofs.YtjegncmkebbdfaaGreatDoor
open Go.RowKit
set_option maxHeartbeats 800000 in
theorem run_eql_IDE (x y : IDE) (w : World) : (binOp .eql 44 x.v y.v).run Tryz.prog w = .ok (.bool (IDE.beq x y)) w := by
  have ht : Tryz.prog.underlying 44 = some (.struct (Tryz.prog.fieldsOf 44)) := by kernel_rfl
  have hp : Tryz.prog.stoodInHeld 44 = false := by kernel_rfl
  have hu := Tryz.underlying44
  rw [run_eql_struct, run_equalIn_struct w 9999 44 _ _ ht hp]
  obtain ⟨fs, hfs⟩ : ∃ fs, Tryz.prog.fieldsOf 44 = fs := ⟨_, rfl⟩
  rw [hfs] at ht ⊢
  rw [hu] at ht
  have ht2 := TypeDesc.struct.inj (Option.some.inj ht)
  subst ht2
  simp only [Op.eqFields, ne_eq]
  simp [go_sem, IDE.beq]
  clear hfs hu ht hp
  by_cases h0 : x.machine = y.machine
  rotate_left
  · rw [if_neg h0]
    simp [beq_eq_false_iff_ne.2 h0]
  rw [if_pos h0]
  have e0 := beq_iff_eq.2 h0
  by_cases h1 : x.serial = y.serial
  rotate_left
  · rw [if_neg h1]
    simp [beq_eq_false_iff_ne.2 h1]
  rw [if_pos h1]
  have e1 := beq_iff_eq.2 h1
  simp only [e0, e1]
  rfl
set_option maxHeartbeats 800000 in
theorem run_neq_IDE (x y : IDE) (w : World) : (binOp .neq 44 x.v y.v).run Tryz.prog w = .ok (.bool (!IDE.beq x y)) w := by
  have ht : Tryz.prog.underlying 44 = some (.struct (Tryz.prog.fieldsOf 44)) := by kernel_rfl
  have hp : Tryz.prog.stoodInHeld 44 = false := by kernel_rfl
  have hu := Tryz.underlying44
  rw [run_neq_struct, run_equalIn_struct w 9999 44 _ _ ht hp]
  obtain ⟨fs, hfs⟩ : ∃ fs, Tryz.prog.fieldsOf 44 = fs := ⟨_, rfl⟩
  rw [hfs] at ht ⊢
  rw [hu] at ht
  have ht2 := TypeDesc.struct.inj (Option.some.inj ht)
  subst ht2
  simp only [Op.eqFields, ne_eq]
  simp [go_sem, IDE.beq]
  clear hfs hu ht hp
  by_cases h0 : x.machine = y.machine
  rotate_left
  · rw [if_neg h0]
    simp [beq_eq_false_iff_ne.2 h0]
  rw [if_pos h0]
  have e0 := beq_iff_eq.2 h0
  by_cases h1 : x.serial = y.serial
  rotate_left
  · rw [if_neg h1]
    simp [beq_eq_false_iff_ne.2 h1]
  rw [if_pos h1]
  have e1 := beq_iff_eq.2 h1
  simp only [e0, e1]
  rfl
theorem idT : ElemT Tryz.prog 55 44 2 16 := ElemT.mk' (z := .agg #[.int .i64 0, .int .i64 0]) Tryz.underlying55 (by kernel_rfl) rfl
def ideq (a b c d : Int) : Bool := IDE.beq ⟨a, b⟩ ⟨c, d⟩
theorem run_eql_id (a b c d : Int) (w : World) : (binOp .eql 44 (.agg #[.int .i64 a, .int .i64 b]) (.agg #[.int .i64 c, .int .i64 d])).run Tryz.prog w = .ok (.bool (ideq a b c d)) w := run_eql_IDE ⟨a, b⟩ ⟨c, d⟩ w
theorem run_neq_id (a b c d : Int) (w : World) : (binOp .neq 44 (.agg #[.int .i64 a, .int .i64 b]) (.agg #[.int .i64 c, .int .i64 d])).run Tryz.prog w = .ok (.bool (!ideq a b c d)) w := run_neq_IDE ⟨a, b⟩ ⟨c, d⟩ w
theorem ideq_iff {a b : IDE} : ideq a.machine a.serial b.machine b.serial = decide (a = b) := by
  rw [Bool.eq_iff_iff, decide_eq_true_eq]
  exact IDE.beq_iff
attribute [local go_sem ↓] run_eql_id run_neq_id
def cmpI (a b : IDE) : Int := if a = b then 0 else if ltI a b then -1 else 1
set_option maxHeartbeats 1000000 in
theorem compare16_any (a b : IDE) (w : World) : Calls Tryz.prog 61 #[a.v, b.v] w fun r w' => r = .returned (.int .i64 (cmpI a b)) ∧ Below w.heap.size w w' := by
  obtain ⟨c, hc⟩ : ∃ c, c = cmpI a b := ⟨_, rfl⟩
  rw [← hc]
  have Hc := hide hc
  clear hc
  cases he : ideq a.machine a.serial b.machine b.serial
  · have hn := hide (show a ≠ b by rw [ideq_iff] at he; simpa using he)
    go_enter Tryz.func61, Tryz.ntmps61
    go_wp2_with fail
    all_goals go_ret
    all_goals exact ⟨ret_int (by rw [Hc.out]; unfold cmpI; rw [if_neg hn.out]; first | rw [if_pos (by unfold ltI; omega)] | rw [if_neg (by unfold ltI; omega)]), below_of⟩
  · have hn := hide (show a = b by rw [ideq_iff] at he; simpa using he)
    go_enter Tryz.func61, Tryz.ntmps61
    go_wp2_with fail
    all_goals go_ret
    all_goals exact ⟨ret_int (by rw [Hc.out]; unfold cmpI; rw [if_pos hn.out]), below_of⟩
end Go.Proofs.YtjegncmkebbdfaaGreatDoor
