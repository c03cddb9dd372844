/-
  Contracts of the functions of this seat that each theorem names: what a call returns, and that it writes nothing that was there before. The conditions stand in each theorem.
-/
import Derived.Test.YtomgdkfoinojiaaGFind
namespace Go.Proofs.Ytomgdkfoinojiaa
open Go.RowKit
attribute [local go_sem ↓] run_eql_id run_neq_id
attribute [local simp] heap_drew
set_option maxHeartbeats 800000 in
theorem run_eql_ValE (x y : ValE) (w : World) : (binOp .eql 94 x.v y.v).run Try.prog w = .ok (.bool (ValE.beq x y)) w := by
  have ht : Try.prog.underlying 94 = some (.struct (Try.prog.fieldsOf 94)) := by kernel_rfl
  have hp : Try.prog.stoodInHeld 94 = false := by kernel_rfl
  have hu := Try.underlying94
  rw [run_eql_struct, run_equalIn_struct w 9999 94 _ _ ht hp]
  obtain ⟨fs, hfs⟩ : ∃ fs, Try.prog.fieldsOf 94 = fs := ⟨_, rfl⟩
  rw [hfs] at ht ⊢
  rw [hu] at ht
  have ht2 := TypeDesc.struct.inj (Option.some.inj ht)
  subst ht2
  simp only [Op.eqFields, ne_eq]
  simp [go_sem, ValE.beq]
  clear hfs hu ht hp
  by_cases h0 : x.kind = y.kind
  rotate_left
  · rw [if_neg h0]
    simp [beq_eq_false_iff_ne.2 h0]
  rw [if_pos h0]
  have e0 := beq_iff_eq.2 h0
  by_cases h1 : x.int = y.int
  rotate_left
  · rw [if_neg h1]
    simp [beq_eq_false_iff_ne.2 h1]
  rw [if_pos h1]
  have e1 := beq_iff_eq.2 h1
  by_cases h2 : x.refMachine = y.refMachine
  rotate_left
  · rw [if_neg h2]
    simp [beq_eq_false_iff_ne.2 h2]
  rw [if_pos h2]
  have e2 := beq_iff_eq.2 h2
  by_cases h3 : x.refSerial = y.refSerial
  rotate_left
  · rw [if_neg h3]
    simp [beq_eq_false_iff_ne.2 h3]
  rw [if_pos h3]
  have e3 := beq_iff_eq.2 h3
  simp only [e0, e1, e2, e3]
  rfl
set_option maxHeartbeats 800000 in
theorem run_neq_ValE (x y : ValE) (w : World) : (binOp .neq 94 x.v y.v).run Try.prog w = .ok (.bool (!ValE.beq x y)) w := by
  have ht : Try.prog.underlying 94 = some (.struct (Try.prog.fieldsOf 94)) := by kernel_rfl
  have hp : Try.prog.stoodInHeld 94 = false := by kernel_rfl
  have hu := Try.underlying94
  rw [run_neq_struct, run_equalIn_struct w 9999 94 _ _ ht hp]
  obtain ⟨fs, hfs⟩ : ∃ fs, Try.prog.fieldsOf 94 = fs := ⟨_, rfl⟩
  rw [hfs] at ht ⊢
  rw [hu] at ht
  have ht2 := TypeDesc.struct.inj (Option.some.inj ht)
  subst ht2
  simp only [Op.eqFields, ne_eq]
  simp [go_sem, ValE.beq]
  clear hfs hu ht hp
  by_cases h0 : x.kind = y.kind
  rotate_left
  · rw [if_neg h0]
    simp [beq_eq_false_iff_ne.2 h0]
  rw [if_pos h0]
  have e0 := beq_iff_eq.2 h0
  by_cases h1 : x.int = y.int
  rotate_left
  · rw [if_neg h1]
    simp [beq_eq_false_iff_ne.2 h1]
  rw [if_pos h1]
  have e1 := beq_iff_eq.2 h1
  by_cases h2 : x.refMachine = y.refMachine
  rotate_left
  · rw [if_neg h2]
    simp [beq_eq_false_iff_ne.2 h2]
  rw [if_pos h2]
  have e2 := beq_iff_eq.2 h2
  by_cases h3 : x.refSerial = y.refSerial
  rotate_left
  · rw [if_neg h3]
    simp [beq_eq_false_iff_ne.2 h3]
  rw [if_pos h3]
  have e3 := beq_iff_eq.2 h3
  simp only [e0, e1, e2, e3]
  rfl
def validIDB (x : IDE) : Bool := decide (1 ≤ x.machine ∧ x.machine ≤ 8 ∧ 1 ≤ x.serial ∧ x.serial ≤ 1099511627775)
def validValB (v : ValE) : Bool := if v.kind = 0 then ValE.beq v ⟨0, 0, 0, 0⟩ else if v.kind = 1 then (decide (v.ref = ⟨0, 0⟩) && decide (-2305843009213693952 ≤ v.int ∧ v.int ≤ 2305843009213693951)) else if v.kind = 2 then (decide (v.int = 0) && validIDB v.ref) else false
set_option maxHeartbeats 1000000 in
theorem validID_any (x : IDE) (w : World) : Calls Try.prog 73 #[x.v] w fun r w' => r = .returned (.bool (validIDB x)) ∧ Below w.heap.size w w' := by
  obtain ⟨V, hV⟩ : ∃ V, V = validIDB x := ⟨_, rfl⟩
  rw [← hV]
  have HV := hide hV
  clear hV
  go_enter Try.func73, Try.ntmps73
  go_upto_region 1 with fail
  refine wp_name ?_
  intro w0 hw0
  obtain ⟨B0, l0⟩ := box1 hw0
  clear hw0
  by_cases h1 : 1 ≤ x.machine
  · by_cases h2 : x.machine ≤ 8
    · by_cases h3 : 1 ≤ x.serial
      · by_cases h4 : x.serial ≤ 1099511627775
        · have hv := hide (show V = true by rw [HV.out]; unfold validIDB; simp [h1, h2, h3, h4])
          go_wp2_with fail
          go_ret
          exact ⟨ret_bool hv.out.symm, below_of⟩
        · have hv := hide (show V = false by rw [HV.out]; unfold validIDB; simp; omega)
          go_wp2_with fail
          go_ret
          exact ⟨ret_bool hv.out.symm, below_of⟩
      · have hv := hide (show V = false by rw [HV.out]; unfold validIDB; simp; omega)
        go_wp2_with fail
        go_ret
        exact ⟨ret_bool hv.out.symm, below_of⟩
    · have hv := hide (show V = false by rw [HV.out]; unfold validIDB; simp; omega)
      go_wp2_with fail
      go_ret
      exact ⟨ret_bool hv.out.symm, below_of⟩
  · have hv := hide (show V = false by rw [HV.out]; unfold validIDB; simp; omega)
    go_wp2_with fail
    go_ret
    exact ⟨ret_bool hv.out.symm, below_of⟩
set_option maxHeartbeats 2000000 in
theorem validVal_any (v : ValE) (w : World) : Calls Try.prog 72 #[v.v] w fun r w' => r = .returned (.bool (validValB v)) ∧ Below w.heap.size w w' := by
  obtain ⟨V, hV⟩ : ∃ V, V = validValB v := ⟨_, rfl⟩
  rw [← hV]
  have HV := hide hV
  clear hV
  have hz := hide (show ideq v.refMachine v.refSerial 0 0 = decide (v.ref = ⟨0, 0⟩) from @ideq_iff v.ref ⟨0, 0⟩)
  go_enter Try.func72, Try.ntmps72
  go_upto_region 1 with fail
  refine wp_name ?_
  intro w0 hw0
  obtain ⟨B0, l0⟩ := box1 hw0
  clear hw0
  by_cases h0 : v.kind = 0
  · obtain ⟨k, i, m, s⟩ := v
    dsimp only at h0
    subst h0
    have hneq : ∀ u : World, (binOp .eql 94 (.agg #[.int .i64 0, .int .i64 i, .int .i64 m, .int .i64 s]) (.agg #[.int .i64 0, .int .i64 0, .int .i64 0, .int .i64 0])).run Try.prog u = .ok (.bool V) u := fun u => by
      rw [HV.out]
      exact run_eql_ValE ⟨0, i, m, s⟩ ⟨0, 0, 0, 0⟩ u
    go_wp2_with fail
    go_ret
    exact ⟨rfl, below_of⟩
  · by_cases h1 : v.kind = 1
    · have hv := hide (show V = (ideq v.refMachine v.refSerial 0 0 && decide (-2305843009213693952 ≤ v.int ∧ v.int ≤ 2305843009213693951)) by rw [HV.out, hz.out]; unfold validValB; rw [if_neg h0, if_pos h1])
      clear h0
      cases hq : ideq v.refMachine v.refSerial 0 0
      · have hv2 := hide (show V = false by rw [hv.out, hq]; rfl)
        go_wp2_with fail
        go_ret
        exact ⟨ret_bool hv2.out.symm, below_of⟩
      · by_cases h2 : -2305843009213693952 ≤ v.int
        · by_cases h3 : v.int ≤ 2305843009213693951
          · have hv2 := hide (show V = true by rw [hv.out, hq]; simp [h2, h3])
            go_wp2_with fail
            go_ret
            exact ⟨ret_bool hv2.out.symm, below_of⟩
          · have hv2 := hide (show V = false by rw [hv.out, hq]; simp; omega)
            go_wp2_with fail
            go_ret
            exact ⟨ret_bool hv2.out.symm, below_of⟩
        · have hv2 := hide (show V = false by rw [hv.out, hq]; simp; omega)
          go_wp2_with fail
          go_ret
          exact ⟨ret_bool hv2.out.symm, below_of⟩
    · by_cases h2 : v.kind = 2
      · have hv := hide (show V = (decide (v.int = 0) && validIDB v.ref) by rw [HV.out]; unfold validValB; rw [if_neg h0, if_neg h1, if_pos h2])
        have HI := fun (u : World) => validID_any v.ref u
        unfold ValE.ref at HI
        clear h0 h1
        by_cases h3 : v.int = 0
        · cases hi : validIDB v.ref
          all_goals
            have hi' := hi
            unfold ValE.ref at hi'
            simp only [hi'] at HI
            have hv2 := hide (show V = _ by rw [hv.out, hi, h3])
            clear hi hi'
            go_wp2_with (go_at_call 73; refine (HI _).mono ?_; rintro r w1 ⟨rfl, hb1⟩; have l1 := later hb1)
            go_ret
            exact ⟨ret_bool (by rw [hv2.out]; rfl), below_of⟩
        · have hv2 := hide (show V = false by rw [hv.out]; simp [h3])
          have h3b : (v.int == 0) = false := by simp [h3]
          go_wp2_with fail
          go_ret
          exact ⟨ret_bool hv2.out.symm, below_of⟩
      · have hv2 := hide (show V = false by rw [HV.out]; unfold validValB; rw [if_neg h0, if_neg h1, if_neg h2])
        have h0b : (v.kind == 0) = false := by simp [h0]
        have h1b : (v.kind == 1) = false := by simp [h1]
        have h2b : (v.kind == 2) = false := by simp [h2]
        go_wp2_with fail
        go_ret
        exact ⟨ret_bool hv2.out.symm, below_of⟩
end Go.Proofs.Ytomgdkfoinojiaa
