/-
  Contracts of the functions of this seat that each theorem names: what a call returns, and that it writes nothing that was there before. The conditions stand in each theorem.
-/
import Derived.Test.YtjegncmkebbdfaaGreatDoorGrpI
set_option linter.unusedSimpArgs false
set_option linter.unusedVariables false
namespace Go.Proofs.YtjegncmkebbdfaaGreatDoor
open Go.RowKit
attribute [local go_sem ↓] run_eql_id run_neq_id
attribute [local simp] heap_drew
set_option maxHeartbeats 2000000 in
theorem encodeID_any (x : IDE) (w : World) : Calls Tryz.prog 71 #[x.v] w fun r w' => r = .returned (.tuple #[.int .u64 (if validIDB x then x.machine * 281474976710656 + x.serial else 0), .int .i64 (if validIDB x then 0 else 1)]) ∧ Below w.heap.size w w' := by
  obtain ⟨V, hV⟩ : ∃ V, V = validIDB x := ⟨_, rfl⟩
  rw [← hV]
  have HV := hide hV
  clear hV
  go_enter Tryz.func71, Tryz.ntmps71
  go_upto_region 1 with fail
  refine wp_name ?_
  intro w0 hw0
  obtain ⟨B0, l0⟩ := box1 hw0
  clear hw0
  by_cases h1 : x.machine < 1
  · obtain rfl : V = false := by rw [HV.out]; unfold validIDB; simp; omega
    go_wp2_with fail
    refine bodyPost_ret (v := .tuple #[.int .u64 0, .int .i64 1]) (by simp [results, Tryz.results71, go_sem]) rfl ?_
    exact ⟨rfl, below_of⟩
  · by_cases h2 : 8 < x.machine
    · obtain rfl : V = false := by rw [HV.out]; unfold validIDB; simp; omega
      go_wp2_with fail
      refine bodyPost_ret (v := .tuple #[.int .u64 0, .int .i64 1]) (by simp [results, Tryz.results71, go_sem]) rfl ?_
      exact ⟨rfl, below_of⟩
    · by_cases h3 : x.serial < 1
      · obtain rfl : V = false := by rw [HV.out]; unfold validIDB; simp; omega
        go_wp2_with fail
        refine bodyPost_ret (v := .tuple #[.int .u64 0, .int .i64 1]) (by simp [results, Tryz.results71, go_sem]) rfl ?_
        exact ⟨rfl, below_of⟩
      · by_cases h4 : 1099511627775 < x.serial
        · obtain rfl : V = false := by rw [HV.out]; unfold validIDB; simp; omega
          go_wp2_with fail
          refine bodyPost_ret (v := .tuple #[.int .u64 0, .int .i64 1]) (by simp [results, Tryz.results71, go_sem]) rfl ?_
          exact ⟨rfl, below_of⟩
        · obtain rfl : V = true := by rw [HV.out]; unfold validIDB; simp; omega
          go_wp2_with fail
          refine bodyPost_ret (v := .tuple #[.int .u64 (x.machine * 281474976710656 + x.serial), .int .i64 0]) (by simp [results, Tryz.results71, go_sem]) rfl ?_
          exact ⟨rfl, below_of⟩
set_option maxHeartbeats 1000000 in
theorem named_any (x : IDE) (w : World) : Calls Tryz.prog 93 #[x.v] w fun r w' => r = .returned (.bool (validIDB x)) ∧ Below w.heap.size w w' := by
  have HE := fun u : World => encodeID_any x u
  cases hv : validIDB x <;> simp only [hv] at HE
  all_goals
    clear hv
    go_enter Tryz.func93, Tryz.ntmps93
    go_upto_region 1 with fail
    refine wp_name ?_
    intro w0 hw0
    obtain ⟨B0, l0⟩ := box1 hw0
    clear hw0
    go_wp2_with (go_at_call 71; refine (HE _).mono ?_; rintro r w1 ⟨rfl, hb1⟩; have l1 := later hb1)
    go_ret
    exact ⟨rfl, below_of⟩
set_option maxHeartbeats 2000000 in
theorem validValS_any (v : ValE) (w : World) : Calls Tryz.prog 94 #[v.v] w fun r w' => r = .returned (.bool (validValB v)) ∧ Below w.heap.size w w' := by
  obtain ⟨V, hV⟩ : ∃ V, V = validValB v := ⟨_, rfl⟩
  rw [← hV]
  have HV := hide hV
  clear hV
  have hz := hide (show ideq v.refMachine v.refSerial 0 0 = decide (v.ref = ⟨0, 0⟩) from @ideq_iff v.ref ⟨0, 0⟩)
  go_enter Tryz.func94, Tryz.ntmps94
  go_upto_region 1 with fail
  refine wp_name ?_
  intro w0 hw0
  obtain ⟨B0, l0⟩ := box1 hw0
  clear hw0
  by_cases h0 : v.kind = 0
  · obtain ⟨k, i, m, s⟩ := v
    dsimp only at h0
    subst h0
    have hneq : ∀ u : World, (binOp .eql 46 (.agg #[.int .i64 0, .int .i64 i, .int .i64 m, .int .i64 s]) (.agg #[.int .i64 0, .int .i64 0, .int .i64 0, .int .i64 0])).run Tryz.prog u = .ok (.bool V) u := fun u => by
      rw [HV.out]
      exact run_eql_ValE ⟨0, i, m, s⟩ ⟨0, 0, 0, 0⟩ u
    go_wp2_with fail
    go_ret
    exact ⟨rfl, below_of⟩
  · by_cases h1 : v.kind = 1
    · have hv := hide (show V = (ideq v.refMachine v.refSerial 0 0 && decide (-2305843009213693952 ≤ v.int ∧ v.int ≤ 2305843009213693951)) by rw [HV.out, hz.out]; unfold validValB; rw [if_neg h0, if_pos h1])
      clear h0
      cases hq : ideq v.refMachine v.refSerial 0 0
      · by_cases h2 : -2305843009213693952 ≤ v.int
        · by_cases h3 : v.int ≤ 2305843009213693951
          · have hv2 := hide (show V = false by rw [hv.out, hq]; rfl)
            go_wp2_with fail
            go_ret
            exact ⟨ret_bool hv2.out.symm, below_of⟩
          · have hv2 := hide (show V = false by rw [hv.out, hq]; rfl)
            go_wp2_with fail
            go_ret
            exact ⟨ret_bool hv2.out.symm, below_of⟩
        · have hv2 := hide (show V = false by rw [hv.out, hq]; rfl)
          go_wp2_with fail
          go_ret
          exact ⟨ret_bool hv2.out.symm, below_of⟩
      · by_cases h2 : -2305843009213693952 ≤ v.int
        · by_cases h3 : v.int ≤ 2305843009213693951
          · have hv2 := hide (show V = true by rw [hv.out, hq]; simp [h2, h3])
            go_wp2_with fail
            go_ret
            exact ⟨ret_bool hv2.out.symm, below_of⟩
          · have hv2 := hide (show V = false by rw [hv.out, hq]; simp; omega)
            go_wp2_with fail
            go_ret
            exact ⟨ret_bool hv2.out.symm, below_of⟩
        · have hv2 := hide (show V = false by rw [hv.out, hq]; simp; omega)
          go_wp2_with fail
          go_ret
          exact ⟨ret_bool hv2.out.symm, below_of⟩
    · by_cases h2 : v.kind = 2
      · have hv := hide (show V = (decide (v.int = 0) && validIDB v.ref) by rw [HV.out]; unfold validValB; rw [if_neg h0, if_neg h1, if_pos h2])
        have HI := fun (u : World) => named_any v.ref u
        unfold ValE.ref at HI
        clear h0 h1
        by_cases h3 : v.int = 0
        · cases hi : validIDB v.ref
          all_goals
            have hi' := hi
            unfold ValE.ref at hi'
            simp only [hi'] at HI
            have hv2 := hide (show V = _ by rw [hv.out, hi, h3])
            clear hi hi'
            go_wp2_with (go_at_call 93; refine (HI _).mono ?_; rintro r w1 ⟨rfl, hb1⟩; have l1 := later hb1)
            go_ret
            exact ⟨ret_bool (by rw [hv2.out]; rfl), below_of⟩
        · have hv2 := hide (show V = false by rw [hv.out]; simp [h3])
          have h3b : (v.int == 0) = false := by simp [h3]
          go_wp2_with fail
          go_ret
          exact ⟨ret_bool hv2.out.symm, below_of⟩
      · have hv2 := hide (show V = false by rw [HV.out]; unfold validValB; rw [if_neg h0, if_neg h1, if_neg h2])
        have h0b : (v.kind == 0) = false := by simp [h0]
        have h1b : (v.kind == 1) = false := by simp [h1]
        have h2b : (v.kind == 2) = false := by simp [h2]
        go_wp2_with fail
        go_ret
        exact ⟨ret_bool hv2.out.symm, below_of⟩
end Go.Proofs.YtjegncmkebbdfaaGreatDoor
