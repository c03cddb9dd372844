/-
  Contracts of the functions of this seat that each theorem names: what a call returns, and that it writes nothing that was there before. The conditions stand in each theorem.
-/
import Derived.Test.YtjegncmkebbdfaaDoorGPlain
set_option linter.unusedSimpArgs false
set_option linter.unusedVariables false
namespace Go.Proofs.YtjegncmkebbdfaaDoor
open Go.RowKit
set_option maxHeartbeats 800000 in
theorem run_eql_IDE (x y : IDE) (w : World) : (binOp .eql 31 x.v y.v).run Tryd.prog w = .ok (.bool (IDE.beq x y)) w := by
  have ht : Tryd.prog.underlying 31 = some (.struct (Tryd.prog.fieldsOf 31)) := by kernel_rfl
  have hp : Tryd.prog.stoodInHeld 31 = false := by kernel_rfl
  have hu := Tryd.underlying31
  rw [run_eql_struct, run_equalIn_struct w 9999 31 _ _ ht hp]
  obtain ⟨fs, hfs⟩ : ∃ fs, Tryd.prog.fieldsOf 31 = fs := ⟨_, rfl⟩
  rw [hfs] at ht ⊢
  rw [hu] at ht
  have ht2 := TypeDesc.struct.inj (Option.some.inj ht)
  subst ht2
  simp only [Op.eqFields, ne_eq]
  simp [go_sem, IDE.beq]
  clear hfs hu ht hp
  by_cases h0 : x.machine = y.machine
  rotate_left
  · rw [if_neg h0]
    simp [beq_eq_false_iff_ne.2 h0]
  rw [if_pos h0]
  have e0 := beq_iff_eq.2 h0
  by_cases h1 : x.serial = y.serial
  rotate_left
  · rw [if_neg h1]
    simp [beq_eq_false_iff_ne.2 h1]
  rw [if_pos h1]
  have e1 := beq_iff_eq.2 h1
  simp only [e0, e1]
  rfl
set_option maxHeartbeats 800000 in
theorem run_neq_IDE (x y : IDE) (w : World) : (binOp .neq 31 x.v y.v).run Tryd.prog w = .ok (.bool (!IDE.beq x y)) w := by
  have ht : Tryd.prog.underlying 31 = some (.struct (Tryd.prog.fieldsOf 31)) := by kernel_rfl
  have hp : Tryd.prog.stoodInHeld 31 = false := by kernel_rfl
  have hu := Tryd.underlying31
  rw [run_neq_struct, run_equalIn_struct w 9999 31 _ _ ht hp]
  obtain ⟨fs, hfs⟩ : ∃ fs, Tryd.prog.fieldsOf 31 = fs := ⟨_, rfl⟩
  rw [hfs] at ht ⊢
  rw [hu] at ht
  have ht2 := TypeDesc.struct.inj (Option.some.inj ht)
  subst ht2
  simp only [Op.eqFields, ne_eq]
  simp [go_sem, IDE.beq]
  clear hfs hu ht hp
  by_cases h0 : x.machine = y.machine
  rotate_left
  · rw [if_neg h0]
    simp [beq_eq_false_iff_ne.2 h0]
  rw [if_pos h0]
  have e0 := beq_iff_eq.2 h0
  by_cases h1 : x.serial = y.serial
  rotate_left
  · rw [if_neg h1]
    simp [beq_eq_false_iff_ne.2 h1]
  rw [if_pos h1]
  have e1 := beq_iff_eq.2 h1
  simp only [e0, e1]
  rfl
theorem idT : ElemT Tryd.prog 25 31 2 16 := ElemT.mk' (z := .agg #[.int .i64 0, .int .i64 0]) Tryd.underlying25 (by kernel_rfl) rfl
def ideq (a b c d : Int) : Bool := IDE.beq ⟨a, b⟩ ⟨c, d⟩
theorem run_eql_id (a b c d : Int) (w : World) : (binOp .eql 31 (.agg #[.int .i64 a, .int .i64 b]) (.agg #[.int .i64 c, .int .i64 d])).run Tryd.prog w = .ok (.bool (ideq a b c d)) w := run_eql_IDE ⟨a, b⟩ ⟨c, d⟩ w
theorem run_neq_id (a b c d : Int) (w : World) : (binOp .neq 31 (.agg #[.int .i64 a, .int .i64 b]) (.agg #[.int .i64 c, .int .i64 d])).run Tryd.prog w = .ok (.bool (!ideq a b c d)) w := run_neq_IDE ⟨a, b⟩ ⟨c, d⟩ w
theorem ideq_iff {a b : IDE} : ideq a.machine a.serial b.machine b.serial = decide (a = b) := by
  rw [Bool.eq_iff_iff, decide_eq_true_eq]
  exact IDE.beq_iff
attribute [local go_sem ↓] run_eql_id run_neq_id
set_option maxRecDepth 100000 in
set_option maxHeartbeats 2000000 in
theorem hasID_any (A : Option Addr) (C : Nat) (xs : List IDE) (x : IDE) (w : World) (hs : SlAt IDE.cells 2 w A xs) (hl : xs.length ≤ 1000000000) : Calls Tryd.prog 13 #[.slice A xs.length C, x.v] w fun r w' => r = .returned (.bool (decide (x ∈ xs))) ∧ Below w.heap.size w w' := by
  have HS : ∀ u [Later w u], SlAt IDE.cells 2 u A xs := fun u i => hs.below i.below
  have hl' : xs.length ≤ 9223372036854775807 := by omega
  go_enter Tryd.func13, Tryd.ntmps13
  go_upto_region 1 with fail
  refine wp_name ?_
  intro w0 hw0
  obtain ⟨B0, l0⟩ := box1 hw0
  clear hw0
  go_wp2_with fail
  go_loopw [5] (fun iv wr => ∃ k : Nat, k ≤ xs.length ∧ iv = .int .i64 k ∧ (∀ (j : Nat) (y : IDE), j < k → xs[j]? = some y → y ≠ x) ∧ Below w0.heap.size w0 wr) (fun iv _ => xs.length - (intOf iv).toNat)
  case atStart => exact ⟨0, by omega, rfl, fun j y h => absurd h (by omega), Below.refl _ _⟩
  case round =>
    obtain ⟨k, hk, rfl, hno, hbr⟩ := hrel
    have lr := later hbr
    have Hno := hide hno
    clear hno
    by_cases hlt : k < xs.length
    · obtain ⟨b1, o1, y, rfl, hy, C1⟩ := IDE.get (HS wr) hlt
      have Hy := hide hy
      clear hy
      cases hp : ideq y.machine y.serial x.machine x.serial
      · have hne := hide (show y ≠ x by rw [ideq_iff] at hp; simpa using hp)
        go_upto_region 4 with fail
        (refine wp_region_after (by kernel_rfl) (by kernel_rfl) ?_
         repeat (any_goals (first | go_big_quiet_skip | (go_big_quiet_want; go_big_quiet_op; first | go_big_quiet_on | go_big_quiet_call (fail)) | quiet_step (fail) | (refine wpQuiet_step (fun K hK => ?_); go_simp; split <;> (refine hK _ ?_; clear hK K))))
         all_goals (refine wpQuiet_nil ?_; intro _ hw'; obtain ⟨u', hw''⟩ := hw'; subst hw''; obtain ⟨wd, hbd⟩ := u'; simp only [After.val_mk]))
        have ld := later hbd
        go_wp2_with fail
        go_roundw
        case rel => exact ⟨k + 1, by omega, by go_num, fun j z hj hz => by
          rcases Nat.lt_or_ge j k with h | h
          · exact Hno.out j z h hz
          · have : j = k := by omega
            subst this
            rw [Hy.out] at hz; injection hz with hz; subst hz; exact hne.out, below_of⟩
        case measure => simp [intOf]; omega
      · have he := hide (show x ∈ xs by
          rw [ideq_iff, decide_eq_true_eq] at hp
          exact hp ▸ List.mem_of_getElem? Hy.out)
        go_upto_region 4 with fail
        (refine wp_region_after (by kernel_rfl) (by kernel_rfl) ?_
         repeat (any_goals (first | go_big_quiet_skip | (go_big_quiet_want; go_big_quiet_op; first | go_big_quiet_on | go_big_quiet_call (fail)) | quiet_step (fail) | (refine wpQuiet_step (fun K hK => ?_); go_simp; split <;> (refine hK _ ?_; clear hK K))))
         all_goals (refine wpQuiet_nil ?_; intro _ hw'; obtain ⟨u', hw''⟩ := hw'; subst hw''; obtain ⟨wd, hbd⟩ := u'; simp only [After.val_mk]))
        have ld := later hbd
        go_wp2_with fail
        go_ret
        exact ⟨ret_bool (by simp [he.out]), below_of⟩
    · have hk' : k = xs.length := by omega
      subst hk'
      have he := hide (show ¬ x ∈ xs from fun h => by
        obtain ⟨j, hj⟩ := List.getElem?_of_mem h
        exact Hno.out j x (List.getElem?_eq_some_iff.1 hj).1 hj rfl)
      go_wp2_with fail
      go_ret
      exact ⟨ret_bool (by simp [he.out]), below_of⟩
def cmpI (a b : IDE) : Int := if a = b then 0 else if ltI a b then -1 else 1
set_option maxHeartbeats 1000000 in
theorem compare16_any (a b : IDE) (w : World) : Calls Tryd.prog 26 #[a.v, b.v] w fun r w' => r = .returned (.int .i64 (cmpI a b)) ∧ Below w.heap.size w w' := by
  obtain ⟨c, hc⟩ : ∃ c, c = cmpI a b := ⟨_, rfl⟩
  rw [← hc]
  have Hc := hide hc
  clear hc
  cases he : ideq a.machine a.serial b.machine b.serial
  · have hn := hide (show a ≠ b by rw [ideq_iff] at he; simpa using he)
    go_enter Tryd.func26, Tryd.ntmps26
    go_wp2_with fail
    all_goals go_ret
    all_goals exact ⟨ret_int (by rw [Hc.out]; unfold cmpI; rw [if_neg hn.out]; first | rw [if_pos (by unfold ltI; omega)] | rw [if_neg (by unfold ltI; omega)]), below_of⟩
  · have hn := hide (show a = b by rw [ideq_iff] at he; simpa using he)
    go_enter Tryd.func26, Tryd.ntmps26
    go_wp2_with fail
    all_goals go_ret
    all_goals exact ⟨ret_int (by rw [Hc.out]; unfold cmpI; rw [if_pos hn.out]), below_of⟩
end Go.Proofs.YtjegncmkebbdfaaDoor
