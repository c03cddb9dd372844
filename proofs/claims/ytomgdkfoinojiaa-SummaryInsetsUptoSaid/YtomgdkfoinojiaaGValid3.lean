/-
  Contracts of the functions of this seat that each theorem names: what a call returns, and that it writes nothing that was there before. The conditions stand in each theorem.
-/
import Derived.Test.YtomgdkfoinojiaaGValid2
namespace Go.Proofs.Ytomgdkfoinojiaa
open Go.RowKit
attribute [local go_sem ↓] run_eql_id run_neq_id
attribute [local simp] heap_drew
/-- The node at k is valid, and it lies past the one before it. -/
def okAtB (l : List NodeC) (k : Nat) : Bool :=
  match l[k]? with
  | none => true
  | some n => validNodeB n && (match k with
    | 0 => true
    | j + 1 => match l[j]? with
      | none => true
      | some m => decide (cmpI m.id n.id < 0))
def valid16B (l : List NodeC) : Bool := (List.range l.length).all (okAtB l)
theorem valid16_bad {l : List NodeC} {k : Nat} (hk : k < l.length) (h : okAtB l k = false) : valid16B l = false :=
  List.all_eq_false.2 ⟨k, List.mem_range.2 hk, by rw [h]; simp⟩
theorem valid16_all {l : List NodeC} (h : ∀ k, k < l.length → okAtB l k = true) : valid16B l = true :=
  List.all_eq_true.2 fun k hk => h k (List.mem_range.1 hk)
theorem upto_succ {p : Nat → Bool} {k : Nat} (h : ∀ j, j < k → p j = true) (hk : p k = true) : ∀ j, j < k + 1 → p j = true := fun j hj => by
  rcases Nat.lt_or_ge j k with h1 | h1
  · exact h j h1
  · have : j = k := by omega
    rw [this]; exact hk
set_option maxRecDepth 100000 in
set_option maxHeartbeats 4000000 in
theorem valid16_any (A : Option Addr) (c : Nat) (l : List NodeE) (w : World) (H : NodesAt w A l) (hl : l.length ≤ 1000000000) (hf : ∀ n ∈ l, n.fields.length ≤ 1000000000) : Calls Try.prog 17 #[.agg #[.slice A l.length c]] w fun r w' => r = .returned (.bool (valid16B (conL l))) ∧ Below w.heap.size w w' := by
  have HL := H.later
  have hl' : l.length ≤ 9223372036854775807 := by omega
  obtain ⟨R, hR⟩ : ∃ R, R = valid16B (conL l) := ⟨_, rfl⟩
  rw [← hR]
  have HR := hide hR
  clear hR
  go_enter Try.func17, Try.ntmps17
  go_upto_region 1 with fail
  refine wp_name ?_
  intro w0 hw0
  obtain ⟨B0, l0⟩ := box1 hw0
  clear hw0
  go_wp2_with fail
  go_loopw [3] (fun iv wr => ∃ k : Nat, k ≤ l.length ∧ iv = .int .i64 k ∧ Hid (∀ j, j < k → okAtB (conL l) j = true) ∧ Below w0.heap.size w0 wr) (fun iv _ => l.length - (intOf iv).toNat)
  case atStart => exact ⟨0, by omega, rfl, hide (fun j h => absurd h (by omega)), Below.refl _ _⟩
  case round =>
    obtain ⟨k, hk, rfl, Hno, hbr⟩ := hrel
    have lr := later hbr
    by_cases hlt : k < l.length
    · have hki : (k : Int) < (l.length : Int) := by omega
      obtain ⟨b1, o1, n, rfl, hn, C1, F1, hf1, hf2⟩ := (HL wr).get hlt
      have hcon : (conL l)[k]? = some n.con := by unfold conL; rw [List.getElem?_map, hn]; rfl
      have hnf := hf n (List.mem_of_getElem? hn)
      have hlc : (conL l).length = l.length := by unfold conL; rw [List.length_map]
      have HV : ∀ u [Later wr u], Calls Try.prog 35 #[n.v] u fun r w' => r = .returned (.bool (validNodeB n.con)) ∧ Below u.heap.size u w' := fun u i => validNode_any n.iDMachine n.iDSerial n.kind n.clas n.A n.c n.fields u (F1 u) hnf
      cases hv : validNodeB n.con <;> simp only [hv] at HV
      · have hbad := hide (show R = false by rw [HR.out]; exact valid16_bad (by rw [hlc]; exact hlt) (by unfold okAtB; rw [hcon]; dsimp only; rw [hv]; rfl))
        clear hv hn hcon hlc hnf
        go_upto_region 4 with fail
        (refine wp_region_after (by kernel_rfl) (by kernel_rfl) ?_
         repeat (any_goals (first | go_big_quiet_skip | (go_big_quiet_want; go_big_quiet_op; first | go_big_quiet_on | go_big_quiet_call ((go_at_call 35; exact Calls.after (HV _)))) | quiet_step ((go_at_call 35; exact Calls.after (HV _))) | (refine wpQuiet_step (fun K hK => ?_); go_simp; split <;> (refine hK _ ?_; clear hK K))))
         all_goals (refine wpQuiet_nil ?_; intro _ hw'; obtain ⟨u', hw''⟩ := hw'; subst hw''; obtain ⟨wd, hbd⟩ := u'; simp only [After.val_mk]))
        have ld := later hbd
        go_wp2_with fail
        go_ret
        exact ⟨ret_bool hbad.out.symm, below_of⟩
      · rcases k with _ | j
        · have hok := hide (show okAtB (conL l) 0 = true by unfold okAtB; rw [hcon]; dsimp only; rw [hv]; rfl)
          clear hv hn hcon hlc hnf
          simp only [Nat.zero_mul, Nat.add_zero] at C1
          have hki : (0 : Int) < (l.length : Int) := by omega
          go_upto_region 4 with fail
          (refine wp_region_after (by kernel_rfl) (by kernel_rfl) ?_
           repeat (any_goals (first | go_big_quiet_skip | (go_big_quiet_want; go_big_quiet_op; first | go_big_quiet_on | go_big_quiet_call ((go_at_call 35; exact Calls.after (HV _)))) | quiet_step ((go_at_call 35; exact Calls.after (HV _))) | (refine wpQuiet_step (fun K hK => ?_); go_simp; split <;> (refine hK _ ?_; clear hK K))))
           all_goals (refine wpQuiet_nil ?_; intro _ hw'; obtain ⟨u', hw''⟩ := hw'; subst hw''; obtain ⟨wd, hbd⟩ := u'; simp only [After.val_mk]))
          have ld := later hbd
          go_wp2_with fail
          go_roundw
          case rel => exact ⟨1, by omega, by go_num, hide (upto_succ Hno.out hok.out), below_of⟩
          case measure => simp [intOf]; omega
        · obtain ⟨b2, o2, m, hA, hm, C2, -, -, -⟩ := (HL wr).get (k := j) (by omega)
          injection hA with hA
          injection hA with hA1 hA2
          subst hA1 hA2
          have hcon2 : (conL l)[j]? = some m.con := by unfold conL; rw [List.getElem?_map, hm]; rfl
          obtain ⟨cv, hcv⟩ : ∃ cv, cv = cmpI m.con.id n.con.id := ⟨_, rfl⟩
          have HC : ∀ u, Calls Try.prog 36 #[.agg #[.int .i64 m.iDMachine, .int .i64 m.iDSerial], .agg #[.int .i64 n.iDMachine, .int .i64 n.iDSerial]] u fun r w' => r = .returned (.int .i64 cv) ∧ Below u.heap.size u w' := fun u => by rw [hcv]; exact compare16_any m.con.id n.con.id u
          have hji : (((j + 1 : Nat) : Int) - 1) = (j : Int) := by omega
          have hj0 : (0 : Int) < ((j + 1 : Nat) : Int) := by omega
          by_cases hc : 0 ≤ cv
          · have hbad := hide (show R = false by
              rw [HR.out]; refine valid16_bad (k := j + 1) (by rw [hlc]; exact hlt) ?_
              unfold okAtB; rw [hcon]; dsimp only; rw [hv, hcon2]; dsimp only; rw [← hcv]; simp; omega)
            clear hv hn hcon hlc hnf hm hcon2 hcv
            go_upto_region 4 with fail
            (refine wp_region_after (by kernel_rfl) (by kernel_rfl) ?_
             repeat (any_goals (first | go_big_quiet_skip | (go_big_quiet_want; go_big_quiet_op; first | go_big_quiet_on | go_big_quiet_call ((first | (go_at_call 35; exact Calls.after (HV _)) | (go_at_call 36; exact Calls.after (HC _))))) | quiet_step ((first | (go_at_call 35; exact Calls.after (HV _)) | (go_at_call 36; exact Calls.after (HC _)))) | (refine wpQuiet_step (fun K hK => ?_); go_simp; split <;> (refine hK _ ?_; clear hK K))))
             all_goals (refine wpQuiet_nil ?_; intro _ hw'; obtain ⟨u', hw''⟩ := hw'; subst hw''; obtain ⟨wd, hbd⟩ := u'; simp only [After.val_mk]))
            have ld := later hbd
            go_wp2_with fail
            go_ret
            exact ⟨ret_bool hbad.out.symm, below_of⟩
          · have hok := hide (show okAtB (conL l) (j + 1) = true by
              unfold okAtB; rw [hcon]; dsimp only; rw [hv, hcon2]; dsimp only; rw [← hcv]; simp; omega)
            clear hv hn hcon hlc hnf hm hcon2 hcv
            go_upto_region 4 with fail
            (refine wp_region_after (by kernel_rfl) (by kernel_rfl) ?_
             repeat (any_goals (first | go_big_quiet_skip | (go_big_quiet_want; go_big_quiet_op; first | go_big_quiet_on | go_big_quiet_call ((first | (go_at_call 35; exact Calls.after (HV _)) | (go_at_call 36; exact Calls.after (HC _))))) | quiet_step ((first | (go_at_call 35; exact Calls.after (HV _)) | (go_at_call 36; exact Calls.after (HC _)))) | (refine wpQuiet_step (fun K hK => ?_); go_simp; split <;> (refine hK _ ?_; clear hK K))))
             all_goals (refine wpQuiet_nil ?_; intro _ hw'; obtain ⟨u', hw''⟩ := hw'; subst hw''; obtain ⟨wd, hbd⟩ := u'; simp only [After.val_mk]))
            have ld := later hbd
            go_wp2_with fail
            go_roundw
            case rel => exact ⟨j + 1 + 1, by omega, by go_num, hide (upto_succ Hno.out hok.out), below_of⟩
            case measure => simp [intOf]; omega
    · have hk' : k = l.length := by omega
      subst hk'
      have hok := hide (show R = true by rw [HR.out]; exact valid16_all (fun j hj => Hno.out j (by unfold conL at hj; rw [List.length_map] at hj; exact hj)))
      go_wp2_with fail
      go_ret
      exact ⟨ret_bool hok.out.symm, below_of⟩
end Go.Proofs.Ytomgdkfoinojiaa
