/-
  Contracts of the functions of this seat that each theorem names: what a call returns, and that it writes nothing that was there before. The conditions stand in each theorem.
-/
import Derived.Test.YtffnogjgnpbjlaaGrp15
set_option linter.unusedSimpArgs false
set_option linter.unusedVariables false
namespace Go.Proofs.Ytffnogjgnpbjlaa
open Go.RowKit
set_option maxHeartbeats 800000 in
attribute [local go_sem ↓] run_neq_IDE in
theorem same21_any (aA : Option Addr) (aC : Nat) (a : List IDE) (bA : Option Addr) (bC : Nat) (b : List IDE) (w : World) (ha : SlAt IDE.cells 2 w aA a) (hb : SlAt IDE.cells 2 w bA b) (hal : a.length ≤ 9223372036854775807) (_ : b.length ≤ 9223372036854775807) :
    Calls Try.prog 14 #[.slice aA a.length aC, .slice bA b.length bC] w fun r w' => ∃ q : Bool, r = .returned (.bool q) ∧ (q = true ↔ a = b) ∧ Below w.heap.size w w' := by
  by_cases hl : a.length = b.length
  rotate_left
  · have hl' : ¬ (a.length : Int) = (b.length : Int) := by omega
    have Hl := hide hl
    clear hl
    go_enter Try.func14, Try.ntmps14
    go_wp2
    go_ret
    exact ⟨false, rfl, ⟨(fun h => by cases h), fun h => absurd (congrArg List.length h) Hl.out⟩, Below.refl _ _⟩
  have Hl := hide hl
  have hl' : ((a.length : Int) != (b.length : Int)) = false := by simp [hl]
  clear hl
  have Ha := ha.later
  have Hb := hb.later
  go_enter Try.func14, Try.ntmps14
  go_wp2
  go_loopw [5] (fun i wr => ∃ k : Nat, k ≤ a.length ∧ i = .int .i64 k ∧ (∀ (j : Nat) (x y : IDE), j < k → a[j]? = some x → b[j]? = some y → x = y) ∧ Below w.heap.size w wr) (fun i _ => a.length - (intOf i).toNat)
  case atStart => exact ⟨0, by omega, rfl, fun j _ _ h => absurd h (by omega), Below.refl _ _⟩
  case round =>
    obtain ⟨k, hk, rfl, hall, hbw⟩ := hrel
    have lr := later hbw
    by_cases hlt : k < a.length
    · have hlt2 : k < b.length := by rw [← Hl.out]; exact hlt
      obtain ⟨g1, o1, x, rfl, hx, C1⟩ := IDE.get (Ha wr) hlt
      obtain ⟨g2, o2, y, rfl, hy, C2⟩ := IDE.get (Hb wr) hlt2
      have Hall := hide hall
      have Hx := hide hx
      have Hy := hide hy
      clear hall hx hy
      go_wp2
      (refine wp_region_after (by kernel_rfl) (by kernel_rfl) ?_
       repeat (any_goals (first | go_big_quiet_skip | (go_big_quiet_want; go_big_quiet_op; first | go_big_quiet_on | go_big_quiet_call (fail)) | quiet_step (fail) | (refine wpQuiet_step (fun K hK => ?_); go_simp; split <;> (refine hK _ ?_; clear hK K))))
       all_goals (refine wpQuiet_nil ?_; intro _ hw'; obtain ⟨u', hw''⟩ := hw'; subst hw''; obtain ⟨wd, hbd⟩ := u'; simp only [After.val_mk]))
      have ld := later hbd
      cases hxy : IDE.beq x y
      · go_wp2_with fail
        go_ret
        exact ⟨false, rfl, ⟨(fun h => by cases h), fun h => by
          have hx := Hx.out
          have hy := Hy.out
          rw [h, hy] at hx
          injection hx with hx
          rw [IDE.beq_iff.2 hx.symm] at hxy
          cases hxy⟩, hbw.trans (hbd.mono hbw.size)⟩
      · go_wp2_with fail
        go_roundw
        case rel => exact ⟨k + 1, by omega, by go_num, fun j x' y' hj hx' hy' => by
          rcases Nat.lt_or_ge j k with h | h
          · exact Hall.out j x' y' h hx' hy'
          · have : j = k := by omega
            subst this
            have hx := Hx.out
            have hy := Hy.out
            rw [hx] at hx'; injection hx' with hx'
            rw [hy] at hy'; injection hy' with hy'
            rw [← hx', ← hy']
            exact IDE.beq_iff.1 hxy, hbw.trans (hbd.mono hbw.size)⟩
        case measure => simp [intOf]; omega
    · have hk' : k = a.length := by omega
      subst hk'
      have Hall := hide hall
      clear hall
      go_wp2
      go_ret
      exact ⟨true, rfl, ⟨fun _ => eq_to Hl.out fun j x y hx hy => Hall.out j x y (List.getElem?_eq_some_iff.1 hx).1 hx hy, fun _ => rfl⟩, hbw⟩
theorem fieldsN_take {l : List NodeE} {k : Nat} {n : NodeE} (h : l[k]? = some n) : fieldsN (conL (l.take (k + 1))) = fieldsN (conL (l.take k)) + n.fields.length := by
  unfold fieldsN conL
  rw [take_snoc_get h]
  simp [NodeE.con]
theorem fieldsN_take_le (l : List NodeE) (k : Nat) : fieldsN (conL (l.take k)) ≤ fieldsN (conL l) := by
  have h : fieldsN (conL (l.take k ++ l.drop k)) = fieldsN (conL (l.take k)) + fieldsN (conL (l.drop k)) := by unfold fieldsN conL; rw [List.map_append, List.map_append, List.sum_append]
  rw [List.take_append_drop] at h
  omega
set_option maxRecDepth 100000 in
set_option maxHeartbeats 4000000 in
theorem few_any (A : Option Addr) (c : Nat) (l : List NodeE) (most : Nat) (w : World) (H : NodesAt w A l) (hl : l.length ≤ 1000000000000000) (hf : ∀ n ∈ l, n.fields.length ≤ 1000000000000000) (hm : most ≤ 1000000) :
    Calls Try.prog 33 #[.agg #[.slice A l.length c], .int .i64 most] w fun r w' => r = .returned (.bool (decide (l.length + fieldsN (conL l) ≤ most))) ∧ Below w.heap.size w w' := by
  have HL := H.later
  obtain ⟨V, hV⟩ : ∃ V, V = decide (l.length + fieldsN (conL l) ≤ most) := ⟨_, rfl⟩
  rw [← hV]
  have HV := hide hV
  clear hV
  go_enter Try.func33, Try.ntmps33
  go_upto_region 1 with fail
  refine wp_name ?_
  intro w0 hw0
  obtain ⟨B0, l0⟩ := box1 hw0
  clear hw0
  go_wp2_with fail
  go_loopw [5, 6] (fun nv iv wr => ∃ (k n : Nat), k ≤ l.length ∧ iv = .int .i64 k ∧ nv = .int .i64 n ∧ Hid (n = l.length + fieldsN (conL (l.take k))) ∧ (n ≤ 1100000000000000) ∧ Below w0.heap.size w0 wr) (fun _ iv _ => l.length - (intOf iv).toNat)
  case atStart => exact ⟨0, l.length, by omega, rfl, rfl, hide (by simp [fieldsN, conL]), by omega, Below.refl _ _⟩
  case round =>
    obtain ⟨k, n, hk, rfl, rfl, hn, hnb, hbr⟩ := hrel
    have lr := later hbr
    by_cases hlt : k < l.length
    · obtain ⟨b1, o1, nd, rfl, hnd, C1, -, -, -⟩ := (HL wr).get hlt
      have hndf := hf nd (List.mem_of_getElem? hnd)
      have HT := hide (fieldsN_take hnd)
      have hki : (k : Int) < (l.length : Int) := by omega
      clear hnd
      by_cases hm2 : n ≤ most
      · have hmi : (n : Int) ≤ (most : Int) := by omega
        have hwr : IntKind.i64.wrap ((n : Int) + (nd.fields.length : Int)) = ((n + nd.fields.length : Nat) : Int) := by rw [IntKind.wrap_i64]; omega
        have hnx : n + nd.fields.length ≤ 1100000000000000 := by omega
        have hn2 := hide (show n + nd.fields.length = l.length + fieldsN (conL (l.take (k + 1))) by rw [HT.out, hn.out]; omega)
        go_wp2_with fail
        go_roundw
        case rel => exact ⟨k + 1, n + nd.fields.length, by omega, by go_num, rfl, hn2, hnx, below_of⟩
        case measure => simp [intOf]; omega
      · have hmi : ¬ (n : Int) ≤ (most : Int) := by omega
        have hv := hide (show V = false by rw [HV.out]; have := fieldsN_take_le l k; have := hn.out; simp; omega)
        go_wp2_with fail
        go_ret
        exact ⟨ret_bool (by rw [hv.out]; first | done | (simp; omega) | simp), below_of⟩
    · have hk' : k = l.length := by omega
      subst hk'
      have hv := hide (show V = decide ((n : Int) ≤ (most : Int)) by rw [HV.out]; have h1 := hn.out; rw [List.take_length] at h1; rw [← h1]; rw [Bool.eq_iff_iff, decide_eq_true_iff, decide_eq_true_iff]; omega)
      go_wp2_with fail
      go_ret
      exact ⟨ret_bool (by rw [hv.out]; first | done | (rw [Bool.eq_iff_iff, decide_eq_true_iff, decide_eq_true_iff]; omega)), below_of⟩
end Go.Proofs.Ytffnogjgnpbjlaa
