/-
  Contracts of the functions of this seat that each theorem names: what a call returns, and that it writes nothing that was there before. The conditions stand in each theorem.
-/
import Derived.Test.YtgddapgdeaeggaaC23LawF1
namespace Go.Proofs.Ytgddapgdeaeggaa
open Go.RowKit
attribute [local go_sem ↓] run_eql_id run_neq_id
theorem tabT : ElemT Try.prog 27 37 12 80 := ElemT.mk' (z := .agg #[.int .i64 0, .int .u64 0, .int .i64 0, .int .i64 0, .int .i64 0, .int .i64 0, .int .i64 0, .bool false, .bool false, .bool false, .int .i64 0, .int .i64 0]) Try.underlying27 (by kernel_rfl) rfl
def keyP (o n : Int) (e : StubE) : Bool := decide (e.owner = o) && decide (e.number = n)
def idP (i : IDE) (e : StubE) : Bool := ideq e.iDMachine e.iDSerial i.machine i.serial
set_option maxRecDepth 100000 in
set_option maxHeartbeats 2000000 in
theorem refAt_any (A : Option Addr) (C : Nat) (xs : List StubE) (o n : Int) (w : World) (hs : SlAt StubE.cells 12 w A xs) (hl : xs.length ≤ 1000000) : Calls Try.prog 64 #[.slice A xs.length C, .int .i64 o, .int .u64 n] w fun r w' => r = .returned (.int .i64 (idxOf (keyP o n) xs)) ∧ Below w.heap.size w w' := by
  have HS : ∀ u [Later w u], SlAt StubE.cells 12 u A xs := fun u i => hs.below i.below
  have hl' : xs.length ≤ 9223372036854775807 := by omega
  go_enter Try.func64, Try.ntmps64
  go_wp2_with fail
  go_loopw [7] (fun iv wr => ∃ k : Nat, k ≤ xs.length ∧ iv = .int .i64 k ∧ NoneTo (keyP o n) xs k ∧ Below w.heap.size w wr) (fun iv _ => xs.length - (intOf iv).toNat)
  case atStart => exact ⟨0, by omega, rfl, NoneTo.zero, Below.refl _ _⟩
  case round =>
    obtain ⟨k, hk, rfl, hno, hbr⟩ := hrel
    have lr := later hbr
    have Hno := hide hno
    clear hno
    by_cases hlt : k < xs.length
    · obtain ⟨b1, o1, y, rfl, hy, C1⟩ := StubE.get (HS wr) hlt
      have Hy := hide hy
      clear hy
      by_cases h1 : y.owner = o
      · by_cases h2 : y.number = n
        · have HI := hide (idxOf_hit Hy.out (by simp [keyP, h1, h2]) Hno.out)
          go_wp2_with fail
          go_ret
          exact ⟨ret_int HI.out.symm, below_of⟩
        · have hp := hide (show keyP o n y = false by simp [keyP, h2])
          go_wp2_with fail
          go_roundw
          case rel => exact ⟨k + 1, by omega, by go_num, Hno.out.succ Hy.out hp.out, below_of⟩
          case measure => simp [intOf]; omega
      · have hp := hide (show keyP o n y = false by simp [keyP, h1])
        go_wp2_with fail
        go_roundw
        case rel => exact ⟨k + 1, by omega, by go_num, Hno.out.succ Hy.out hp.out, below_of⟩
        case measure => simp [intOf]; omega
    · have hk' : k = xs.length := by omega
      subst hk'
      have HI := hide (idxOf_miss Hno.out)
      go_wp2_with fail
      go_ret
      exact ⟨ret_int HI.out.symm, below_of⟩
set_option maxHeartbeats 1000000 in
theorem refLess_any (a b : StubE) (w : World) : Calls Try.prog 79 #[a.v, b.v] w fun r w' => r = .returned (.bool (decide (ltS a b))) ∧ Below w.heap.size w w' := by
  have hd : decide (ltS a b) = (decide (a.owner < b.owner) || (decide (a.owner = b.owner) && decide (a.number < b.number))) := by
    unfold ltS; by_cases h1 : a.owner < b.owner <;> by_cases h2 : a.owner = b.owner <;> by_cases h3 : a.number < b.number <;> simp [h1, h2, h3]
  have Hd := hide hd
  clear hd
  go_enter Try.func79, Try.ntmps79
  go_wp2_with fail
  all_goals go_ret
  all_goals exact ⟨ret_bool (by rw [Hd.out]; simp [*]), below_of⟩
set_option maxRecDepth 100000 in
set_option maxHeartbeats 2000000 in
theorem refByID_any (A : Option Addr) (C : Nat) (xs : List StubE) (i : IDE) (w : World) (hs : SlAt StubE.cells 12 w A xs) (hl : xs.length ≤ 1000000) : Calls Try.prog 65 #[.slice A xs.length C, i.v] w fun r w' => r = .returned (.int .i64 (idxOf (idP i) xs)) ∧ Below w.heap.size w w' := by
  have HS : ∀ u [Later w u], SlAt StubE.cells 12 u A xs := fun u i => hs.below i.below
  have hl' : xs.length ≤ 9223372036854775807 := by omega
  go_enter Try.func65, Try.ntmps65
  go_upto_region 1 with fail
  refine wp_name ?_
  intro w0 hw0
  obtain ⟨B0, l0⟩ := box1 hw0
  clear hw0
  go_wp2_with fail
  go_loopw [5] (fun iv wr => ∃ k : Nat, k ≤ xs.length ∧ iv = .int .i64 k ∧ NoneTo (idP i) xs k ∧ Below w0.heap.size w0 wr) (fun iv _ => xs.length - (intOf iv).toNat)
  case atStart => exact ⟨0, by omega, rfl, NoneTo.zero, Below.refl _ _⟩
  case round =>
    obtain ⟨k, hk, rfl, hno, hbr⟩ := hrel
    have lr := later hbr
    have Hno := hide hno
    clear hno
    by_cases hlt : k < xs.length
    · obtain ⟨b1, o1, y, rfl, hy, C1⟩ := StubE.get (HS wr) hlt
      have Hy := hide hy
      clear hy
      cases hp : ideq y.iDMachine y.iDSerial i.machine i.serial
      · have hq := hide (show idP i y = false from hp)
        go_upto_region 4 with fail
        (refine wp_region_after (by kernel_rfl) (by kernel_rfl) ?_
         repeat (any_goals (first | go_big_quiet_skip | (go_big_quiet_want; go_big_quiet_op; first | go_big_quiet_on | go_big_quiet_call (fail)) | quiet_step (fail) | (refine wpQuiet_step (fun K hK => ?_); go_simp; split <;> (refine hK _ ?_; clear hK K))))
         all_goals (refine wpQuiet_nil ?_; intro _ hw'; obtain ⟨u', hw''⟩ := hw'; subst hw''; obtain ⟨wd, hbd⟩ := u'; simp only [After.val_mk]))
        have ld := later hbd
        go_wp2_with fail
        go_roundw
        case rel => exact ⟨k + 1, by omega, by go_num, Hno.out.succ Hy.out hq.out, below_of⟩
        case measure => simp [intOf]; omega
      · have HI := hide (idxOf_hit (p := idP i) Hy.out hp Hno.out)
        go_upto_region 4 with fail
        (refine wp_region_after (by kernel_rfl) (by kernel_rfl) ?_
         repeat (any_goals (first | go_big_quiet_skip | (go_big_quiet_want; go_big_quiet_op; first | go_big_quiet_on | go_big_quiet_call (fail)) | quiet_step (fail) | (refine wpQuiet_step (fun K hK => ?_); go_simp; split <;> (refine hK _ ?_; clear hK K))))
         all_goals (refine wpQuiet_nil ?_; intro _ hw'; obtain ⟨u', hw''⟩ := hw'; subst hw''; obtain ⟨wd, hbd⟩ := u'; simp only [After.val_mk]))
        have ld := later hbd
        go_wp2_with fail
        go_ret
        exact ⟨ret_int HI.out.symm, below_of⟩
    · have hk' : k = xs.length := by omega
      subst hk'
      have HI := hide (idxOf_miss Hno.out)
      go_wp2_with fail
      go_ret
      exact ⟨ret_int HI.out.symm, below_of⟩
def insR (e : StubE) : List StubE → List StubE
  | [] => [e]
  | x :: l => if ltS e x then e :: x :: l else x :: insR e l
end Go.Proofs.Ytgddapgdeaeggaa
