/-
  Contracts of the functions of this seat that each theorem names: what a call returns, and that it writes nothing that was there before. The conditions stand in each theorem.
-/
import Derived.Test.YtnjpmpelgigmjaaC34Data
import Derived.Test.YtnjpmpelgigmjaaRows
namespace Go.Proofs.Ytnjpmpelgigmjaa
open Go.RowKit

theorem run_eql_trace (a b c d : Int) (w : World) : (binOp .eql 26 (.agg #[.int .i64 a, .int .i64 b]) (.agg #[.int .i64 c, .int .i64 d])).run Try.prog w = .ok (.bool (teq a b c d)) w := by
  have h := Try.underlying26
  unfold teq
  by_cases h1 : a = c <;> by_cases h2 : b = d <;> simp [go_sem, h1, h2]
theorem run_neq_trace (a b c d : Int) (w : World) : (binOp .neq 26 (.agg #[.int .i64 a, .int .i64 b]) (.agg #[.int .i64 c, .int .i64 d])).run Try.prog w = .ok (.bool (!teq a b c d)) w := by
  have h := Try.underlying26
  unfold teq
  by_cases h1 : a = c <;> by_cases h2 : b = d <;> simp [go_sem, h1, h2]
attribute [local go_sem ↓] run_eql_trace

set_option maxHeartbeats 400000 in
theorem free_any (a b c d : Int) (w : World) :
    Calls Try.prog 32 #[.agg #[.int .i64 a, .int .i64 b], .agg #[.int .i64 c, .int .i64 d]] w fun e w' => e = .returned (.bool (freeB a b c d)) ∧ Below w.heap.size w w' := by
  go_enter Try.func32, Try.ntmps32
  go_wp2
  all_goals
    go_ret
    exact ⟨ret_bool (by simp [freeB, *]), (by repeat (first | with_reducible exact Below.refl _ _ | (with_reducible refine Below.drew ?_) | (with_reducible refine below_drewN ?_ _) | (with_reducible refine Below.alloc ?_ ?_ _; rotate_left; (first | omega | (simp <;> omega))) | (with_reducible refine Below.setCell ?_ ?_ _; rotate_left; (first | omega | (simp <;> omega)))))⟩

set_option maxHeartbeats 400000 in
theorem stub_any (A : Option Addr) (c : Nat) (l : List StubE) (n : NeedE) (w : World) (hr : SlAt StubE.cells 12 w A l) (hlen : l.length ≤ 9223372036854775807) :
    Calls Try.prog 14 #[.slice A l.length c, n.v] w fun e w' => e = .returned (.int .i64 (idxOf (isStub n.peer n.number) l)) ∧ Below w.heap.size w w' := by
  go_enter Try.func14, Try.ntmps14
  go_wp2
  generalize hw0 : w.alloc (.cells #[.int .i64 n.peer, .int .u64 n.number, .int .i64 n.stamp] 39) = w0
  have hb0 : Below w.heap.size w w0 := by rw [← hw0]; exact (by repeat (first | with_reducible exact Below.refl _ _ | (with_reducible refine Below.drew ?_) | (with_reducible refine below_drewN ?_ _) | (with_reducible refine Below.alloc ?_ ?_ _; rotate_left; (first | omega | (simp <;> omega))) | (with_reducible refine Below.setCell ?_ ?_ _; rotate_left; (first | omega | (simp <;> omega)))))
  have hp : w0.cell? ⟨w.heap.size, 0, none⟩ = some (.int .i64 n.peer) := by rw [← hw0]; simp
  have hq : w0.cell? ⟨w.heap.size, 1, none⟩ = some (.int .u64 n.number) := by rw [← hw0]; simp
  clear hw0
  go_loopw [5] (fun i wr => ∃ k : Nat, k ≤ l.length ∧ i = .int .i64 k ∧ NoneTo (isStub n.peer n.number) l k ∧ Below w0.heap.size w0 wr) (fun i _ => l.length - (intOf i).toNat)
  case atStart => exact ⟨0, by omega, rfl, NoneTo.zero, Below.refl _ _⟩
  case round =>
    obtain ⟨k, hk, rfl, hno, hb⟩ := hrel
    have hb' : Below w.heap.size w wr := hb0.trans (hb.mono hb0.size)
    by_cases hlt : k < l.length
    · obtain ⟨b, off, e, rfl, hbk, he, hc⟩ := (hr.below hb').at_ hlt
      obtain ⟨f0, f1, -⟩ := StubE.facts hc
      have g0 := After.cell f0
      have g1 := After.cell f1
      have g2 := After.cell (cell_below hp hb)
      have g3 := After.cell (cell_below hq hb)
      clear hc hb0 hr
      go_wp2
      (refine wp_region_after (by kernel_rfl) (by kernel_rfl) ?_
       repeat (any_goals (first | go_big_quiet_skip | (go_big_quiet_want; go_big_quiet_op; first | go_big_quiet_on | go_big_quiet_call (fail)) | quiet_step (fail) | (refine wpQuiet_step (fun K hK => ?_); go_simp; split <;> (refine hK _ ?_; clear hK K))))
       all_goals (refine wpQuiet_nil ?_; intro _ hw'; obtain ⟨u', hw''⟩ := hw'; subst hw''; obtain ⟨w1, hb1⟩ := u'; simp only [After.val_mk]))
      all_goals go_wp2
      all_goals first
        | (go_ret; exact ⟨ret_int (idxOf_hit he (by simp [isStub, *]) hno).symm, hb'.trans (hb1.mono hb'.size)⟩)
        | (go_roundw
           case rel => exact ⟨k + 1, by omega, by go_num, hno.succ he (by simp [isStub, *]), hb.trans (hb1.mono hb.size)⟩
           case measure => simp [intOf]; omega)
    · go_wp2
      go_ret
      have : k = l.length := by omega
      subst this
      exact ⟨ret_int (idxOf_miss hno).symm, hb'⟩

set_option maxHeartbeats 400000 in
theorem scion_any (A : Option Addr) (c : Nat) (l : List ScionE) (n : NeedE) (w : World) (hr : SlAt ScionE.cells 12 w A l) (hlen : l.length ≤ 9223372036854775807) :
    Calls Try.prog 15 #[.slice A l.length c, n.v] w fun e w' => e = .returned (.int .i64 (idxOf (isScion n.peer n.number) l)) ∧ Below w.heap.size w w' := by
  go_enter Try.func15, Try.ntmps15
  go_wp2
  generalize hw0 : w.alloc (.cells #[.int .i64 n.peer, .int .u64 n.number, .int .i64 n.stamp] 39) = w0
  have hb0 : Below w.heap.size w w0 := by rw [← hw0]; exact (by repeat (first | with_reducible exact Below.refl _ _ | (with_reducible refine Below.drew ?_) | (with_reducible refine below_drewN ?_ _) | (with_reducible refine Below.alloc ?_ ?_ _; rotate_left; (first | omega | (simp <;> omega))) | (with_reducible refine Below.setCell ?_ ?_ _; rotate_left; (first | omega | (simp <;> omega)))))
  have hp : w0.cell? ⟨w.heap.size, 0, none⟩ = some (.int .i64 n.peer) := by rw [← hw0]; simp
  have hq : w0.cell? ⟨w.heap.size, 1, none⟩ = some (.int .u64 n.number) := by rw [← hw0]; simp
  clear hw0
  go_loopw [5] (fun i wr => ∃ k : Nat, k ≤ l.length ∧ i = .int .i64 k ∧ NoneTo (isScion n.peer n.number) l k ∧ Below w0.heap.size w0 wr) (fun i _ => l.length - (intOf i).toNat)
  case atStart => exact ⟨0, by omega, rfl, NoneTo.zero, Below.refl _ _⟩
  case round =>
    obtain ⟨k, hk, rfl, hno, hb⟩ := hrel
    have hb' : Below w.heap.size w wr := hb0.trans (hb.mono hb0.size)
    by_cases hlt : k < l.length
    · obtain ⟨b, off, e, rfl, hbk, he, hc⟩ := (hr.below hb').at_ hlt
      obtain ⟨f0, f1, -⟩ := ScionE.facts hc
      have g0 := After.cell f0
      have g1 := After.cell f1
      have g2 := After.cell (cell_below hp hb)
      have g3 := After.cell (cell_below hq hb)
      clear hc hb0 hr
      go_wp2
      (refine wp_region_after (by kernel_rfl) (by kernel_rfl) ?_
       repeat (any_goals (first | go_big_quiet_skip | (go_big_quiet_want; go_big_quiet_op; first | go_big_quiet_on | go_big_quiet_call (fail)) | quiet_step (fail) | (refine wpQuiet_step (fun K hK => ?_); go_simp; split <;> (refine hK _ ?_; clear hK K))))
       all_goals (refine wpQuiet_nil ?_; intro _ hw'; obtain ⟨u', hw''⟩ := hw'; subst hw''; obtain ⟨w1, hb1⟩ := u'; simp only [After.val_mk]))
      all_goals go_wp2
      all_goals first
        | (go_ret; exact ⟨ret_int (idxOf_hit he (by simp [isScion, *]) hno).symm, hb'.trans (hb1.mono hb'.size)⟩)
        | (go_roundw
           case rel => exact ⟨k + 1, by omega, by go_num, hno.succ he (by simp [isScion, *]), hb.trans (hb1.mono hb.size)⟩
           case measure => simp [intOf]; omega)
    · go_wp2
      go_ret
      have : k = l.length := by omega
      subst this
      exact ⟨ret_int (idxOf_miss hno).symm, hb'⟩

set_option maxHeartbeats 400000 in
theorem arrived_any (A : Option Addr) (c : Nat) (l : List Int) (p q s : Int) (w : World) (hr : SlAt I64.cells 1 w A l) (hlen : l.length ≤ 9223372036854775807) :
    Calls Try.prog 31 #[.agg #[.int .i64 p, .int .u64 q, .int .i64 s], .slice A l.length c] w fun e w' => e = .returned (.bool (arrivedB p s l)) ∧ Below w.heap.size w w' := by
  by_cases h1 : 1 ≤ p
  · by_cases h2 : p ≤ l.length
    · obtain ⟨k, rfl⟩ : ∃ k : Nat, p = k + 1 := ⟨(p - 1).toNat, by omega⟩
      obtain ⟨b, off, e, rfl, hbk, he, hc⟩ := hr.at_ (k := k) (by omega)
      have f0 := I64.fact hc
      have hfin : arrivedB (k + 1) s l = decide (s ≤ e) := by
        unfold arrivedB have_
        rw [if_pos ⟨h1, h2⟩]
        simp [List.getD, he]
      have Hfin := hide hfin
      clear hfin hc he
      go_enter Try.func31, Try.ntmps31
      go_wp2
      all_goals
        go_ret
        exact ⟨ret_bool (by rw [Hfin.out]), (by repeat (first | with_reducible exact Below.refl _ _ | (with_reducible refine Below.drew ?_) | (with_reducible refine below_drewN ?_ _) | (with_reducible refine Below.alloc ?_ ?_ _; rotate_left; (first | omega | (simp <;> omega))) | (with_reducible refine Below.setCell ?_ ?_ _; rotate_left; (first | omega | (simp <;> omega)))))⟩
    · have hfin : arrivedB p s l = decide (s ≤ 0) := by
        unfold arrivedB have_
        rw [if_neg (by omega)]
      have Hfin := hide hfin
      clear hfin
      go_enter Try.func31, Try.ntmps31
      go_wp2
      all_goals
        go_ret
        exact ⟨ret_bool (by rw [Hfin.out]), (by repeat (first | with_reducible exact Below.refl _ _ | (with_reducible refine Below.drew ?_) | (with_reducible refine below_drewN ?_ _) | (with_reducible refine Below.alloc ?_ ?_ _; rotate_left; (first | omega | (simp <;> omega))) | (with_reducible refine Below.setCell ?_ ?_ _; rotate_left; (first | omega | (simp <;> omega)))))⟩
  · have hfin : arrivedB p s l = decide (s ≤ 0) := by
      unfold arrivedB have_
      rw [if_neg (by omega)]
    have Hfin := hide hfin
    clear hfin
    go_enter Try.func31, Try.ntmps31
    go_wp2
    all_goals
      go_ret
      exact ⟨ret_bool (by rw [Hfin.out]), (by repeat (first | with_reducible exact Below.refl _ _ | (with_reducible refine Below.drew ?_) | (with_reducible refine below_drewN ?_ _) | (with_reducible refine Below.alloc ?_ ?_ _; rotate_left; (first | omega | (simp <;> omega))) | (with_reducible refine Below.setCell ?_ ?_ _; rotate_left; (first | omega | (simp <;> omega)))))⟩

end Go.Proofs.Ytnjpmpelgigmjaa
