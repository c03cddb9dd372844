/-
  Contracts of the functions of this seat that each theorem names: what a call returns, and that it writes nothing that was there before. The conditions stand in each theorem.
-/
import Derived.Test.YtnjpmpelgigmjaaC34Walk1
namespace Go.Proofs.Ytnjpmpelgigmjaa
open Go.RowKit
attribute [local go_sem ↓] run_eql_trace

set_option maxHeartbeats 400000 in
theorem isStub1_any (e : StubE) (n : NeedE) (g : Nat) (w : World) (hp : w.cell? ⟨g, 0, none⟩ = some (.int .i64 n.peer)) (hq : w.cell? ⟨g, 1, none⟩ = some (.int .u64 n.number)) :
    Calls Try.prog 58 #[e.v, .pointer (some ⟨g, 0, none⟩)] w fun r w' => r = .returned (.bool (isStub n.peer n.number e)) ∧ Below w.heap.size w w' := by
  have hg := World.block_lt_of_cell? w _ hp
  simp only at hg
  go_enter Try.func58, Try.ntmps58
  go_wp2
  all_goals
    go_ret
    exact ⟨ret_bool (by first | (simp [isStub, *]; done) | (simp [isStub, *, bnt ‹(!_) = true›]; done) | (simp [isStub, *, bnf ‹(!_) = false›]; done)), (by repeat (first | with_reducible exact Below.refl _ _ | (with_reducible refine Below.drew ?_) | (with_reducible refine below_drewN ?_ _) | (with_reducible refine Below.alloc ?_ ?_ _; rotate_left; (first | omega | (simp <;> omega))) | (with_reducible refine Below.setCell ?_ ?_ _; rotate_left; (first | omega | (simp <;> omega)))))⟩

set_option maxHeartbeats 400000 in
theorem isScion1_any (e : ScionE) (n : NeedE) (g : Nat) (w : World) (hp : w.cell? ⟨g, 0, none⟩ = some (.int .i64 n.peer)) (hq : w.cell? ⟨g, 1, none⟩ = some (.int .u64 n.number)) :
    Calls Try.prog 60 #[e.v, .pointer (some ⟨g, 0, none⟩)] w fun r w' => r = .returned (.bool (isScion n.peer n.number e)) ∧ Below w.heap.size w w' := by
  have hg := World.block_lt_of_cell? w _ hp
  simp only at hg
  go_enter Try.func60, Try.ntmps60
  go_wp2
  all_goals
    go_ret
    exact ⟨ret_bool (by first | (simp [isScion, *]; done) | (simp [isScion, *, bnt ‹(!_) = true›]; done) | (simp [isScion, *, bnf ‹(!_) = false›]; done)), (by repeat (first | with_reducible exact Below.refl _ _ | (with_reducible refine Below.drew ?_) | (with_reducible refine below_drewN ?_ _) | (with_reducible refine Below.alloc ?_ ?_ _; rotate_left; (first | omega | (simp <;> omega))) | (with_reducible refine Below.setCell ?_ ?_ _; rotate_left; (first | omega | (simp <;> omega)))))⟩

set_option maxHeartbeats 400000 in
theorem isStub_mk (n : NeedE) (w : World) :
    Calls Try.prog 35 #[n.v] w fun r w' => r = .returned (.func (.func 58) #[] #[.pointer (some ⟨w.heap.size, 0, none⟩)]) ∧ w'.cell? ⟨w.heap.size, 0, none⟩ = some (.int .i64 n.peer) ∧
      w'.cell? ⟨w.heap.size, 1, none⟩ = some (.int .u64 n.number) ∧ Below w.heap.size w w' := by
  go_enter Try.func35, Try.ntmps35
  go_wp2
  go_ret
  exact ⟨rfl, by simp, by simp, (by repeat (first | with_reducible exact Below.refl _ _ | (with_reducible refine Below.drew ?_) | (with_reducible refine below_drewN ?_ _) | (with_reducible refine Below.alloc ?_ ?_ _; rotate_left; (first | omega | (simp <;> omega))) | (with_reducible refine Below.setCell ?_ ?_ _; rotate_left; (first | omega | (simp <;> omega)))))⟩

set_option maxHeartbeats 400000 in
theorem isScion_mk (n : NeedE) (w : World) :
    Calls Try.prog 38 #[n.v] w fun r w' => r = .returned (.func (.func 60) #[] #[.pointer (some ⟨w.heap.size, 0, none⟩)]) ∧ w'.cell? ⟨w.heap.size, 0, none⟩ = some (.int .i64 n.peer) ∧
      w'.cell? ⟨w.heap.size, 1, none⟩ = some (.int .u64 n.number) ∧ Below w.heap.size w w' := by
  go_enter Try.func38, Try.ntmps38
  go_wp2
  go_ret
  exact ⟨rfl, by simp, by simp, (by repeat (first | with_reducible exact Below.refl _ _ | (with_reducible refine Below.drew ?_) | (with_reducible refine below_drewN ?_ _) | (with_reducible refine Below.alloc ?_ ?_ _; rotate_left; (first | omega | (simp <;> omega))) | (with_reducible refine Below.setCell ?_ ?_ _; rotate_left; (first | omega | (simp <;> omega)))))⟩

set_option maxHeartbeats 400000 in
theorem idxStub_any (A : Option Addr) (c : Nat) (l : List StubE) (n : NeedE) (g : Nat) (w : World) (hr : SlAt StubE.cells 12 w A l) (hlen : l.length ≤ 9223372036854775807)
    (hp : w.cell? ⟨g, 0, none⟩ = some (.int .i64 n.peer)) (hq : w.cell? ⟨g, 1, none⟩ = some (.int .u64 n.number)) :
    Calls Try.prog 57 #[.slice A l.length c, .func (.func 58) #[] #[.pointer (some ⟨g, 0, none⟩)]] w
      fun r w' => r = .returned (.int .i64 (idxOf (isStub n.peer n.number) l)) ∧ Below w.heap.size w w' := by
  go_enter Try.func57, Try.ntmps57
  go_wp2
  go_loopw [5, 8] (fun _ i wr => ∃ k : Nat, k ≤ l.length ∧ i = .int .i64 k ∧ NoneTo (isStub n.peer n.number) l k ∧ Below w.heap.size w wr) (fun _ i _ => l.length - (intOf i).toNat)
  case atStart => exact ⟨0, by omega, rfl, NoneTo.zero, Below.refl _ _⟩
  case round =>
    obtain ⟨k, hk, rfl, hno, hb⟩ := hrel
    by_cases hlt : k < l.length
    · obtain ⟨b, off, e, rfl, hbk, he, hc⟩ := (hr.below hb).at_ hlt
      obtain ⟨f0, f1, f2, f3, f4, f5, f6, f7, f8, f9, f10, f11⟩ := StubE.facts hc
      have hp' := cell_below hp hb
      have hq' := cell_below hq hb
      clear hc hr hp hq
      go_wp2_with fail
      refine (isStub1_any e n g _ hp' hq').mono ?_
      rintro r w1 ⟨rfl, hb1⟩
      go_wp2
      all_goals first
        | (go_ret; exact ⟨ret_int (idxOf_hit he (by assumption) hno).symm, hb.trans (hb1.mono hb.size)⟩)
        | (go_roundw
           case rel => exact ⟨k + 1, by omega, by go_num, hno.succ he (by assumption), hb.trans (hb1.mono hb.size)⟩
           case measure => simp [intOf]; omega)
    · go_wp2
      go_ret
      have : k = l.length := by omega
      subst this
      exact ⟨ret_int (idxOf_miss hno).symm, hb⟩

set_option maxHeartbeats 400000 in
theorem idxScion_any (A : Option Addr) (c : Nat) (l : List ScionE) (n : NeedE) (g : Nat) (w : World) (hr : SlAt ScionE.cells 12 w A l) (hlen : l.length ≤ 9223372036854775807)
    (hp : w.cell? ⟨g, 0, none⟩ = some (.int .i64 n.peer)) (hq : w.cell? ⟨g, 1, none⟩ = some (.int .u64 n.number)) :
    Calls Try.prog 59 #[.slice A l.length c, .func (.func 60) #[] #[.pointer (some ⟨g, 0, none⟩)]] w
      fun r w' => r = .returned (.int .i64 (idxOf (isScion n.peer n.number) l)) ∧ Below w.heap.size w w' := by
  go_enter Try.func59, Try.ntmps59
  go_wp2
  go_loopw [5, 8] (fun _ i wr => ∃ k : Nat, k ≤ l.length ∧ i = .int .i64 k ∧ NoneTo (isScion n.peer n.number) l k ∧ Below w.heap.size w wr) (fun _ i _ => l.length - (intOf i).toNat)
  case atStart => exact ⟨0, by omega, rfl, NoneTo.zero, Below.refl _ _⟩
  case round =>
    obtain ⟨k, hk, rfl, hno, hb⟩ := hrel
    by_cases hlt : k < l.length
    · obtain ⟨b, off, e, rfl, hbk, he, hc⟩ := (hr.below hb).at_ hlt
      obtain ⟨f0, f1, f2, f3, f4, f5, f6, f7, f8, f9, f10, f11⟩ := ScionE.facts hc
      have hp' := cell_below hp hb
      have hq' := cell_below hq hb
      clear hc hr hp hq
      go_wp2_with fail
      refine (isScion1_any e n g _ hp' hq').mono ?_
      rintro r w1 ⟨rfl, hb1⟩
      go_wp2
      all_goals first
        | (go_ret; exact ⟨ret_int (idxOf_hit he (by assumption) hno).symm, hb.trans (hb1.mono hb.size)⟩)
        | (go_roundw
           case rel => exact ⟨k + 1, by omega, by go_num, hno.succ he (by assumption), hb.trans (hb1.mono hb.size)⟩
           case measure => simp [intOf]; omega)
    · go_wp2
      go_ret
      have : k = l.length := by omega
      subst this
      exact ⟨ret_int (idxOf_miss hno).symm, hb⟩
end Go.Proofs.Ytnjpmpelgigmjaa
