/-
  Contracts of the functions of this seat that each theorem names: what a call returns, and that it writes nothing that was there before. The conditions stand in each theorem.
-/
import Derived.Test.YtjegncmkebbdfaaGreatDoorRangeLib
import Derived.Test.YtjegncmkebbdfaaGreatDoorGrp30
import Derived.Test.YtjegncmkebbdfaaGreatDoorRows
set_option linter.unusedSimpArgs false
set_option linter.unusedVariables false
namespace Go.Proofs.YtjegncmkebbdfaaGreatDoor
open Go.RowKit
attribute [local go_sem] Oper.semAt_some
theorem NodeE.facts {n : NodeE} {w : World} {b off k : Nat} (h : ∀ j u, n.cells[j]? = some u → w.cell? ⟨b, off + k * 5 + j, none⟩ = some u) : w.cell? ⟨b, off + k * 5, none⟩ = some (.int .i64 n.iDMachine) ∧ w.cell? ⟨b, off + k * 5 + 1, none⟩ = some (.int .i64 n.iDSerial) ∧ w.cell? ⟨b, off + k * 5 + 2, none⟩ = some (.int .i64 n.kind) ∧ w.cell? ⟨b, off + k * 5 + 3, none⟩ = some (.int .i64 n.clas) ∧ w.cell? ⟨b, off + k * 5 + 4, none⟩ = some (.slice n.A n.fields.length n.c) :=
  ⟨by simpa using h 0 _ rfl, h 1 _ rfl, h 2 _ rfl, h 3 _ rfl, h 4 _ rfl⟩
def NodeE.enc2 (x : Nat × NodeE) : Array Value := #[.int .i64 (x.1 : Int), x.2.v]
set_option maxRecDepth 100000 in
set_option maxHeartbeats 2000000 in
theorem backNode1_in (n : Nat) (hn : 1 ≤ n) (l Bs : Nat) (BT : TypeId) (A : Option Addr) (c : Nat) (xs : List NodeE) (hlen : xs.length ≤ 1000000000000000) (W0 : World) (hxs : SlAt NodeE.cells 5 W0 A xs) (J Jx : List (Nat × NodeE) → World → Prop)
    (hY : ∀ pre x W, J pre W → pre.length < xs.length → YieldAt Fence.wide (n - 1) Tryz.prog l (NodeE.enc2 x) W fun e W' =>
      (e = .returned (.bool true) ∧ J (pre ++ [x]) W' ∧ KpB W0.heap.size Bs W W') ∨ (e = .returned (.bool false) ∧ Jx (pre ++ [x]) W'))
    (W : World) (hW : Below W0.heap.size W0 W) (hBs : W.heap[Bs]? = some (.cells #[.slice A xs.length c] BT (0, 0))) (h0 : J [] W) :
    CallsIn Fence.wide n Tryz.prog 95 #[.func (.yield l) #[] #[], .pointer (some ⟨Bs, 0, none⟩)] W fun e W' => (∃ v, e = .returned v) ∧
      ((∃ ys, ys = backL xs xs.length ∧ J ys W') ∨ (∃ pre, (∃ k, k ≤ xs.length ∧ pre = backL xs k) ∧ Jx pre W')) := by
  have lW : Later W0 W := ⟨hW⟩
  have hB0 : W.cell? ⟨Bs, 0, none⟩ = some (.slice A xs.length c) := blk_cell hBs 0
  refine callsIn_of_wp Tryz.func95 rfl trivial ?_ rfl
  simp only [Tryz.ntmps95, List.size_toArray, List.length_cons, List.length_nil, Nat.reduceAdd, Nat.reduceSub, Array.replicate_succ, Array.replicate_zero, List.push_toArray, List.append_toArray, List.nil_append, List.cons_append]
  have hlen' : xs.length ≤ 9223372036854775807 := by omega
  gi_wp2
  gi_loopw [3] (fun i wr => ∃ k : Nat, k ≤ xs.length ∧ i = .int .i64 ((xs.length : Int) - 1 - k) ∧ J (backL xs k) wr ∧ Below W0.heap.size W0 wr ∧ wr.heap[Bs]? = some (.cells #[.slice A xs.length c] BT (0, 0)))
    (fun i _ => (intOf i + 1).toNat)
  case atStart => exact ⟨0, Nat.zero_le _, by simp, h0, hW, hBs⟩
  case round =>
    obtain ⟨k, hk, rfl, hJs, hnx, hBr⟩ := hrel
    have lr : Later W0 wr := ⟨hnx⟩
    have hB1 : wr.cell? ⟨Bs, 0, none⟩ = some (.slice A xs.length c) := blk_cell hBr 0
    by_cases hlt : k < xs.length
    · obtain ⟨j, hj⟩ : ∃ j : Nat, (xs.length : Int) - 1 - k = j := ⟨xs.length - 1 - k, by omega⟩
      have hjl : j < xs.length := by omega
      have hjk : xs.length - 1 - k = j := by omega
      obtain ⟨b, off, x, rfl, hbk, hx, hcells⟩ := (hxs.below hnx).at_ hjl
      obtain ⟨fn, tmps, assign, body, hy, hR⟩ := hY _ (j, x) wr hJs (by rw [backL_length xs k hk]; exact hlt)
      have hz : xs.length - 1 - k < xs.length := by omega
      have hb1 := hide (backL_succ xs k x (by rw [hjk]; exact hx))
      rw [hjk] at hb1
      dsimp only [NodeE.enc2] at hy
      obtain ⟨f0, f1, f2, f3, f4⟩ := NodeE.facts hcells
      rw [hj]
      have hj0 : (0 : Int) ≤ (j : Int) := by omega
      have Hj := hide hj
      clear hcells hj hjk hz
      gi_wp2
      refine hR.mono ?_
      rintro e W3 (⟨rfl, hJ3, hk3⟩ | ⟨rfl, hJx3⟩)
      · gi_wp2
        go_roundw
        case rel => exact ⟨k + 1, by omega, by have := Hj.out; go_num, by rw [hb1.out]; exact hJ3, hnx.trans hk3.1, hk3.2 _ hBr⟩
        case measure => simp [intOf] <;> omega
      · gi_wp2
        refine bodyPost_ret (results_none rfl _ _ _) rfl ?_
        exact ⟨⟨_, rfl⟩, .inr ⟨_, ⟨k + 1, by omega, hb1.out.symm⟩, hJx3⟩⟩
    · obtain rfl : k = xs.length := by omega
      have hneg : ¬ (0 : Int) ≤ (xs.length : Int) - 1 - xs.length := by omega
      gi_wp2
      go_end0
      exact ⟨⟨_, rfl⟩, .inl hJs⟩
/-- The maker of the iterator: the slice is boxed. -/
theorem backNode_mk (v : Value) (A : Option Addr) (n c : Nat) (w : World) (hv : v = .slice A n c) :
    Calls Tryz.prog 47 #[v] w fun e w' => e = .returned (.func (.func 95) #[] #[.pointer (some ⟨w.heap.size, 0, none⟩)]) ∧ w' = w.alloc (.cells #[v] 25) := by
  subst hv
  go_enter Tryz.func47, Tryz.ntmps47
  go_wp2
  go_ret
  exact ⟨rfl, rfl⟩
/-- A value over which a range may go: the elements, the last one first. -/
theorem backNode_stops (n : Nat) (hn : 1 ≤ n) (Bs : Nat) (BT : TypeId) (A : Option Addr) (c : Nat) (xs : List NodeE) (hlen : xs.length ≤ 1000000000000000) (W0 : World) (hxs : SlAt NodeE.cells 5 W0 A xs) (W1 : World) (hW1 : Below W0.heap.size W0 W1) (hBs : W1.heap[Bs]? = some (.cells #[.slice A xs.length c] BT (0, 0))) :
    SeqStopsK Fence.wide n Tryz.prog 95 #[.pointer (some ⟨Bs, 0, none⟩)] NodeE.enc2 (KpB W0.heap.size Bs) (fun ys => ys = backL xs xs.length) (fun pre => ∃ k, k ≤ xs.length ∧ pre = backL xs k) xs.length W1 := fun l J Jx W hW _ _ hY h0 =>
  backNode1_in n hn l Bs BT A c xs hlen W0 hxs J Jx hY W (hW1.trans (hW.mono hW1.size)) (blk_below hBs hW) h0
end Go.Proofs.YtjegncmkebbdfaaGreatDoor
