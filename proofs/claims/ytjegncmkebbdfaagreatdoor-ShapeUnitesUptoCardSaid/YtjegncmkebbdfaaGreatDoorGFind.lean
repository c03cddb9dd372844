/-
  Contracts of the functions of this seat that each theorem names: what a call returns, and that it writes nothing that was there before. The conditions stand in each theorem.
-/
import Derived.Test.YtjegncmkebbdfaaGreatDoorGWalk1
import Derived.Lib.SliceRun
set_option linter.unusedSimpArgs false
set_option linter.unusedVariables false
namespace Go.Proofs.YtjegncmkebbdfaaGreatDoor
open Go.RowKit
attribute [local go_sem ↓] run_eql_id run_neq_id
attribute [local go_sem] Instr.makeFunc
def zeroC : NodeC := ⟨0, 0, 0, 0, []⟩
/-- What Find gives: the first node of that identity, with fields that can be read. -/
def FindPost (L : List NodeC) (x : IDE) (w : World) (r : Ending) (w' : World) : Prop := ∃ m : NodeE, r = .returned (.tuple #[m.v, .bool (firstN L x).isSome]) ∧ Hid (m.con = (firstN L x).getD zeroC) ∧ Own ValE.cells 4 46 w.heap.size w' (.slice m.A m.fields.length m.c) m.fields ∧ m.fields.length ≤ m.c ∧ m.c ≤ maxLen ∧ Below w.heap.size w w'
theorem firstN_hit {l : List NodeE} {k : Nat} {n : NodeE} {x : IDE} (hn : l[k]? = some n) (hx : n.id = x) (hno : ∀ (j : Nat) (m : NodeE), j < k → l[j]? = some m → m.id ≠ x) : firstN (conL l) x = some n.con := by
  rw [firstE_con]
  have : l.find? (fun n => decide (n.id = x)) = some n := by
    rw [List.find?_eq_some_iff_getElem]
    have hk : k < l.length := (List.getElem?_eq_some_iff.1 hn).1
    refine ⟨by simpa using hx, k, hk, (List.getElem?_eq_some_iff.1 hn).2, fun j hj => ?_⟩
    have := hno j l[j] hj (List.getElem?_eq_getElem (by omega))
    simpa using this
  rw [this]; rfl
theorem firstN_miss {l : List NodeE} {x : IDE} (hno : ∀ (j : Nat) (m : NodeE), j < l.length → l[j]? = some m → m.id ≠ x) : firstN (conL l) x = none := by
  rw [firstN_none]
  intro n hn
  obtain ⟨m, hm, rfl⟩ := List.mem_map.1 hn
  obtain ⟨j, hj⟩ := List.getElem?_of_mem hm
  exact hno j m (List.getElem?_eq_some_iff.1 hj).1 hj
/-! A result node in its cells (block w.heap.size + 1 + 1): W the world ahead of the store, n the node. -/
/-- The first node of an identity, with its place. -/
def firstE (l : List NodeE) (x : IDE) : Option NodeE := l.find? fun n => decide (n.id = x)
def zeroN : NodeE := ⟨0, 0, 0, 0, none, 0, []⟩
theorem firstE_N {l : List NodeE} {x : IDE} : firstN (conL l) x = (firstE l x).map NodeE.con := firstE_con
theorem firstE_some {l : List NodeE} {x : IDE} {n : NodeE} (h : firstE l x = some n) : n ∈ l ∧ n.id = x := ⟨List.mem_of_find?_eq_some h, by simpa using List.find?_some h⟩
theorem firstE_hit {l : List NodeE} {k : Nat} {n : NodeE} {x : IDE} (hn : l[k]? = some n) (hx : n.id = x) (hno : ∀ (j : Nat) (m : NodeE), j < k → l[j]? = some m → m.id ≠ x) : firstE l x = some n := by
  unfold firstE
  rw [List.find?_eq_some_iff_getElem]
  have hk : k < l.length := (List.getElem?_eq_some_iff.1 hn).1
  refine ⟨by simpa using hx, k, hk, (List.getElem?_eq_some_iff.1 hn).2, fun j hj => ?_⟩
  have := hno j l[j] hj (List.getElem?_eq_getElem (by omega))
  simpa using this
theorem firstE_miss {l : List NodeE} {x : IDE} (hno : ∀ (j : Nat) (m : NodeE), j < l.length → l[j]? = some m → m.id ≠ x) : firstE l x = none := by
  unfold firstE
  rw [List.find?_eq_none]
  intro n hn
  obtain ⟨j, hj⟩ := List.getElem?_of_mem hn
  simpa using hno j n (List.getElem?_eq_some_iff.1 hj).1 hj
def Find16Post (l : List NodeE) (x : IDE) (w : World) (r : Ending) (w' : World) : Prop := r = .returned (.tuple #[((firstE l x).getD zeroN).v, .bool (firstE l x).isSome]) ∧ Below w.heap.size w w'
set_option maxRecDepth 100000 in
set_option maxHeartbeats 4000000 in
theorem find16_any (A : Option Addr) (c : Nat) (l : List NodeE) (x : IDE) (w : World) (H : NodesAt w A l) (hl : l.length ≤ 1000000000) : Calls Tryz.prog 30 #[.agg #[.slice A l.length c], x.v] w (Find16Post l x w) := by
  have HL := H.later
  have hl' : l.length ≤ 9223372036854775807 := by omega
  go_enter Tryz.func30, Tryz.ntmps30
  go_upto_region 1 with fail
  refine wp_name ?_
  intro w0 hw0
  obtain ⟨B0, B1, B2, l0⟩ := box3 hw0
  clear hw0
  go_wp2_with fail
  go_loopw [6] (fun iv wr => ∃ k : Nat, k ≤ l.length ∧ iv = .int .i64 k ∧ (∀ (j : Nat) (y : NodeE), j < k → l[j]? = some y → y.id ≠ x) ∧ Below w0.heap.size w0 wr) (fun iv _ => l.length - (intOf iv).toNat)
  case atStart => exact ⟨0, by omega, rfl, fun j y h => absurd h (by omega), Below.refl _ _⟩
  case round =>
    obtain ⟨k, hk, rfl, hno, hbr⟩ := hrel
    have lr := later hbr
    have Hno := hide hno
    clear hno
    by_cases hlt : k < l.length
    · obtain ⟨b1, o1, n, rfl, hn, C1, F1, hf1, hf2⟩ := (HL wr).get hlt
      have Hn := hide hn
      clear hn
      cases hp : ideq n.iDMachine n.iDSerial x.machine x.serial
      · have hne := hide (show n.id ≠ x by have := @ideq_iff n.id x; unfold NodeE.id at this ⊢; rw [hp] at this; simpa using this.symm)
        go_upto_region 4 with fail
        (refine wp_region_after (by kernel_rfl) (by kernel_rfl) ?_
         repeat (any_goals (first | go_big_quiet_skip | (go_big_quiet_want; go_big_quiet_op; first | go_big_quiet_on | go_big_quiet_call (fail)) | quiet_step (fail) | (refine wpQuiet_step (fun K hK => ?_); go_simp; split <;> (refine hK _ ?_; clear hK K))))
         all_goals (refine wpQuiet_nil ?_; intro _ hw'; obtain ⟨u', hw''⟩ := hw'; subst hw''; obtain ⟨wd, hbd⟩ := u'; simp only [After.val_mk]))
        have ld := later hbd
        go_wp2_with fail
        go_roundw
        case rel => exact ⟨k + 1, by omega, by go_num, fun j z hj hz => by
          rcases Nat.lt_or_ge j k with h | h
          · exact Hno.out j z h hz
          · have : j = k := by omega
            subst this
            rw [Hn.out] at hz; injection hz with hz; subst hz; exact hne.out, below_of⟩
        case measure => simp [intOf]; omega
      · have he := hide (show firstE l x = some n from firstE_hit Hn.out (by have := @ideq_iff n.id x; unfold NodeE.id at this ⊢; rw [hp] at this; simpa using this.symm) Hno.out)
        go_upto_region 4 with fail
        (refine wp_region_after (by kernel_rfl) (by kernel_rfl) ?_
         repeat (any_goals (first | go_big_quiet_skip | (go_big_quiet_want; go_big_quiet_op; first | go_big_quiet_on | go_big_quiet_call (fail)) | quiet_step (fail) | (refine wpQuiet_step (fun K hK => ?_); go_simp; split <;> (refine hK _ ?_; clear hK K))))
         all_goals (refine wpQuiet_nil ?_; intro _ hw'; obtain ⟨u', hw''⟩ := hw'; subst hw''; obtain ⟨wd, hbd⟩ := u'; simp only [After.val_mk]))
        have ld := later hbd
        go_wp2_with fail
        have hbW : Below w.heap.size w wd := below_of
        have b5 := blk_set (blk_set (blk_set (blk_set (blk_set (B2 wd).1 0 (.int .i64 (n).iDMachine)) 1 (.int .i64 (n).iDSerial)) 2 (.int .i64 (n).kind)) 3 (.int .i64 (n).clas)) 4 (.slice (n).A (n).fields.length (n).c)
        have r0 := blk_cell b5 0
        have r1 := blk_cell b5 1
        have r2 := blk_cell b5 2
        have r3 := blk_cell b5 3
        have r4 := blk_cell b5 4
        simp at r0 r1 r2 r3 r4
        have hbf : Below w.heap.size w (((((wd.setCell ⟨w.heap.size + 1 + 1, 0, none⟩ (.int .i64 (n).iDMachine)).setCell ⟨w.heap.size + 1 + 1, 1, none⟩ (.int .i64 (n).iDSerial)).setCell ⟨w.heap.size + 1 + 1, 2, none⟩ (.int .i64 (n).kind)).setCell ⟨w.heap.size + 1 + 1, 3, none⟩ (.int .i64 (n).clas)).setCell ⟨w.heap.size + 1 + 1, 4, none⟩ (.slice (n).A (n).fields.length (n).c)) := (by repeat (first | with_reducible exact hbW | with_reducible exact Below.refl _ _ | (with_reducible refine Below.drew ?_) | (with_reducible refine below_drewN ?_ _) | (with_reducible refine Below.alloc ?_ ?_ _; rotate_left; (first | omega | (simp <;> omega))) | (with_reducible refine Below.setCell ?_ ?_ _; rotate_left; (first | omega | (simp <;> omega)))))
        refine bodyPost_ret (v := .tuple #[(n).v, .bool true]) (by simp [results, Tryz.results30, go_sem, r0, r1, r2, r3, r4]) rfl ⟨?_, hbf⟩
        rw [he.out]; rfl
    · have hk' : k = l.length := by omega
      subst hk'
      have he := hide (firstE_miss Hno.out)
      go_wp2_with fail
      have hbW : Below w.heap.size w wr := below_of
      have b5 := blk_set (blk_set (blk_set (blk_set (blk_set (B2 wr).1 0 (.int .i64 ((NodeE.mk 0 0 0 0 none 0 [])).iDMachine)) 1 (.int .i64 ((NodeE.mk 0 0 0 0 none 0 [])).iDSerial)) 2 (.int .i64 ((NodeE.mk 0 0 0 0 none 0 [])).kind)) 3 (.int .i64 ((NodeE.mk 0 0 0 0 none 0 [])).clas)) 4 (.slice ((NodeE.mk 0 0 0 0 none 0 [])).A ((NodeE.mk 0 0 0 0 none 0 [])).fields.length ((NodeE.mk 0 0 0 0 none 0 [])).c)
      have r0 := blk_cell b5 0
      have r1 := blk_cell b5 1
      have r2 := blk_cell b5 2
      have r3 := blk_cell b5 3
      have r4 := blk_cell b5 4
      simp at r0 r1 r2 r3 r4
      have hbf : Below w.heap.size w (((((wr.setCell ⟨w.heap.size + 1 + 1, 0, none⟩ (.int .i64 ((NodeE.mk 0 0 0 0 none 0 [])).iDMachine)).setCell ⟨w.heap.size + 1 + 1, 1, none⟩ (.int .i64 ((NodeE.mk 0 0 0 0 none 0 [])).iDSerial)).setCell ⟨w.heap.size + 1 + 1, 2, none⟩ (.int .i64 ((NodeE.mk 0 0 0 0 none 0 [])).kind)).setCell ⟨w.heap.size + 1 + 1, 3, none⟩ (.int .i64 ((NodeE.mk 0 0 0 0 none 0 [])).clas)).setCell ⟨w.heap.size + 1 + 1, 4, none⟩ (.slice ((NodeE.mk 0 0 0 0 none 0 [])).A ((NodeE.mk 0 0 0 0 none 0 [])).fields.length ((NodeE.mk 0 0 0 0 none 0 [])).c)) := (by repeat (first | with_reducible exact hbW | with_reducible exact Below.refl _ _ | (with_reducible refine Below.drew ?_) | (with_reducible refine below_drewN ?_ _) | (with_reducible refine Below.alloc ?_ ?_ _; rotate_left; (first | omega | (simp <;> omega))) | (with_reducible refine Below.setCell ?_ ?_ _; rotate_left; (first | omega | (simp <;> omega)))))
      refine bodyPost_ret (v := .tuple #[((NodeE.mk 0 0 0 0 none 0 [])).v, .bool false]) (by simp [results, Tryz.results30, go_sem, r0, r1, r2, r3, r4]) rfl ⟨?_, hbf⟩
      rw [he.out]; rfl
end Go.Proofs.YtjegncmkebbdfaaGreatDoor
