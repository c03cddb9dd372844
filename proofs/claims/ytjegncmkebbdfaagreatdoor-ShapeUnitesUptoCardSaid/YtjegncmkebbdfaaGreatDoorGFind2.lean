/-
  Contracts of the functions of this seat that each theorem names: what a call returns, and that it writes nothing that was there before. The conditions stand in each theorem.
-/
import Derived.Test.YtjegncmkebbdfaaGreatDoorGFind
set_option linter.unusedSimpArgs false
set_option linter.unusedVariables false
namespace Go.Proofs.YtjegncmkebbdfaaGreatDoor
open Go.RowKit
attribute [local go_sem ↓] run_eql_id run_neq_id
attribute [local go_sem] Instr.makeFunc
theorem valT : ElemT Tryz.prog 49 46 4 32 := ElemT.mk' (z := .agg #[.int .i64 0, .int .i64 0, .int .i64 0, .int .i64 0]) Tryz.underlying49 (by kernel_rfl) rfl
/-- What Clone gives: a slice of the call's own. -/
def CloneP {α : Type} (f : α → List Value) (s : Nat) (e : TypeId) (l : List α) (w : World) (r : Ending) (w' : World) : Prop := ∃ (A : Option Addr) (c : Nat), r = .returned (.slice A l.length c) ∧ l.length ≤ c ∧ c ≤ maxLen ∧ Own f s e w.heap.size w' (.slice A l.length c) l ∧ Below w.heap.size w w'
set_option maxHeartbeats 1000000 in
theorem cloneV_any (A : Option Addr) (c : Nat) (l : List ValE) (w : World) (hs : SlAt ValE.cells 4 w A l) (hl : l.length ≤ 1000000000) :
    Calls Tryz.prog 57 #[.slice A l.length c] w (CloneP ValE.cells 4 46 l w) := by
  have hq := fun (W : World) n c => Lib.run_eql_slice_nil (P := Tryz.prog) W 49 46 A n c 0 0 Tryz.underlying49
  cases A with
  | none =>
    simp only [Option.isNone_none] at hq
    have hl0 : l = [] := by
      by_cases h : l = []
      · exact h
      · obtain ⟨b, off, e, _⟩ := hs h; cases e
    subst hl0
    go_enter Tryz.func57, Tryz.ntmps57
    go_wp2_with fail
    go_ret
    exact ⟨none, 0, rfl, by simp, by simp, Own.nil, below_of⟩
  | some a =>
    simp only [Option.isNone_some] at hq
    go_enter Tryz.func57, Tryz.ntmps57
    go_wp2_with (at_builtin; refine wpList_appE rfl (.tmp 5) (.tmp 6) rfl ValE.enc valT _ _ l rfl rfl hs (by omega) (by unfold maxLen; omega) ?_; intro A' c' w1 ho hm hb)
    go_ret
    obtain ⟨h1, h2, h3⟩ := ho.at_ ValE.enc
    exact ⟨A', c', rfl, h2, hm, ho, hb⟩
set_option maxHeartbeats 1000000 in
theorem cloneI_any (A : Option Addr) (c : Nat) (l : List IDE) (w : World) (hs : SlAt IDE.cells 2 w A l) (hl : l.length ≤ 1000000000) :
    Calls Tryz.prog 48 #[.slice A l.length c] w (CloneP IDE.cells 2 44 l w) := by
  have hq := fun (W : World) n c => Lib.run_eql_slice_nil (P := Tryz.prog) W 55 44 A n c 0 0 Tryz.underlying55
  cases A with
  | none =>
    simp only [Option.isNone_none] at hq
    have hl0 : l = [] := by
      by_cases h : l = []
      · exact h
      · obtain ⟨b, off, e, _⟩ := hs h; cases e
    subst hl0
    go_enter Tryz.func48, Tryz.ntmps48
    go_wp2_with fail
    go_ret
    exact ⟨none, 0, rfl, by simp, by simp, Own.nil, below_of⟩
  | some a =>
    simp only [Option.isNone_some] at hq
    go_enter Tryz.func48, Tryz.ntmps48
    go_wp2_with (at_builtin; refine wpList_appE rfl (.tmp 5) (.tmp 6) rfl IDE.enc idT _ _ l rfl rfl hs (by omega) (by unfold maxLen; omega) ?_; intro A' c' w1 ho hm hb)
    go_ret
    obtain ⟨h1, h2, h3⟩ := ho.at_ IDE.enc
    exact ⟨A', c', rfl, h2, hm, ho, hb⟩
/-! A result node in its cells (block w.heap.size + 1 + 1): W the world ahead of the store, n the node. -/
def CopyPost (n : NodeE) (w : World) (r : Ending) (w' : World) : Prop := ∃ A c, r = .returned (.agg #[.int .i64 n.iDMachine, .int .i64 n.iDSerial, .int .i64 n.kind, .int .i64 n.clas, .slice A n.fields.length c]) ∧ n.fields.length ≤ c ∧ c ≤ maxLen ∧ Own ValE.cells 4 46 w.heap.size w' (.slice A n.fields.length c) n.fields ∧ Below w.heap.size w w'
set_option maxRecDepth 100000 in
set_option maxHeartbeats 4000000 in
theorem copyNode_any (n : NodeE) (w : World) (hf : SlAt ValE.cells 4 w n.A n.fields) (hl : n.fields.length ≤ 1000000000) : Calls Tryz.prog 24 #[n.v] w (CopyPost n w) := by
  have HF : ∀ u [Later w u], SlAt ValE.cells 4 u n.A n.fields := fun u i => hf.below i.below
  go_enter Tryz.func24, Tryz.ntmps24
  go_upto_region 1 with fail
  refine wp_name ?_
  intro w0 hw0
  obtain ⟨B0, B1, l0⟩ := box2 hw0
  have hz0 : w.heap.size + 1 < w0.heap.size := by rw [← hw0]; simp
  clear hw0
  go_wp2_with (go_at_call 57; refine (cloneV_any n.A n.c n.fields _ (HF _) hl).mono ?_; rintro r w1 ⟨A1, c1, rfl, h1, h2, h3, hb1⟩; have l1 := later hb1)
  have hbW : Below w.heap.size w w1 := below_of
  have hn0 : (Value.slice A1 n.fields.length c1).ownBlock ≠ some w.heap.size := fun e => absurd (World.ownsRow.lt h3 _ e).1 (by omega)
  have hn1 : (Value.slice A1 n.fields.length c1).ownBlock ≠ some (w.heap.size + 1) := fun e => absurd (World.ownsRow.lt h3 _ e).1 (by omega)
  have b0 : (w1.setCell ⟨w.heap.size, 4, none⟩ (.slice A1 n.fields.length c1)).heap[w.heap.size + 1]? = _ := (blk_far (p := ⟨w.heap.size, 4, none⟩) (show w.heap.size + 1 ≠ w.heap.size by omega) _).trans (B1 w1).1
  have b5 := blk_set (blk_set (blk_set (blk_set (blk_set b0 0 (.int .i64 n.iDMachine)) 1 (.int .i64 n.iDSerial)) 2 (.int .i64 n.kind)) 3 (.int .i64 n.clas)) 4 (.slice A1 n.fields.length c1)
  have r0 := blk_cell b5 0
  have r1 := blk_cell b5 1
  have r2 := blk_cell b5 2
  have r3 := blk_cell b5 3
  have r4 := blk_cell b5 4
  simp at r0 r1 r2 r3 r4
  refine bodyPost_ret (v := .agg #[.int .i64 n.iDMachine, .int .i64 n.iDSerial, .int .i64 n.kind, .int .i64 n.clas, .slice A1 n.fields.length c1]) (by simp [results, Tryz.results24, go_sem, r0, r1, r2, r3, r4]) rfl ⟨A1, c1, rfl, h1, h2, ?_, (by repeat (first | with_reducible exact hbW | with_reducible exact Below.refl _ _ | (with_reducible refine Below.drew ?_) | (with_reducible refine below_drewN ?_ _) | (with_reducible refine Below.alloc ?_ ?_ _; rotate_left; (first | omega | (simp <;> omega))) | (with_reducible refine Below.setCell ?_ ?_ _; rotate_left; (first | omega | (simp <;> omega)))))⟩
  exact ((((((h3.far (p := ⟨w.heap.size, 4, none⟩) hn0 _).far (p := ⟨w.heap.size + 1, 0, none⟩) hn1 _).far (p := ⟨w.heap.size + 1, 1, none⟩) hn1 _).far (p := ⟨w.heap.size + 1, 2, none⟩) hn1 _).far (p := ⟨w.heap.size + 1, 3, none⟩) hn1 _).far (p := ⟨w.heap.size + 1, 4, none⟩) hn1 _).mono (by omega)
end Go.Proofs.YtjegncmkebbdfaaGreatDoor
