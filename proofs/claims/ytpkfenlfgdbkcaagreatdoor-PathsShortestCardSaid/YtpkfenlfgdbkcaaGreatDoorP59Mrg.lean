/-
  Contracts of the functions of this seat that each theorem names: what a call returns, and that it writes nothing that was there before. The conditions stand in each theorem.
-/
import Derived.Test.YtpkfenlfgdbkcaaGreatDoorGrp41
import Derived.Deep.RegionHeld3
set_option linter.unusedSimpArgs false
set_option linter.unusedVariables false
namespace Go.Proofs.YtpkfenlfgdbkcaaGreatDoor
open Go.RowKit
attribute [local go_sem ↓] run_eql_id run_neq_id
attribute [local go_sem] Oper.semAt_some
attribute [local simp] heap_drew
/-- What merge gives: one of the two nodes, and whether they agree. -/
def MergePost (x y : NodeE) (w : World) (r : Ending) (w' : World) : Prop := ∃ m : NodeE, (m = x ∨ m = y) ∧ Hid (∀ z, mergeN x.con y.con = some z → m.con = z) ∧ r = .returned (.tuple #[m.v, .bool (mergeN x.con y.con).isSome]) ∧ Below w.heap.size w w'
theorem merge_of_same {a b : NodeC} (h : mergeN a b = if a = b then some a else none) : ∀ z, mergeN a b = some z → a = z := fun z hz => by
  rw [h] at hz
  split at hz
  · injection hz
  · cases hz
theorem merge_of_clas {a b m : NodeC} {p : Prop} [Decidable p] (h : mergeN a b = if p then some m else none) : ∀ z, mergeN a b = some z → m = z := fun z hz => by
  rw [h] at hz
  split at hz
  · injection hz
  · cases hz
set_option maxRecDepth 100000 in
set_option maxHeartbeats 4000000 in
theorem merge16_any (x y : NodeE) (w : World) (hx : SlAt ValE.cells 4 w x.A x.fields) (hy : SlAt ValE.cells 4 w y.A y.fields) (hxl : x.fields.length ≤ 1000000000) (hyl : y.fields.length ≤ 1000000000) :
    Calls Tryz.prog 112 #[.agg #[.int .i64 x.iDMachine, .int .i64 x.iDSerial, .int .i64 x.kind, .int .i64 x.clas, .slice x.A x.fields.length x.c], .agg #[.int .i64 y.iDMachine, .int .i64 y.iDSerial, .int .i64 y.kind, .int .i64 y.clas, .slice y.A y.fields.length y.c]] w (MergePost x y w) := by
  have HS : ∀ u [Later w u], Calls Tryz.prog 142 #[.agg #[.int .i64 x.iDMachine, .int .i64 x.iDSerial, .int .i64 x.kind, .int .i64 x.clas, .slice x.A x.fields.length x.c], .agg #[.int .i64 y.iDMachine, .int .i64 y.iDSerial, .int .i64 y.kind, .int .i64 y.clas, .slice y.A y.fields.length y.c]] u fun r w' => r = .returned (.bool (decide (x.con = y.con))) ∧ Below u.heap.size u w' := fun u i => sameNode16_any _ _ _ _ _ _ _ _ _ _ _ _ _ _ u (hx.below i.below) (hy.below i.below) hxl hyl
  have hs := hide (show mergeN x.con y.con = if (x.kind = 3 ↔ y.kind = 3) then (if x.con = y.con then some x.con else none) else if x.clas = y.clas then some (if x.kind = 3 then y.con else x.con) else none from rfl)
  go_enter Tryz.func112, Tryz.ntmps112
  go_upto_region 1 with fail
  refine wp_name ?_
  intro w0 hw0
  obtain ⟨B0, B1, B2, l0⟩ := box3 hw0
  have l00 : Later w0 w0 := Later.refl
  clear hw0
  cases k1 : (x.kind == 3) <;> cases k2 : (y.kind == 3)
  · have he : Hid (mergeN x.con y.con = if x.con = y.con then some x.con else none) := hide (by rw [hs.out, if_pos ⟨fun h => absurd h (kf k1), fun h => absurd h (kf k2)⟩])
    have hq : (mergeN x.con y.con).isSome = decide (x.con = y.con) := by rw [he.out]; by_cases h : x.con = y.con <;> simp [h]
    have Hq := hide hq
    have Hm : Hid (∀ z, mergeN x.con y.con = some z → x.con = z) := hide (merge_of_same he.out)
    generalize decide (x.con = y.con) = e at HS Hq
    clear hq he hs
    go_upto_region 2 with fail
    go_region_with (go_at_call 142; refine (HS _).mono ?_; rintro r w2 ⟨rfl, hb2⟩; have l2 := later hb2)
    all_goals go_wp2_with fail
    all_goals
      have hbW : Below w.heap.size w w2 := below_of
      have b5 := blk_set (blk_set (blk_set (blk_set (blk_set (B2 w2).1 0 (.int .i64 (x).iDMachine)) 1 (.int .i64 (x).iDSerial)) 2 (.int .i64 (x).kind)) 3 (.int .i64 (x).clas)) 4 (.slice (x).A (x).fields.length (x).c)
      have r0 := blk_cell b5 0
      have r1 := blk_cell b5 1
      have r2 := blk_cell b5 2
      have r3 := blk_cell b5 3
      have r4 := blk_cell b5 4
      simp at r0 r1 r2 r3 r4
      have hbf : Below w.heap.size w (((((w2.setCell ⟨w.heap.size + 1 + 1, 0, none⟩ (.int .i64 (x).iDMachine)).setCell ⟨w.heap.size + 1 + 1, 1, none⟩ (.int .i64 (x).iDSerial)).setCell ⟨w.heap.size + 1 + 1, 2, none⟩ (.int .i64 (x).kind)).setCell ⟨w.heap.size + 1 + 1, 3, none⟩ (.int .i64 (x).clas)).setCell ⟨w.heap.size + 1 + 1, 4, none⟩ (.slice (x).A (x).fields.length (x).c)) := (by repeat (first | with_reducible exact hbW | with_reducible exact Below.refl _ _ | (with_reducible refine Below.drew ?_) | (with_reducible refine below_drewN ?_ _) | (with_reducible refine Below.alloc ?_ ?_ _; rotate_left; (first | omega | (simp <;> omega))) | (with_reducible refine Below.setCell ?_ ?_ _; rotate_left; (first | omega | (simp <;> omega)))))
      refine bodyPost_ret (v := .tuple #[(x).v, .bool e]) (by simp [results, Tryz.results112, go_sem, r0, r1, r2, r3, r4]) rfl ?_
      exact ⟨x, .inl rfl, Hm, by rw [Hq.out], (by repeat (first | with_reducible exact hbf | with_reducible exact Below.refl _ _ | (with_reducible refine Below.drew ?_) | (with_reducible refine below_drewN ?_ _) | (with_reducible refine Below.alloc ?_ ?_ _; rotate_left; (first | omega | (simp <;> omega))) | (with_reducible refine Below.setCell ?_ ?_ _; rotate_left; (first | omega | (simp <;> omega)))))⟩
  · have he : Hid (mergeN x.con y.con = if x.clas = y.clas then some x.con else none) := hide (by rw [hs.out, if_neg (fun h => absurd (h.2 (kt k2)) (kf k1)), if_neg (kf k1)])
    have Hq : Hid ((mergeN x.con y.con).isSome = (x.clas == y.clas)) := hide (by rw [he.out]; by_cases h : x.clas = y.clas <;> simp [h])
    have Hm : Hid (∀ z, mergeN x.con y.con = some z → x.con = z) := hide (merge_of_clas he.out)
    clear he hs
    go_upto_region 5 with fail
    go_region
    all_goals go_wp2_with fail
    all_goals
      have hbW : Below w.heap.size w w0 := below_of
      have b5 := blk_set (blk_set (blk_set (blk_set (blk_set (B2 w0).1 0 (.int .i64 (x).iDMachine)) 1 (.int .i64 (x).iDSerial)) 2 (.int .i64 (x).kind)) 3 (.int .i64 (x).clas)) 4 (.slice (x).A (x).fields.length (x).c)
      have r0 := blk_cell b5 0
      have r1 := blk_cell b5 1
      have r2 := blk_cell b5 2
      have r3 := blk_cell b5 3
      have r4 := blk_cell b5 4
      simp at r0 r1 r2 r3 r4
      have hbf : Below w.heap.size w (((((w0.setCell ⟨w.heap.size + 1 + 1, 0, none⟩ (.int .i64 (x).iDMachine)).setCell ⟨w.heap.size + 1 + 1, 1, none⟩ (.int .i64 (x).iDSerial)).setCell ⟨w.heap.size + 1 + 1, 2, none⟩ (.int .i64 (x).kind)).setCell ⟨w.heap.size + 1 + 1, 3, none⟩ (.int .i64 (x).clas)).setCell ⟨w.heap.size + 1 + 1, 4, none⟩ (.slice (x).A (x).fields.length (x).c)) := (by repeat (first | with_reducible exact hbW | with_reducible exact Below.refl _ _ | (with_reducible refine Below.drew ?_) | (with_reducible refine below_drewN ?_ _) | (with_reducible refine Below.alloc ?_ ?_ _; rotate_left; (first | omega | (simp <;> omega))) | (with_reducible refine Below.setCell ?_ ?_ _; rotate_left; (first | omega | (simp <;> omega)))))
      refine bodyPost_ret (v := .tuple #[(x).v, .bool (x.clas == y.clas)]) (by simp [results, Tryz.results112, go_sem, r0, r1, r2, r3, r4]) rfl ?_
      exact ⟨x, .inl rfl, Hm, by rw [Hq.out], (by repeat (first | with_reducible exact hbf | with_reducible exact Below.refl _ _ | (with_reducible refine Below.drew ?_) | (with_reducible refine below_drewN ?_ _) | (with_reducible refine Below.alloc ?_ ?_ _; rotate_left; (first | omega | (simp <;> omega))) | (with_reducible refine Below.setCell ?_ ?_ _; rotate_left; (first | omega | (simp <;> omega)))))⟩
  · have he : Hid (mergeN x.con y.con = if x.clas = y.clas then some y.con else none) := hide (by rw [hs.out, if_neg (fun h => absurd (h.1 (kt k1)) (kf k2)), if_pos (kt k1)])
    have Hq : Hid ((mergeN x.con y.con).isSome = (x.clas == y.clas)) := hide (by rw [he.out]; by_cases h : x.clas = y.clas <;> simp [h])
    have Hm : Hid (∀ z, mergeN x.con y.con = some z → y.con = z) := hide (merge_of_clas he.out)
    clear he hs
    go_upto_region 4 with fail
    go_region
    all_goals go_wp2_with fail
    all_goals
      have hbW : Below w.heap.size w w0 := below_of
      have b5 := blk_set (blk_set (blk_set (blk_set (blk_set (B2 w0).1 0 (.int .i64 (y).iDMachine)) 1 (.int .i64 (y).iDSerial)) 2 (.int .i64 (y).kind)) 3 (.int .i64 (y).clas)) 4 (.slice (y).A (y).fields.length (y).c)
      have r0 := blk_cell b5 0
      have r1 := blk_cell b5 1
      have r2 := blk_cell b5 2
      have r3 := blk_cell b5 3
      have r4 := blk_cell b5 4
      simp at r0 r1 r2 r3 r4
      have hbf : Below w.heap.size w (((((w0.setCell ⟨w.heap.size + 1 + 1, 0, none⟩ (.int .i64 (y).iDMachine)).setCell ⟨w.heap.size + 1 + 1, 1, none⟩ (.int .i64 (y).iDSerial)).setCell ⟨w.heap.size + 1 + 1, 2, none⟩ (.int .i64 (y).kind)).setCell ⟨w.heap.size + 1 + 1, 3, none⟩ (.int .i64 (y).clas)).setCell ⟨w.heap.size + 1 + 1, 4, none⟩ (.slice (y).A (y).fields.length (y).c)) := (by repeat (first | with_reducible exact hbW | with_reducible exact Below.refl _ _ | (with_reducible refine Below.drew ?_) | (with_reducible refine below_drewN ?_ _) | (with_reducible refine Below.alloc ?_ ?_ _; rotate_left; (first | omega | (simp <;> omega))) | (with_reducible refine Below.setCell ?_ ?_ _; rotate_left; (first | omega | (simp <;> omega)))))
      refine bodyPost_ret (v := .tuple #[(y).v, .bool (x.clas == y.clas)]) (by simp [results, Tryz.results112, go_sem, r0, r1, r2, r3, r4]) rfl ?_
      exact ⟨y, .inr rfl, Hm, by rw [Hq.out], (by repeat (first | with_reducible exact hbf | with_reducible exact Below.refl _ _ | (with_reducible refine Below.drew ?_) | (with_reducible refine below_drewN ?_ _) | (with_reducible refine Below.alloc ?_ ?_ _; rotate_left; (first | omega | (simp <;> omega))) | (with_reducible refine Below.setCell ?_ ?_ _; rotate_left; (first | omega | (simp <;> omega)))))⟩
  · have he : Hid (mergeN x.con y.con = if x.con = y.con then some x.con else none) := hide (by rw [hs.out, if_pos ⟨fun _ => kt k2, fun _ => kt k1⟩])
    have hq : (mergeN x.con y.con).isSome = decide (x.con = y.con) := by rw [he.out]; by_cases h : x.con = y.con <;> simp [h]
    have Hq := hide hq
    have Hm : Hid (∀ z, mergeN x.con y.con = some z → x.con = z) := hide (merge_of_same he.out)
    generalize decide (x.con = y.con) = e at HS Hq
    clear hq he hs
    go_upto_region 2 with fail
    go_region_with (go_at_call 142; refine (HS _).mono ?_; rintro r w2 ⟨rfl, hb2⟩; have l2 := later hb2)
    all_goals go_wp2_with fail
    all_goals
      have hbW : Below w.heap.size w w2 := below_of
      have b5 := blk_set (blk_set (blk_set (blk_set (blk_set (B2 w2).1 0 (.int .i64 (x).iDMachine)) 1 (.int .i64 (x).iDSerial)) 2 (.int .i64 (x).kind)) 3 (.int .i64 (x).clas)) 4 (.slice (x).A (x).fields.length (x).c)
      have r0 := blk_cell b5 0
      have r1 := blk_cell b5 1
      have r2 := blk_cell b5 2
      have r3 := blk_cell b5 3
      have r4 := blk_cell b5 4
      simp at r0 r1 r2 r3 r4
      have hbf : Below w.heap.size w (((((w2.setCell ⟨w.heap.size + 1 + 1, 0, none⟩ (.int .i64 (x).iDMachine)).setCell ⟨w.heap.size + 1 + 1, 1, none⟩ (.int .i64 (x).iDSerial)).setCell ⟨w.heap.size + 1 + 1, 2, none⟩ (.int .i64 (x).kind)).setCell ⟨w.heap.size + 1 + 1, 3, none⟩ (.int .i64 (x).clas)).setCell ⟨w.heap.size + 1 + 1, 4, none⟩ (.slice (x).A (x).fields.length (x).c)) := (by repeat (first | with_reducible exact hbW | with_reducible exact Below.refl _ _ | (with_reducible refine Below.drew ?_) | (with_reducible refine below_drewN ?_ _) | (with_reducible refine Below.alloc ?_ ?_ _; rotate_left; (first | omega | (simp <;> omega))) | (with_reducible refine Below.setCell ?_ ?_ _; rotate_left; (first | omega | (simp <;> omega)))))
      refine bodyPost_ret (v := .tuple #[(x).v, .bool e]) (by simp [results, Tryz.results112, go_sem, r0, r1, r2, r3, r4]) rfl ?_
      exact ⟨x, .inl rfl, Hm, by rw [Hq.out], (by repeat (first | with_reducible exact hbf | with_reducible exact Below.refl _ _ | (with_reducible refine Below.drew ?_) | (with_reducible refine below_drewN ?_ _) | (with_reducible refine Below.alloc ?_ ?_ _; rotate_left; (first | omega | (simp <;> omega))) | (with_reducible refine Below.setCell ?_ ?_ _; rotate_left; (first | omega | (simp <;> omega)))))⟩
end Go.Proofs.YtpkfenlfgdbkcaaGreatDoor
