/-
  Contracts of the functions of this seat that each theorem names: what a call returns, and that it writes nothing that was there before. The conditions stand in each theorem.
-/
import Derived.Test.YtnjpmpelgigmjaaC34Law1
import Derived.Deep.RegionHeld3
namespace Go.Proofs.Ytnjpmpelgigmjaa
open Go.RowKit
attribute [local go_sem ↓] run_eql_trace run_neq_trace

set_option maxHeartbeats 1600000 in
theorem awake_any (w : World) : Calls Try.prog 10 #[] w fun r w' => r = .returned (.bool true) ∧ Below w.heap.size w w' := by
  go_enter Try.func10, Try.ntmps10
  go_upto_region 4 with fail
  refine wp_name ?_
  intro w0 hw0
  have hb0 : Below w.heap.size w w0 := by rw [← hw0]; exact (by repeat (first | with_reducible exact Below.refl _ _ | (with_reducible refine Below.drew ?_) | (with_reducible refine below_drewN ?_ _) | (with_reducible refine Below.alloc ?_ ?_ _; rotate_left; (first | omega | (simp <;> omega))) | (with_reducible refine Below.setCell ?_ ?_ _; rotate_left; (first | omega | (simp <;> omega)))))
  have tB : w0.heap[w.heap.size]? = some (.cells #[.int .i64 1, .int .i64 1] 26 (0, 0)) := (by rw [← hw0]; simp only [heap_alloc_if, World.size_alloc]; repeat (first | rw [if_pos trivial] | rw [if_neg (by omega)] | rw [if_pos (by omega)]); try rfl)
  have uB : w0.heap[w.heap.size + 1]? = some (.cells #[.int .i64 2, .int .i64 1] 26 (0, 0)) := (by rw [← hw0]; simp only [heap_alloc_if, World.size_alloc]; repeat (first | rw [if_pos trivial] | rw [if_neg (by omega)] | rw [if_pos (by omega)]); try rfl)
  have sB : w0.heap[w.heap.size + 1 + 1]? = some (.cells (StubE.cells ⟨2, 7, 0, 0, 0, 0, 0, false, false, false, 0, 0⟩).toArray 42 (0, 0)) := (by rw [← hw0]; simp only [heap_alloc_if, World.size_alloc]; repeat (first | rw [if_pos trivial] | rw [if_neg (by omega)] | rw [if_pos (by omega)]); try rfl)
  have nB : w0.heap[w.heap.size + 1 + 1 + 1]? = some (.cells (NeedE.cells ⟨2, 7, 4⟩).toArray 39 (0, 0)) := (by rw [← hw0]; simp only [heap_alloc_if, World.size_alloc]; repeat (first | rw [if_pos trivial] | rw [if_neg (by omega)] | rw [if_pos (by omega)]); try rfl)
  have cB : w0.heap[w.heap.size + 1 + 1 + 1 + 1]? = some (.cells #[.int .i64 0, .int .i64 3, .slice (some ⟨w.heap.size + 1 + 1 + 1, 0, none⟩) 1 1, .slice none 0 0, .slice none 0 0] 24 (0, 0)) := (by rw [← hw0]; simp only [heap_alloc_if, World.size_alloc]; repeat (first | rw [if_pos trivial] | rw [if_neg (by omega)] | rw [if_pos (by omega)]); try rfl)
  clear hw0
  have t0 : w0.cell? ⟨w.heap.size, 0, none⟩ = some (.int .i64 1) := blk_cell tB 0
  have t1 : w0.cell? ⟨w.heap.size, 1, none⟩ = some (.int .i64 1) := blk_cell tB 1
  have u0 : w0.cell? ⟨w.heap.size + 1, 0, none⟩ = some (.int .i64 2) := blk_cell uB 0
  have u1 : w0.cell? ⟨w.heap.size + 1, 1, none⟩ = some (.int .i64 1) := blk_cell uB 1
  have c0 : w0.cell? ⟨w.heap.size + 1 + 1 + 1 + 1, 0, none⟩ = some (.int .i64 0) := blk_cell cB 0
  have c1 : w0.cell? ⟨w.heap.size + 1 + 1 + 1 + 1, 1, none⟩ = some (.int .i64 3) := blk_cell cB 1
  have c2 : w0.cell? ⟨w.heap.size + 1 + 1 + 1 + 1, 2, none⟩ = some (.slice (some ⟨w.heap.size + 1 + 1 + 1, 0, none⟩) 1 1) := blk_cell cB 2
  have c3 : w0.cell? ⟨w.heap.size + 1 + 1 + 1 + 1, 3, none⟩ = some (.slice none 0 0) := blk_cell cB 3
  have c4 : w0.cell? ⟨w.heap.size + 1 + 1 + 1 + 1, 4, none⟩ = some (.slice none 0 0) := blk_cell cB 4
  have hS : SlAt StubE.cells 12 w0 (some ⟨w.heap.size + 1 + 1, 0, none⟩) [⟨2, 7, 0, 0, 0, 0, 0, false, false, false, 0, 0⟩] := blk_slAt StubE.enc sB _ rfl
  have hC : ClaimV.at_ ⟨0, 3, some ⟨w.heap.size + 1 + 1 + 1, 0, none⟩, 1, [⟨2, 7, 4⟩], none, 0, [], none, 0, []⟩ w0 := ⟨blk_slAt NeedE.enc nB _ rfl, SlAt.nil, SlAt.nil, by simp, by simp, by simp, by simp⟩
  have hlt0 := blk_lt tB
  have hlt1 := blk_lt uB
  have hlt4 := blk_lt cB
  clear tB uB sB nB cB
  have T1 := hide (show checkB ⟨0, 3, some ⟨w.heap.size + 1 + 1 + 1, 0, none⟩, 1, [⟨2, 7, 4⟩], none, 0, [], none, 0, []⟩ ⟨1, 1⟩ 3 [⟨2, 7, 0, 0, 0, 0, 0, false, false, false, 0, 0⟩] [] [0, 4] = true from rfl)
  have T2 := hide (show checkB ⟨0, 3, some ⟨w.heap.size + 1 + 1 + 1, 0, none⟩, 1, [⟨2, 7, 4⟩], none, 0, [], none, 0, []⟩ ⟨1, 1⟩ 3 [⟨2, 7, 0, 0, 0, 0, 0, false, false, false, 0, 0⟩] [] [0, 3] = false from rfl)
  go_wp2_with fail
  refine (check_any ⟨0, 3, some ⟨w.heap.size + 1 + 1 + 1, 0, none⟩, 1, [⟨2, 7, 4⟩], none, 0, [], none, 0, []⟩ ⟨1, 1⟩ 3 _ 1 [⟨2, 7, 0, 0, 0, 0, 0, false, false, false, 0, 0⟩] none 0 [] _ 2 [0, 4] _ (hC.below (by repeat (first | with_reducible exact Below.refl _ _ | (with_reducible refine Below.drew ?_) | (with_reducible refine below_drewN ?_ _) | (with_reducible refine Below.alloc ?_ ?_ _; rotate_left; (first | omega | (simp <;> omega))) | (with_reducible refine Below.setCell ?_ ?_ _; rotate_left; (first | omega | (simp <;> omega)))))) (hS.below (by repeat (first | with_reducible exact Below.refl _ _ | (with_reducible refine Below.drew ?_) | (with_reducible refine below_drewN ?_ _) | (with_reducible refine Below.alloc ?_ ?_ _; rotate_left; (first | omega | (simp <;> omega))) | (with_reducible refine Below.setCell ?_ ?_ _; rotate_left; (first | omega | (simp <;> omega)))))) SlAt.nil (blk_slAt (f := I64.cells) (s := 1) ⟨fun _ => rfl, fun x u hu => by simp only [I64.cells, List.mem_singleton] at hu; subst hu; rfl, by decide⟩ (heap_alloc_new _ _) [0, 4] rfl) (by simp) (by simp) (by simp)).mono ?_
  rintro r w1 ⟨rfl, hb1⟩
  rw [T1.out]
  have hb1' : Below w0.heap.size w0 w1 := (Below.trans (by repeat (first | with_reducible exact Below.refl _ _ | (with_reducible refine Below.drew ?_) | (with_reducible refine below_drewN ?_ _) | (with_reducible refine Below.alloc ?_ ?_ _; rotate_left; (first | omega | (simp <;> omega))) | (with_reducible refine Below.setCell ?_ ?_ _; rotate_left; (first | omega | (simp <;> omega))))) (hb1.mono (by first | omega | (simp <;> omega))))
  have hC1 := hC.below hb1'
  have hS1 := hS.below hb1'
  have t0' := cell_below t0 hb1'
  have t1' := cell_below t1 hb1'
  have u0' := cell_below u0 hb1'
  have u1' := cell_below u1 hb1'
  have c0' := cell_below c0 hb1'
  have c1' := cell_below c1 hb1'
  have c2' := cell_below c2 hb1'
  have c3' := cell_below c3 hb1'
  have c4' := cell_below c4 hb1'
  have hs1 := hb1'.size
  have hlt0' : w.heap.size < w1.heap.size := by omega
  have hlt1' : w.heap.size + 1 < w1.heap.size := by omega
  have hlt4' : w.heap.size + 1 + 1 + 1 + 1 < w1.heap.size := by omega
  clear hC hS t0 t1 u0 u1 c0 c1 c2 c3 c4
  go_wp2_with fail
  refine (check_any ⟨0, 3, some ⟨w.heap.size + 1 + 1 + 1, 0, none⟩, 1, [⟨2, 7, 4⟩], none, 0, [], none, 0, []⟩ ⟨1, 1⟩ 3 _ 1 [⟨2, 7, 0, 0, 0, 0, 0, false, false, false, 0, 0⟩] none 0 [] _ 2 [0, 3] _ (hC1.below (by repeat (first | with_reducible exact Below.refl _ _ | (with_reducible refine Below.drew ?_) | (with_reducible refine below_drewN ?_ _) | (with_reducible refine Below.alloc ?_ ?_ _; rotate_left; (first | omega | (simp <;> omega))) | (with_reducible refine Below.setCell ?_ ?_ _; rotate_left; (first | omega | (simp <;> omega)))))) (hS1.below (by repeat (first | with_reducible exact Below.refl _ _ | (with_reducible refine Below.drew ?_) | (with_reducible refine below_drewN ?_ _) | (with_reducible refine Below.alloc ?_ ?_ _; rotate_left; (first | omega | (simp <;> omega))) | (with_reducible refine Below.setCell ?_ ?_ _; rotate_left; (first | omega | (simp <;> omega)))))) SlAt.nil (blk_slAt (f := I64.cells) (s := 1) ⟨fun _ => rfl, fun x u hu => by simp only [I64.cells, List.mem_singleton] at hu; subst hu; rfl, by decide⟩ (heap_alloc_new _ _) [0, 3] rfl) (by simp) (by simp) (by simp)).mono ?_
  rintro r w2 ⟨rfl, hb2⟩
  rw [T2.out]
  have hb2' : Below w1.heap.size w1 w2 := (Below.trans (by repeat (first | with_reducible exact Below.refl _ _ | (with_reducible refine Below.drew ?_) | (with_reducible refine below_drewN ?_ _) | (with_reducible refine Below.alloc ?_ ?_ _; rotate_left; (first | omega | (simp <;> omega))) | (with_reducible refine Below.setCell ?_ ?_ _; rotate_left; (first | omega | (simp <;> omega))))) (hb2.mono (by first | omega | (simp <;> omega))))
  have hC2 := hC1.below hb2'
  have hS2 := hS1.below hb2'
  have t0 := cell_below t0' hb2'
  have t1 := cell_below t1' hb2'
  have u0 := cell_below u0' hb2'
  have u1 := cell_below u1' hb2'
  have c0 := cell_below c0' hb2'
  have c1 := cell_below c1' hb2'
  have c2 := cell_below c2' hb2'
  have c3 := cell_below c3' hb2'
  have c4 := cell_below c4' hb2'
  clear hC1 hS1 t0' t1' u0' u1' c0' c1' c2' c3' c4'
  go_wp2_with fail
  have hL := lock_any ⟨0, 3, some ⟨w.heap.size + 1 + 1 + 1, 0, none⟩, 1, [⟨2, 7, 4⟩], none, 0, [], none, 0, []⟩ ⟨1, 1⟩ _ 1 [⟨2, 7, 0, 0, 0, 0, 0, false, false, false, 0, 0⟩] none 0 [] w2 hC2 hS2 SlAt.nil (by simp) (by simp)
  refine hL.mono ?_
  clear hL
  rintro r w3 ⟨v1, v2, rfl, ho1, -, hb3⟩
  have ho1' : Own StubE.cells 12 42 w2.heap.size w3 v1 [⟨2, 7, 0, 0, 0, 0, 0, false, false, false, 1, 1⟩] := ho1
  clear ho1
  have hC3 := hC2.below hb3
  have t0' := cell_below t0 hb3
  have t1' := cell_below t1 hb3
  have u0' := cell_below u0 hb3
  have u1' := cell_below u1 hb3
  have c0' := cell_below c0 hb3
  have c1' := cell_below c1 hb3
  have c2' := cell_below c2 hb3
  have c3' := cell_below c3 hb3
  have c4' := cell_below c4 hb3
  have hbA : Below w.heap.size w w3 := hb0.trans ((hb1'.trans ((hb2'.trans (hb3.mono hb2'.size)).mono hb1'.size)).mono hb0.size)
  clear hC2 hS2 t0 t1 u0 u1 c0 c1 c2 c3 c4 hb1 hb1' hb2 hb2' hb3 hb0
  rcases ho1'.form with ⟨-, h⟩ | ⟨g, cap, rfl, hg1, hg2, -, -⟩
  · cases h
  have l10 : w3.cell? ⟨g, 10, none⟩ = some (.int .i64 1) := by have := ho1'.cell StubE.enc (k := 0) rfl (j := 10) rfl; simpa using this
  have l11 : w3.cell? ⟨g, 11, none⟩ = some (.int .i64 1) := by have := ho1'.cell StubE.enc (k := 0) rfl (j := 11) rfl; simpa using this
  go_wp2_with fail
  refine (commit_any ⟨1, 1⟩ (some ⟨g, 0, none⟩) cap [⟨2, 7, 0, 0, 0, 0, 0, false, false, false, 1, 1⟩] none 0 [] w3 (ho1'.at_ StubE.enc).2.2 SlAt.nil (by simp) (by simp)).mono ?_
  rintro r w4 ⟨v3, v4, rfl, ho3, -, hb4⟩
  have ho3' : Own StubE.cells 12 42 w3.heap.size w4 v3 [⟨2, 7, 0, 0, 0, 0, 0, false, false, true, 0, 0⟩] := ho3
  clear ho3
  have ho1 := ho1'.below hb4
  have hC4 := hC3.below hb4
  have t0 := cell_below t0' hb4
  have t1 := cell_below t1' hb4
  have u0 := cell_below u0' hb4
  have u1 := cell_below u1' hb4
  have c0 := cell_below c0' hb4
  have c1 := cell_below c1' hb4
  have c2 := cell_below c2' hb4
  have c3 := cell_below c3' hb4
  have c4 := cell_below c4' hb4
  have m10 := cell_below l10 hb4
  have m11 := cell_below l11 hb4
  have hbB : Below w.heap.size w w4 := hbA.trans (hb4.mono hbA.size)
  clear hC3 t0' t1' u0' u1' c0' c1' c2' c3' c4' l10 l11 hbA hb4 ho1'
  rcases ho3'.form with ⟨-, h⟩ | ⟨g', cap', rfl, hg3, hg4, -, -⟩
  · cases h
  have d9 : w4.cell? ⟨g', 9, none⟩ = some (.bool true) := by have := ho3'.cell StubE.enc (k := 0) rfl (j := 9) rfl; simpa using this
  clear ho3'
  have T3 := hide (show checkB ⟨0, 3, some ⟨w.heap.size + 1 + 1 + 1, 0, none⟩, 1, [⟨2, 7, 4⟩], none, 0, [], none, 0, []⟩ ⟨2, 1⟩ 3 [⟨2, 7, 0, 0, 0, 0, 0, false, false, false, 1, 1⟩] [] [0, 4] = false from rfl)
  have hte : teq 1 1 1 1 = true := rfl
  go_wp2_with fail
  have hSl : SlAt StubE.cells 12 w4 (some ⟨g, 0, none⟩) [⟨2, 7, 0, 0, 0, 0, 0, false, false, false, 1, 1⟩] := (ho1.at_ StubE.enc).2.2
  have hRb : (w4.alloc (.cells #[.int .i64 0, .int .i64 4] 3)).drew.heap[w4.heap.size]? = some (.cells #[.int .i64 0, .int .i64 4] 3 (0, 0)) := heap_alloc_new _ _
  have hRs : SlAt I64.cells 1 (w4.alloc (.cells #[.int .i64 0, .int .i64 4] 3)).drew (some ⟨w4.heap.size, 0, none⟩) [0, 4] := blk_slAt (f := I64.cells) (s := 1) ⟨fun _ => rfl, fun x u hu => by simp only [I64.cells, List.mem_singleton] at hu; subst hu; rfl, by decide⟩ hRb [0, 4] rfl
  have hbd : Below w4.heap.size w4 (w4.alloc (.cells #[.int .i64 0, .int .i64 4] 3)).drew := (by repeat (first | with_reducible exact Below.refl _ _ | (with_reducible refine Below.drew ?_) | (with_reducible refine below_drewN ?_ _) | (with_reducible refine Below.alloc ?_ ?_ _; rotate_left; (first | omega | (simp <;> omega))) | (with_reducible refine Below.setCell ?_ ?_ _; rotate_left; (first | omega | (simp <;> omega)))))
  have hCd := hC4.below hbd
  have hSd := hSl.below hbd
  have d9d := cell_below d9 hbd
  have hbE : Below w.heap.size w (w4.alloc (.cells #[.int .i64 0, .int .i64 4] 3)).drew := hbB.trans (hbd.mono hbB.size)
  have HRb := hide hRb
  clear hRb ho1 hSl hC4
  have c0d := cell_below c0 hbd
  have c1d := cell_below c1 hbd
  have c2d := cell_below c2 hbd
  have c3d := cell_below c3 hbd
  have c4d := cell_below c4 hbd
  have t0d := cell_below t0 hbd
  have t1d := cell_below t1 hbd
  have u0d := cell_below u0 hbd
  have u1d := cell_below u1 hbd
  have m10d := cell_below m10 hbd
  have m11d := cell_below m11 hbd
  go_region_held3 (fun w' => w'.cell? ⟨w.heap.size + 1 + 1 + 1 + 1, 0, none⟩ = some (.int .i64 0) ∧ w'.cell? ⟨w.heap.size + 1 + 1 + 1 + 1, 1, none⟩ = some (.int .i64 3) ∧ w'.cell? ⟨w.heap.size + 1 + 1 + 1 + 1, 2, none⟩ = some (.slice (some ⟨w.heap.size + 1 + 1 + 1, 0, none⟩) 1 1) ∧ w'.cell? ⟨w.heap.size + 1 + 1 + 1 + 1, 3, none⟩ = some (.slice none 0 0) ∧ w'.cell? ⟨w.heap.size + 1 + 1 + 1 + 1, 4, none⟩ = some (.slice none 0 0) ∧ w'.cell? ⟨w.heap.size, 0, none⟩ = some (.int .i64 1) ∧ w'.cell? ⟨w.heap.size, 1, none⟩ = some (.int .i64 1) ∧ w'.cell? ⟨w.heap.size + 1, 0, none⟩ = some (.int .i64 2) ∧ w'.cell? ⟨w.heap.size + 1, 1, none⟩ = some (.int .i64 1) ∧ w'.cell? ⟨g, 10, none⟩ = some (.int .i64 1) ∧ w'.cell? ⟨g, 11, none⟩ = some (.int .i64 1) ∧ w'.cell? ⟨g', 9, none⟩ = some (.bool true))
    ((refine ⟨?_, ?_, ?_, ?_, ?_, ?_, ?_, ?_, ?_, ?_, ?_, ?_⟩ <;> (first | assumption | (simp only [World.cell?_drew]; assumption) | (exact cell_below (by assumption) hb5))))
    ((go_at_call 29; refine (check_any ⟨0, 3, some ⟨w.heap.size + 1 + 1 + 1, 0, none⟩, 1, [⟨2, 7, 4⟩], none, 0, [], none, 0, []⟩ ⟨2, 1⟩ 3 (some ⟨g, 0, none⟩) cap [⟨2, 7, 0, 0, 0, 0, 0, false, false, false, 1, 1⟩] none 0 [] (some ⟨w4.heap.size, 0, none⟩) 2 [0, 4] _ hCd hSd SlAt.nil hRs (by simp) (by simp) (by simp)).mono ?_; rintro r w5 ⟨rfl, hb5⟩; rw [T3.out]))
  go_wp2
  go_ret
  exact ⟨rfl, hbE.trans (hb5.mono hbE.size)⟩
end Go.Proofs.Ytnjpmpelgigmjaa
