/-
  Contracts of the functions of this seat that each theorem names: what a call returns, and that it writes nothing that was there before. The conditions stand in each theorem.
-/
import Derived.Test.YtjegncmkebbdfaaGreatDoorGrp56
import Derived.Test.YtjegncmkebbdfaaGreatDoorGrp55
set_option linter.unusedSimpArgs false
set_option linter.unusedVariables false
namespace Go.Proofs.YtjegncmkebbdfaaGreatDoor
open Go.RowKit
attribute [local simp] heap_drew
attribute [local go_sem ↓] run_eql_id run_neq_id
attribute [local go_sem] Instr.makeFunc
set_option maxRecDepth 100000 in
set_option maxHeartbeats 4000000 in
theorem honID_no {w : World} {gh : Nat} (v : Int) (cs : Array Value) (hv : WordOk v) (hk : kindW v ≠ 2) : Calls Tryz.prog 78 #[spP gh, .int .u64 v, .func (.func 84) #[] cs] w fun r w' => r = .returned (.int .i64 7) ∧ Below w.heap.size w w' := by
  have HP : ∀ u : World, Calls Tryz.prog 91 #[spP gh, .int .u64 v] u fun r w' => r = .returned (.tuple #[.int .i64 0, .bool false]) ∧ Below u.heap.size u w' := fun u => pointer_no v hv hk
  clear hv hk
  have lww : Later w w := Later.refl
  go_enter Tryz.func78, Tryz.ntmps78
  go_wp2_with (go_at_call 91; refine (HP _).mono ?_; rintro r w1 ⟨rfl, hb1⟩; have l1 := later hb1)
  go_ret
  exact ⟨rfl, below_of⟩
set_option maxRecDepth 100000 in
set_option maxHeartbeats 4000000 in
theorem hID_no {w : World} {gh : Nat} (v : Int) (hv : WordOk v) (hk : kindW v ≠ 2) : Calls Tryz.prog 40 #[spP gh, .int .u64 v] w fun r w' => r = .returned (.tuple #[.agg #[.int .i64 0, .int .i64 0], .int .i64 7]) ∧ Below w.heap.size w w' := by
  have HO : ∀ (cs : Array Value) (u : World), Calls Tryz.prog 78 #[spP gh, .int .u64 v, .func (.func 84) #[] cs] u fun r w' => r = .returned (.int .i64 7) ∧ Below u.heap.size u w' := fun cs u => honID_no v cs hv hk
  clear hv hk
  have lww : Later w w := Later.refl
  go_enter Tryz.func40, Tryz.ntmps40
  go_upto_region 1 with fail
  refine wp_name ?_
  intro w0 hw0
  obtain ⟨B0, B1, l0⟩ := box2 hw0
  have lw0 : Later w w0 := l0 w
  have l00 : Later w0 w0 := Later.refl
  clear hw0
  go_upto_region 2 with (go_at_call 78; refine (HO _ _).mono ?_; rintro r w1 ⟨rfl, hb1⟩; have l1 := later hb1)
  have l01 : Later w0 w1 := ⟨below_of⟩
  have lw1 : Later w w1 := ⟨below_of⟩
  have l11 : Later w1 w1 := Later.refl
  clear l1
  go_wp2_with fail
  generalize hw9 : World.setCell (World.setCell _ _ _) _ _ = w9
  have B9 := boxed_set2 B1 hw9
  have l9 := later_put2 (W := w) (by show w.heap.size ≤ w.heap.size + 1; omega) (by show w.heap.size ≤ w.heap.size + 1; omega) hw9
  clear hw9
  have l99 : Later w9 w9 := Later.refl
  have r0 := ((B9 w9).2 0).1
  have r1 := ((B9 w9).2 1).1
  refine bodyPost_ret (v := .tuple #[.agg #[.int .i64 0, .int .i64 0], .int .i64 7]) (by simp [results, Tryz.results40, go_sem, r0, r1]) rfl ⟨rfl, below_of⟩
theorem boxed_set4 {w0 u w' : World} {g : Nat} {c : Array Value} {t : TypeId} (h : Boxed w0 g c t) [Later w0 u] {i j k m : Nat} {v v' v'' x : Value} (e : (((u.setCell ⟨g, i, none⟩ v).setCell ⟨g, j, none⟩ v').setCell ⟨g, k, none⟩ v'').setCell ⟨g, m, none⟩ x = w') : Boxed w' g ((((c.setIfInBounds i v).setIfInBounds j v').setIfInBounds k v'').setIfInBounds m x) t :=
  boxed (by rw [← e]; exact blk_set (blk_set (blk_set (blk_set (h u).1 i v) j v') k v'') m x)
theorem later_put4 {W u w' : World} {p q r s : Addr} {v v' v'' x : Value} [h : Later W u] (hp : W.heap.size ≤ p.block) (hq : W.heap.size ≤ q.block) (hr : W.heap.size ≤ r.block) (hs : W.heap.size ≤ s.block) (e : (((u.setCell p v).setCell q v').setCell r v'').setCell s x = w') : ∀ b [Later b W], Later b w' := fun b k => by
  have hz := k.below.size
  exact ⟨by rw [← e]; exact ((((k.trans h).below.setCell (by omega) v).setCell (by omega) v').setCell (by omega) v'').setCell (by omega) x⟩
set_option maxRecDepth 100000 in
set_option maxHeartbeats 4000000 in
theorem shapeValue_no {w : World} {gh : Nat} (v : Int) (hv : WordOk v) (hk : kindW v ≠ 2) : Calls Tryz.prog 15 #[spP gh, .int .u64 v] w fun r w' => r = .returned ((if v % 4 = 1 then (⟨1, intW v, 0, 0⟩ : ValE) else ⟨0, 0, 0, 0⟩).v) ∧ Below w.heap.size w w' := by
  have HI := fun u : World => wordInt_any v u hv
  have HD := fun u : World => @hID_no u gh v hv hk
  obtain ⟨y, hy⟩ : ∃ y, y = intW v := ⟨_, rfl⟩
  rw [← hy] at HI ⊢
  clear hy
  have lww : Later w w := Later.refl
  by_cases h1 : v % 4 = 1
  · simp only [if_pos h1, decide_eq_true h1] at HI
    rw [if_pos h1]
    clear h1 hk hv HD
    go_enter Tryz.func15, Tryz.ntmps15
    go_upto_region 1 with fail
    refine wp_name ?_
    intro w0 hw0
    obtain ⟨B0, l0⟩ := box1 hw0
    have lw0 : Later w w0 := l0 w
    have l00 : Later w0 w0 := Later.refl
    clear hw0
    go_upto_region 3 with (go_at_call 39; refine (HI _).mono ?_; rintro r w1 ⟨rfl, hb1⟩; have l1 := later hb1)
    have l01 : Later w0 w1 := ⟨below_of⟩
    have lw1 : Later w w1 := ⟨below_of⟩
    have l11 : Later w1 w1 := Later.refl
    clear l1
    go_wp2_with fail
    generalize hw9 : World.setCell (World.setCell (World.setCell (World.setCell _ _ _) _ _) _ _) _ _ = w9
    have B9 := boxed_set4 B0 hw9
    have l9 := later_put4 (W := w) (Nat.le_refl _) (Nat.le_refl _) (Nat.le_refl _) (Nat.le_refl _) hw9
    clear hw9
    have l99 : Later w9 w9 := Later.refl
    have r0 := ((B9 w9).2 0).1
    have r1 := ((B9 w9).2 1).1
    have r2 := ((B9 w9).2 2).1
    have r3 := ((B9 w9).2 3).1
    refine bodyPost_ret (v := .agg #[.int .i64 1, .int .i64 y, .int .i64 0, .int .i64 0]) (by simp [results, Tryz.results15, go_sem, r0, r1, r2, r3]) rfl ⟨rfl, below_of⟩
  · simp only [if_neg h1, decide_eq_false h1] at HI
    rw [if_neg h1]
    clear h1 hk hv
    go_enter Tryz.func15, Tryz.ntmps15
    go_upto_region 1 with fail
    refine wp_name ?_
    intro w0 hw0
    obtain ⟨B0, l0⟩ := box1 hw0
    have lw0 : Later w w0 := l0 w
    have l00 : Later w0 w0 := Later.refl
    clear hw0
    go_upto_region 4 with (go_at_call 39; refine (HI _).mono ?_; rintro r w1 ⟨rfl, hb1⟩; have l1 := later hb1)
    have l01 : Later w0 w1 := ⟨below_of⟩
    have lw1 : Later w w1 := ⟨below_of⟩
    have l11 : Later w1 w1 := Later.refl
    clear l1
    go_upto_region 5 with (go_at_call 40; refine (HD _).mono ?_; rintro r w2 ⟨rfl, hb2⟩; have l2 := later hb2)
    refine wp_name ?_
    intro w3 hw3
    have hb3 : Below w2.heap.size w2 w3 := by rw [← hw3]; exact (by repeat (first | with_reducible exact Below.refl _ _ | (with_reducible refine Below.drew ?_) | (with_reducible refine below_drewN ?_ _) | (with_reducible refine Below.alloc ?_ ?_ _; rotate_left; (first | omega | (simp <;> omega))) | (with_reducible refine Below.setCell ?_ ?_ _; rotate_left; (first | omega | (simp <;> omega)))))
    have l3 := later hb3
    clear hw3
    have l03 : Later w0 w3 := ⟨below_of⟩
    have lw3 : Later w w3 := ⟨below_of⟩
    have l33 : Later w3 w3 := Later.refl
    clear l3 l2 hb3
    go_wp2_with fail
    generalize hw9 : World.setCell (World.setCell (World.setCell (World.setCell _ _ _) _ _) _ _) _ _ = w9
    have B9 := boxed_set4 B0 hw9
    have l9 := later_put4 (W := w) (Nat.le_refl _) (Nat.le_refl _) (Nat.le_refl _) (Nat.le_refl _) hw9
    clear hw9
    have l99 : Later w9 w9 := Later.refl
    have r0 := ((B9 w9).2 0).1
    have r1 := ((B9 w9).2 1).1
    have r2 := ((B9 w9).2 2).1
    have r3 := ((B9 w9).2 3).1
    refine bodyPost_ret (v := .agg #[.int .i64 0, .int .i64 0, .int .i64 0, .int .i64 0]) (by simp [results, Tryz.results15, go_sem, r0, r1, r2, r3]) rfl ⟨rfl, below_of⟩
end Go.Proofs.YtjegncmkebbdfaaGreatDoor
