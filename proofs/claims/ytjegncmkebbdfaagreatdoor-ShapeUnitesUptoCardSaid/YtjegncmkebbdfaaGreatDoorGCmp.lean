/-
  Contracts of the functions of this seat that each theorem names: what a call returns, and that it writes nothing that was there before. The conditions stand in each theorem.
-/
import Derived.Test.YtjegncmkebbdfaaGreatDoorSortLib
import Derived.Test.YtjegncmkebbdfaaGreatDoorRows
import Derived.Deep.RegionHeld3
set_option linter.unusedSimpArgs false
set_option linter.unusedVariables false
namespace Go.Proofs.YtjegncmkebbdfaaGreatDoor
open Go.RowKit
/-- Grown, found by instances. -/
abbrev Gr (b w : World) : Prop := Nonempty (Grown b w)
section
variable {b w w' : World}
theorem Gr.out (h : Gr b w) : Grown b w := by obtain ⟨x⟩ := h; exact x
instance Gr.refl : Gr w w := ⟨Grown.refl _⟩
instance Gr.drew [h : Gr b w] : Gr b w.drew := ⟨h.out.drew⟩
instance Gr.drewN {n : Nat} [h : Gr b w] : Gr b (w.drewN n) := ⟨h.out.drewN n⟩
instance Gr.alloc {o : Obj} [h : Gr b w] : Gr b (w.alloc o) := ⟨h.out.alloc o⟩
theorem gr {W : World} (h : Grown W w') : ∀ b [Gr b W], Gr b w' := fun _ i => ⟨i.out.trans h⟩
theorem Gr.cell {a : Addr} {v : Value} (h : b.cell? a = some v) : ∀ u [Gr b u], u.cell? a = some v := fun _ i => cell_below h i.out.below
end
def cmpN (x y : Int) : Int := if x < y then -1 else if y < x then 1 else 0
set_option maxHeartbeats 1000000 in
theorem compare_any (x y : Int) (w : World) : Calls Tryz.prog 98 #[.int .i64 x, .int .i64 y] w fun r w' => r = .returned (.int .i64 (cmpN x y)) ∧ Grown w w' := by
  rcases Int.lt_trichotomy x y with h | h | h
  · have Hc := hide (show cmpN x y = -1 by unfold cmpN; rw [if_pos h])
    go_enter Tryz.func98, Tryz.ntmps98
    go_wp2
    all_goals go_ret
    all_goals exact ⟨ret_int Hc.out.symm, (inferInstance : Gr w _).out⟩
  · have Hc := hide (show cmpN x y = 0 by unfold cmpN; rw [if_neg (by omega), if_neg (by omega)])
    go_enter Tryz.func98, Tryz.ntmps98
    go_wp2
    all_goals go_ret
    all_goals exact ⟨ret_int Hc.out.symm, (inferInstance : Gr w _).out⟩
  · have Hc := hide (show cmpN x y = 1 by unfold cmpN; rw [if_neg (by omega), if_pos (by omega)])
    go_enter Tryz.func98, Tryz.ntmps98
    go_wp2
    all_goals go_ret
    all_goals exact ⟨ret_int Hc.out.symm, (inferInstance : Gr w _).out⟩
def orI (a b : Int) : Int := if a ≠ 0 then a else b
set_option maxHeartbeats 1000000 in
theorem or_any (g : Nat) (a b : Int) (w : World) (h0 : w.cell? ⟨g, 0, none⟩ = some (.int .i64 a)) (h1 : w.cell? ⟨g, 1, none⟩ = some (.int .i64 b)) :
    Calls Tryz.prog 97 #[.slice (some ⟨g, 0, none⟩) 2 2] w fun r w' => r = .returned (.int .i64 (orI a b)) ∧ Grown w w' := by
  have H0 := Gr.cell h0
  have H1 := Gr.cell h1
  go_enter Tryz.func97, Tryz.ntmps97
  go_wp2_with fail
  go_loopw [5, 8] (fun _ i wr => ∃ k : Nat, k ≤ 2 ∧ i = .int .i64 k ∧ (0 < k → a = 0) ∧ (1 < k → b = 0) ∧ Grown w wr) (fun _ i _ => 2 - (intOf i).toNat)
  case atStart => exact ⟨0, by omega, rfl, fun h => absurd h (by omega), fun h => absurd h (by omega), Grown.refl _⟩
  case round =>
    obtain ⟨k, hk, rfl, ha, hb, hgr⟩ := hrel
    have lr : ∀ b [Gr b w], Gr b wr := gr hgr
    rcases (by omega : k = 0 ∨ k = 1 ∨ k = 2) with rfl | rfl | rfl
    · by_cases h : a = 0
      · subst h
        go_wp2_with fail
        go_roundw
        case rel => exact ⟨1, by omega, by go_num, fun _ => by simp, fun h => absurd h (by omega), (inferInstance : Gr w _).out⟩
        case measure => simp [intOf]
      · have hn : (a != 0) = true := by simp [h]
        go_wp2_with fail
        go_ret
        exact ⟨ret_int (by simp [orI, h]), (inferInstance : Gr w _).out⟩
    · have ha0 := ha (by omega)
      by_cases h : b = 0
      · subst h
        go_wp2_with fail
        go_roundw
        case rel => exact ⟨2, by omega, by go_num, fun _ => by simpa using ha0, fun _ => by simp, (inferInstance : Gr w _).out⟩
        case measure => simp [intOf]
      · have hn : (b != 0) = true := by simp [h]
        have Ha := hide ha0
        clear ha0 ha
        go_wp2_with fail
        go_ret
        exact ⟨ret_int (by simp [orI, Ha.out]), (inferInstance : Gr w _).out⟩
    · have Ha := hide (ha (by omega))
      have Hb := hide (hb (by omega))
      clear ha hb
      go_wp2_with fail
      go_ret
      exact ⟨ret_int (by simp [orI, Ha.out, Hb.out]), (inferInstance : Gr w _).out⟩
end Go.Proofs.YtjegncmkebbdfaaGreatDoor
