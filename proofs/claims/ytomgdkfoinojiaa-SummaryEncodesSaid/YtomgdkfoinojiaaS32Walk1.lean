/-
  Contracts of the functions of this seat that each theorem names: what a call returns, and that it writes nothing that was there before. The conditions stand in each theorem.
-/
import Derived.Test.YtomgdkfoinojiaaGSet
import Derived.Test.YtomgdkfoinojiaaGrpS
set_option linter.unusedSimpArgs false
set_option linter.unusedVariables false
namespace Go.Proofs.Ytomgdkfoinojiaa
open Go.RowKit
attribute [local go_sem ↓] run_eql_id run_neq_id
/-- The least of some distances, but at most 2^20. -/
def leastD (l : List Int) : Int := l.foldl (fun m d => min m (max d 0)) 1048576
/-- The distance of a stub. -/
def farD (r : Bool) (l : List Int) : Int := if r then 1 else min (leastD l + 1) 1048576
theorem leastD_snoc (l : List Int) (d : Int) : leastD (l ++ [d]) = min (leastD l) (max d 0) := by unfold leastD; rw [List.foldl_append]; rfl
theorem leastD_range : ∀ l : List Int, 0 ≤ leastD l ∧ leastD l ≤ 1048576 := fun l => by
  have key : ∀ (l : List Int) (m : Int), 0 ≤ m ∧ m ≤ 1048576 → 0 ≤ l.foldl (fun m d => min m (max d 0)) m ∧ l.foldl (fun m d => min m (max d 0)) m ≤ 1048576 := by
    intro l
    induction l with
    | nil => intro m h; exact h
    | cons d l ih => intro m h; rw [List.foldl_cons]; exact ih _ (by omega)
  exact key l 1048576 (by omega)
theorem take_leastD {l : List Int} {k : Nat} {x : Int} (hx : l[k]? = some x) : leastD (l.take (k + 1)) = min (leastD (l.take k)) (max x 0) := by
  rw [List.take_add_one, hx]; exact leastD_snoc _ _
theorem ifMin (M x : Int) : (if (if x < 0 then 0 else x) < M then if x < 0 then 0 else x else M) = min M (max x 0) := by
  split <;> split <;> omega
set_option maxRecDepth 100000 in
set_option maxHeartbeats 2000000 in
theorem next_any (A : Option Addr) (c : Nat) (l : List Int) (w : World) (hs : SlAt I64.cells 1 w A l) (hl : l.length ≤ 1000000000) :
    Calls Try.prog 90 #[.slice A l.length c] w fun r w' => r = .returned (.int .i64 (min (leastD l + 1) 1048576)) ∧ Below w.heap.size w w' := by
  have HS : ∀ u [Later w u], SlAt I64.cells 1 u A l := fun u i => hs.below i.below
  have hl' : l.length ≤ 9223372036854775807 := by omega
  go_enter Try.func90, Try.ntmps90
  go_wp2_with fail
  go_loopw [3, 8] (fun m iv wr => ∃ (k : Nat) (M : Int), k ≤ l.length ∧ m = .int .i64 M ∧ iv = .int .i64 k ∧ Hid (M = leastD (l.take k)) ∧ Below w.heap.size w wr) (fun _ iv _ => l.length - (intOf iv).toNat)
  case atStart => exact ⟨0, 1048576, by omega, rfl, rfl, rfl, Below.refl _ _⟩
  case round =>
    obtain ⟨k, M, hk, rfl, rfl, HM, hbr⟩ := hrel
    have lr := later hbr
    by_cases hlt : k < l.length
    · obtain ⟨b, o, x, rfl, _, hx, C⟩ := (HS wr).at_ hlt
      have hc := I64.fact C
      have HE := hide (take_leastD hx)
      clear hx C
      go_wp2_with fail
      go_roundw
      case rel => exact ⟨k + 1, min M (max x 0), by omega, by rw [← ifMin], by go_num, by show _ = _; rw [HE.out, ← HM.out], below_of⟩
      case measure => simp [intOf]; omega
    · have hk' : k = l.length := by omega
      subst hk'
      have hM := HM.out
      rw [List.take_length] at hM
      have hr := leastD_range l
      have Hr := hide (show M = leastD l from hM)
      have h0 : 0 ≤ M := by omega
      have h1 : M ≤ 1048576 := by omega
      clear hM hr HM
      go_wp2_with fail
      all_goals go_ret
      all_goals exact ⟨ret_int (by rw [← Hr.out]; omega), below_of⟩
set_option maxRecDepth 100000 in
set_option maxHeartbeats 2000000 in
theorem dstub_any (r : Bool) (A : Option Addr) (c : Nat) (l : List Int) (w : World) (hs : SlAt I64.cells 1 w A l) (hl : l.length ≤ 1000000000) :
    Calls Try.prog 66 #[.bool r, .slice A l.length c] w fun e w' => e = .returned (.int .i64 (farD r l)) ∧ Below w.heap.size w w' := by
  have HN : ∀ u [Later w u], Calls Try.prog 90 #[.slice A l.length c] u fun e w' => e = .returned (.int .i64 (min (leastD l + 1) 1048576)) ∧ Below u.heap.size u w' := fun u i => next_any A c l u (hs.below i.below) hl
  cases r
  · go_enter Try.func66, Try.ntmps66
    go_wp2_with (go_at_call 90; refine (HN _).mono ?_; rintro e w1 ⟨rfl, hb1⟩; have l1 := later hb1)
    go_ret
    exact ⟨rfl, below_of⟩
  · go_enter Try.func66, Try.ntmps66
    go_wp2_with fail
    go_ret
    exact ⟨rfl, below_of⟩
set_option maxRecDepth 100000 in
set_option maxHeartbeats 2000000 in
theorem rstub_any (r : Bool) (A : Option Addr) (c : Nat) (l : List Int) (w : World) (hs : SlAt I64.cells 1 w A l) (hl : l.length ≤ 1000000000) :
    Calls Try.prog 71 #[.bool r, .slice A l.length c] w fun e w' => e = .returned (.int .i64 (farD r l)) ∧ Below w.heap.size w w' := by
  have HS : ∀ u [Later w u], SlAt I64.cells 1 u A l := fun u i => hs.below i.below
  have hl' : l.length ≤ 9223372036854775807 := by omega
  cases r
  · go_enter Try.func71, Try.ntmps71
    go_wp2_with fail
    go_loopw [5, 6] (fun m iv wr => ∃ (k : Nat) (M : Int), k ≤ l.length ∧ m = .int .i64 M ∧ iv = .int .i64 k ∧ Hid (M = leastD (l.take k)) ∧ Below w.heap.size w wr) (fun _ iv _ => l.length - (intOf iv).toNat)
    case atStart => exact ⟨0, 1048576, by omega, rfl, rfl, rfl, Below.refl _ _⟩
    case round =>
      obtain ⟨k, M, hk, rfl, rfl, HM, hbr⟩ := hrel
      have lr := later hbr
      by_cases hlt : k < l.length
      · obtain ⟨b, o, x, rfl, _, hx, C⟩ := (HS wr).at_ hlt
        have hc := I64.fact C
        have HE := hide (take_leastD hx)
        clear hx C
        go_wp2_with fail
        go_roundw
        case rel => exact ⟨k + 1, min M (max x 0), by omega, by rw [← ifMin], by go_num, by show _ = _; rw [HE.out, ← HM.out], below_of⟩
        case measure => simp [intOf]; omega
      · have hk' : k = l.length := by omega
        subst hk'
        have hM := HM.out
        rw [List.take_length] at hM
        have hr := leastD_range l
        have Hr := hide (show M = leastD l from hM)
        have h0 : 0 ≤ M := by omega
        have h1 : M ≤ 1048576 := by omega
        clear hM hr HM
        go_wp2_with fail
        all_goals go_ret
        all_goals exact ⟨ret_int (by simp only [farD, ← Hr.out]; simp only [Bool.false_eq_true, if_false]; omega), below_of⟩
  · go_enter Try.func71, Try.ntmps71
    go_wp2_with fail
    go_ret
    exact ⟨rfl, below_of⟩
end Go.Proofs.Ytomgdkfoinojiaa
