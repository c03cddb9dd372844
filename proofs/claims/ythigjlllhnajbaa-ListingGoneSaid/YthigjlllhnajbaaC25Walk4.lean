/-
  Contracts of the functions of this seat that each theorem names: what a call returns, and that it writes nothing that was there before. The conditions stand in each theorem.
-/
import Derived.Test.YthigjlllhnajbaaC25Walk3
namespace Go.Proofs.Ythigjlllhnajbaa
open Go.RowKit
attribute [local go_sem ↓] run_neq_ListedE
set_option maxRecDepth 100000 in
set_option maxHeartbeats 2000000 in
theorem sameList_any' (R S C : Int) (aA : Option Addr) (c : Nat) (a : List ListedE) (R' S' C' : Int) (bA : Option Addr) (c' : Nat) (b : List ListedE) (w : World) (ha : SlAt ListedE.cells 3 w aA a) (hb : SlAt ListedE.cells 3 w bA b) (hal : a.length ≤ 9223372036854775807) (hbl : b.length ≤ 9223372036854775807) :
    Calls Try.prog 13 #[.agg #[.int .i64 R, .int .i64 S, .int .i64 C, .slice aA a.length c], .agg #[.int .i64 R', .int .i64 S', .int .i64 C', .slice bA b.length c']] w
      fun r w' => ∃ q : Bool, r = .returned (.bool q) ∧ (q = true ↔ (R = R' ∧ S = S' ∧ C = C' ∧ a = b)) ∧ Below w.heap.size w w' := by
  by_cases hh : R = R' ∧ S = S' ∧ C = C' ∧ a.length = b.length
  rotate_left
  · have Hf := hide (show ¬ (R = R' ∧ S = S' ∧ C = C' ∧ a = b) from fun h => hh ⟨h.1, h.2.1, h.2.2.1, congrArg List.length h.2.2.2⟩)
    go_enter Try.func13, Try.ntmps13
    by_cases h1 : R = R'
    rotate_left
    · have h1' : (R != R') = true := by simp [h1]
      clear hh
      go_wp2_with fail
      go_ret
      exact ⟨false, rfl, ⟨(fun h => by cases h), fun h => absurd h Hf.out⟩, (by repeat (first | with_reducible exact Below.refl _ _ | (with_reducible refine Below.drew ?_) | (with_reducible refine below_drewN ?_ _) | (with_reducible refine Below.alloc ?_ ?_ _; rotate_left; (first | omega | (simp <;> omega))) | (with_reducible refine Below.setCell ?_ ?_ _; rotate_left; (first | omega | (simp <;> omega)))))⟩
    have h1' : (R != R') = false := by simp [h1]
    by_cases h2 : S = S'
    rotate_left
    · have h2' : (S != S') = true := by simp [h2]
      clear hh
      go_wp2_with fail
      go_ret
      exact ⟨false, rfl, ⟨(fun h => by cases h), fun h => absurd h Hf.out⟩, (by repeat (first | with_reducible exact Below.refl _ _ | (with_reducible refine Below.drew ?_) | (with_reducible refine below_drewN ?_ _) | (with_reducible refine Below.alloc ?_ ?_ _; rotate_left; (first | omega | (simp <;> omega))) | (with_reducible refine Below.setCell ?_ ?_ _; rotate_left; (first | omega | (simp <;> omega)))))⟩
    have h2' : (S != S') = false := by simp [h2]
    by_cases h3 : C = C'
    rotate_left
    · have h3' : (C != C') = true := by simp [h3]
      clear hh
      go_wp2_with fail
      go_ret
      exact ⟨false, rfl, ⟨(fun h => by cases h), fun h => absurd h Hf.out⟩, (by repeat (first | with_reducible exact Below.refl _ _ | (with_reducible refine Below.drew ?_) | (with_reducible refine below_drewN ?_ _) | (with_reducible refine Below.alloc ?_ ?_ _; rotate_left; (first | omega | (simp <;> omega))) | (with_reducible refine Below.setCell ?_ ?_ _; rotate_left; (first | omega | (simp <;> omega)))))⟩
    have h3' : (C != C') = false := by simp [h3]
    have h4' : ((a.length : Int) != (b.length : Int)) = true := by
      simp only [bne_iff_ne, ne_eq]
      intro h
      exact hh ⟨h1, h2, h3, by omega⟩
    have h4 : ¬ (a.length : Int) = (b.length : Int) := by simpa using h4'
    clear hh
    go_wp2_with fail
    go_ret
    exact ⟨false, rfl, ⟨(fun h => by cases h), fun h => absurd h Hf.out⟩, (by repeat (first | with_reducible exact Below.refl _ _ | (with_reducible refine Below.drew ?_) | (with_reducible refine below_drewN ?_ _) | (with_reducible refine Below.alloc ?_ ?_ _; rotate_left; (first | omega | (simp <;> omega))) | (with_reducible refine Below.setCell ?_ ?_ _; rotate_left; (first | omega | (simp <;> omega)))))⟩
  obtain ⟨rfl, rfl, rfl, hl⟩ := hh
  have hl' : ((a.length : Int) != (b.length : Int)) = false := by simp [hl]
  have Hl := hide hl
  clear hl
  have Ha := ha.later
  have Hb := hb.later
  go_enter Try.func13, Try.ntmps13
  go_upto_region 1 with fail
  refine wp_name ?_
  intro w0 hw0
  obtain ⟨B0, B1, l0⟩ := box2 hw0
  clear hw0
  go_wp2_with fail
  go_loopw [5] (fun i wr => ∃ k : Nat, k ≤ a.length ∧ i = .int .i64 k ∧ (∀ (j : Nat) (x y : ListedE), j < k → a[j]? = some x → b[j]? = some y → x = y) ∧ Below w0.heap.size w0 wr) (fun i _ => a.length - (intOf i).toNat)
  case atStart => exact ⟨0, by omega, rfl, fun j _ _ h => absurd h (by omega), Below.refl _ _⟩
  case round =>
    obtain ⟨k, hk, rfl, hall, hbw⟩ := hrel
    have lr := later hbw
    by_cases hlt : k < a.length
    · have hlt2 : k < b.length := by rw [← Hl.out]; exact hlt
      obtain ⟨g1, o1, x, rfl, hx, C1⟩ := ListedE.get (Ha wr) hlt
      obtain ⟨g2, o2, y, rfl, hy, C2⟩ := ListedE.get (Hb wr) hlt2
      have Hall := hide hall
      have Hx := hide hx
      have Hy := hide hy
      clear hall hx hy
      go_wp2_with fail
      (refine wp_region_after (by kernel_rfl) (by kernel_rfl) ?_
       repeat (any_goals (first | go_big_quiet_skip | (go_big_quiet_want; go_big_quiet_op; first | go_big_quiet_on | go_big_quiet_call (fail)) | quiet_step (fail) | (refine wpQuiet_step (fun K hK => ?_); go_simp; split <;> (refine hK _ ?_; clear hK K))))
       all_goals (refine wpQuiet_nil ?_; intro _ hw'; obtain ⟨u', hw''⟩ := hw'; subst hw''; obtain ⟨wd, hbd⟩ := u'; simp only [After.val_mk]))
      have ld := later hbd
      cases hxy : ListedE.beq x y
      · go_wp2_with fail
        go_ret
        exact ⟨false, rfl, ⟨(fun h => by cases h), fun h => by
          have hx := Hx.out
          have hy := Hy.out
          rw [h.2.2.2, hy] at hx
          injection hx with hx
          rw [ListedE.beq_iff.2 hx.symm] at hxy
          cases hxy⟩, below_of⟩
      · go_wp2_with fail
        go_roundw
        case rel => exact ⟨k + 1, by omega, by go_num, fun j x' y' hj hx' hy' => by
          rcases Nat.lt_or_ge j k with h | h
          · exact Hall.out j x' y' h hx' hy'
          · have : j = k := by omega
            subst this
            have hx := Hx.out
            have hy := Hy.out
            rw [hx] at hx'; injection hx' with hx'
            rw [hy] at hy'; injection hy' with hy'
            rw [← hx', ← hy']
            exact ListedE.beq_iff.1 hxy, hbw.trans (hbd.mono hbw.size)⟩
        case measure => simp [intOf]; omega
    · have hk' : k = a.length := by omega
      subst hk'
      have Hall := hide hall
      clear hall
      go_wp2_with fail
      go_ret
      exact ⟨true, rfl, ⟨fun _ => ⟨by trivial, by trivial, by trivial, eq_to Hl.out fun j x y hx hy => Hall.out j x y (List.getElem?_eq_some_iff.1 hx).1 hx hy⟩, fun _ => rfl⟩, below_of⟩
/-- Equal but for where the entries lie. -/
def ListV.same (a b : ListV) : Prop := a.round = b.round ∧ a.sent = b.sent ∧ a.received = b.received ∧ a.entries = b.entries
theorem sameList_any (a b : ListV) (w : World) (ha : a.at_ w) (hb : b.at_ w) :
    Calls Try.prog 13 #[a.v, b.v] w fun r w' => ∃ q : Bool, r = .returned (.bool q) ∧ (q = true ↔ a.same b) ∧ Below w.heap.size w w' :=
  sameList_any' a.round a.sent a.received a.A a.c a.entries b.round b.sent b.received b.A b.c b.entries w ha.s hb.s (by have := ha.sl; omega) (by have := hb.sl; omega)
end Go.Proofs.Ythigjlllhnajbaa
