/-
  Contracts of the functions of this seat that each theorem names: what a call returns, and that it writes nothing that was there before. The conditions stand in each theorem.
-/
import Derived.Test.YthigjlllhnajbaaC25Walk4
import Derived.Test.YthigjlllhnajbaaSortLib
import Derived.Test.YthigjlllhnajbaaLaysortL
import Derived.Shelf.SlSortCmp.NoneTotal
namespace Go.Proofs.Ythigjlllhnajbaa
open Go.RowKit
instance : Inhabited ListedE := ⟨⟨0, 0, false⟩⟩
def cmpI (x y : Int) : Int := if x < y then -1 else if y < x then 1 else 0
def cmpL (x y : ListedE) : Int := cmpI x.number y.number
theorem cmpL_lt (x y : ListedE) : Go.Proofs.ltOf cmpL x y = decide (x.number < y.number) := by
  unfold Go.Proofs.ltOf cmpL cmpI
  split
  · rename_i h; simp [h]
  · rename_i h; split <;> simp [h]
theorem cmpL_swo : Go.Sort.SWO (Go.Proofs.ltOf cmpL) := ⟨fun x => by simp [cmpL_lt], fun x y z => by simp only [cmpL_lt, decide_eq_true_eq]; omega, fun x y z => by simp only [cmpL_lt, decide_eq_false_iff_not]; omega⟩
theorem ListedE.one (x : ListedE) : ∀ v ∈ x.cells, v.oneCell' = true := by
  intro v hv
  simp only [ListedE.cells, List.mem_cons, List.not_mem_nil, or_false] at hv
  rcases hv with rfl | rfl | rfl <;> rfl
set_option maxHeartbeats 1000000 in
theorem cmpListed_any (x y : ListedE) (w : World) :
    Calls Try.prog 33 #[.agg x.cells.toArray, .agg y.cells.toArray] w fun e w' => e = .returned (.int .i64 (cmpL x y)) ∧ Grown w w' := by
  show Calls Try.prog 33 #[.agg #[.int .u64 x.number, .int .i64 x.distance, .bool x.weak], .agg #[.int .u64 y.number, .int .i64 y.distance, .bool y.weak]] w fun e w' => e = .returned (.int .i64 (cmpL x y)) ∧ Grown w w'
  rcases Int.lt_trichotomy x.number y.number with h | h | h
  · have Hc := hide (show cmpL x y = -1 by unfold cmpL cmpI; rw [if_pos h])
    go_enter Try.func33, Try.ntmps33
    go_wp2
    all_goals go_ret
    all_goals exact ⟨ret_int Hc.out.symm, by repeat (first | exact Grown.refl _ | apply Grown.alloc | apply Grown.drew | apply Grown.drewN)⟩
  · have Hc := hide (show cmpL x y = 0 by unfold cmpL cmpI; rw [if_neg (by omega), if_neg (by omega)])
    go_enter Try.func33, Try.ntmps33
    go_wp2
    all_goals go_ret
    all_goals exact ⟨ret_int Hc.out.symm, by repeat (first | exact Grown.refl _ | apply Grown.alloc | apply Grown.drew | apply Grown.drewN)⟩
  · have Hc := hide (show cmpL x y = 1 by unfold cmpL cmpI; rw [if_neg (by omega), if_pos (by omega)])
    go_enter Try.func33, Try.ntmps33
    go_wp2
    all_goals go_ret
    all_goals exact ⟨ret_int Hc.out.symm, by repeat (first | exact Grown.refl _ | apply Grown.alloc | apply Grown.drew | apply Grown.drewN)⟩
set_option maxHeartbeats 1000000 in
/-- slices.SortFunc over a slice that the call made itself (or nil): it stays the call's own, its list sorted. -/
theorem sortListed (A : Option Addr) (c : Nat) (l : List ListedE) (base : Nat) (w : World) (hown : Own ListedE.cells 3 64 base w (.slice A l.length c) l) (hl : l.length ≤ 1000000000000) (hbase : base ≤ w.heap.size) :
    Calls Try.prog 32 #[.slice A l.length c, .func (.func 33) #[] #[]] w fun e w' => e = .returned (.tuple #[]) ∧ ∃ l', l'.Perm l ∧ l'.Pairwise (fun x y => Go.Proofs.ltOf cmpL y x = false) ∧
      Own ListedE.cells 3 64 base w' (.slice A l.length c) l' ∧ Below base w w' ∧ w.grownBy w' (Value.slice A l.length c).ownBlock := by
  cases l with
  | nil =>
    refine (AnyF.slices_SortFunc_none Try.sortL A c (.func (.func 33) #[] #[]) w).mono ?_
    rintro e w' ⟨rfl, rfl⟩
    exact ⟨rfl, [], List.Perm.refl _, List.Pairwise.nil, hown, Below.refl _ _, World.grownBy.refl _ _⟩
  | cons x0 l0 =>
    obtain ⟨l, hlx⟩ : ∃ l, l = x0 :: l0 := ⟨_, rfl⟩
    obtain ⟨g, rfl⟩ := hown.isSome (by simp)
    rw [← hlx] at hown hl ⊢
    refine (AnyQ.slices_SortFunc (enc := ListedE.cells) Try.sortL 3 (fun w => Try.isAgg64 w) (fun w => Try.sizeOf64 w) ListedE.enc.len ListedE.one cmpL cmpL_swo 33 #[] g 0 c l.toArray w (fun args w => by kernel_rfl) ?_ (hown.holdsK ListedE.enc) hown.lt (by simp; omega)).mono ?_
    · intro m os dk _ x y
      refine (cmpListed_any x y _).mono ?_
      rintro e w' ⟨rfl, q, os', hw⟩
      exact ⟨rfl, q, os', hw⟩
    · rintro e w' ⟨rfl, d', n, os, hp, hs, rfl⟩
      have hsz : d'.size = l.length := by simpa using hp.1
      have hg := hown.base_le
      refine ⟨rfl, d'.toList, by simpa using perm_of_permIn (d := l.toArray) (by simpa using hp), ?_, hown.sortK ListedE.enc hsz, sortK_below hg hbase, sortK_grownBy⟩
      exact pairwise_of_sortedIn (by rw [hsz]; simpa using hs)
end Go.Proofs.Ythigjlllhnajbaa
