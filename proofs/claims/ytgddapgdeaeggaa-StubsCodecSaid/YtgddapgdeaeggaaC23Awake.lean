/-
  Contracts of the functions of this seat that each theorem names: what a call returns, and that it writes nothing that was there before. The conditions stand in each theorem.
-/
import Derived.Test.YtgddapgdeaeggaaC23Step
namespace Go.Proofs.Ytgddapgdeaeggaa
open Go.RowKit
def exA : StubE := ⟨2, 7, 2, 1, 0, 0, 0, false, false, false, 0, 0⟩
def exB : StubE := ⟨3, 7, 2, 1, 0, 0, 0, false, false, false, 0, 0⟩
def exC : StubE := ⟨2, 7, 2, 1, 0, 5, 0, true, false, false, 0, 0⟩
theorem aw_hA : ∀ (p g : Nat) (u : World), TabAt u p g [] → Calls Try.prog 27 #[.pointer (some ⟨p, 0, none⟩), .agg #[.int .i64 2, .int .u64 7, .int .i64 2, .int .i64 1, .int .i64 0, .int .i64 0, .int .i64 0, .bool false, .bool false, .bool false, .int .i64 0, .int .i64 0]] u (MutPost u p g 0 [exA]) := fun p g u h => by
  have := add_any p g [] exA u h (by simp)
  rw [show addErr [] exA = 0 by decide, show addT [] exA = [exA] by decide] at this
  exact this
theorem aw_hB : ∀ (p g : Nat) (u : World), TabAt u p g [exA] → Calls Try.prog 27 #[.pointer (some ⟨p, 0, none⟩), .agg #[.int .i64 3, .int .u64 7, .int .i64 2, .int .i64 1, .int .i64 0, .int .i64 0, .int .i64 0, .bool false, .bool false, .bool false, .int .i64 0, .int .i64 0]] u (MutPost u p g 5 [exA]) := fun p g u h => by
  have := add_any p g [exA] exB u h (by simp)
  rw [show addErr [exA] exB = 5 by decide, show addT [exA] exB = [exA] by decide] at this
  exact this
theorem aw_hU1 : ∀ (p g : Nat) (u : World), TabAt u p g [exA] → Calls Try.prog 22 #[.pointer (some ⟨p, 0, none⟩), .int .i64 2, .int .u64 7, .int .i64 5] u (MutPost u p g 0 [exC]) := fun p g u h => by
  have := use_any p g [exA] ⟨2, 7⟩ 5 u h
  rw [show useErr 5 [exA] ⟨2, 7⟩ = 0 by decide, show useT 5 [exA] ⟨2, 7⟩ = [exC] by decide] at this
  exact this
theorem aw_hU2 : ∀ (p g : Nat) (u : World), TabAt u p g [exC] → Calls Try.prog 22 #[.pointer (some ⟨p, 0, none⟩), .int .i64 2, .int .u64 7, .int .i64 3] u (MutPost u p g 0 [exC]) := fun p g u h => by
  have := use_any p g [exC] ⟨2, 7⟩ 3 u h
  rw [show useErr 3 [exC] ⟨2, 7⟩ = 0 by decide, show useT 3 [exC] ⟨2, 7⟩ = [exC] by decide] at this
  exact this
theorem aw_hF : ∀ (p g : Nat) (u : World), TabAt u p g [exC] → Calls Try.prog 18 #[.pointer (some ⟨p, 0, none⟩), .int .i64 2, .int .u64 7] u fun r w' => r = .returned (.tuple #[.agg #[.int .i64 2, .int .u64 7, .int .i64 2, .int .i64 1, .int .i64 0, .int .i64 5, .int .i64 0, .bool true, .bool false, .bool false, .int .i64 0, .int .i64 0], .bool true]) ∧ Below u.heap.size u w' := fun p g u h => by
  have := find_any p g [exC] 2 7 u h
  rw [show findK keyE [exC] ⟨2, 7⟩ = some exC by decide] at this
  exact this
theorem aw_hq : ∀ u, (binOp .eql 37 (.agg #[.int .i64 2, .int .u64 7, .int .i64 2, .int .i64 1, .int .i64 0, .int .i64 5, .int .i64 0, .bool true, .bool false, .bool false, .int .i64 0, .int .i64 0]) (.agg #[.int .i64 2, .int .u64 7, .int .i64 2, .int .i64 1, .int .i64 0, .int .i64 5, .int .i64 0, .bool true, .bool false, .bool false, .int .i64 0, .int .i64 0])).run Try.prog u = .ok (.bool true) u := fun u => (run_eql_StubE exC exC u).trans (by rw [show exC.beq exC = true by decide])
set_option maxRecDepth 100000 in
set_option maxHeartbeats 1000000 in
theorem awake_any (w : World) : Calls Try.prog 10 #[] w fun r w' => r = .returned (.bool true) ∧ Below w.heap.size w w' := by
  have hq := aw_hq
  go_enter Try.func10, Try.ntmps10
  go_upto_region 2 with (go_at_call 11; refine (new_any _).mono ?_; rintro r w1 ⟨p, g, rfl, hp, hg, hT0, hb1⟩)
  have l1 := later hb1
  go_upto_region 3 with fail
  refine wp_name ?_
  intro w2 hw2
  obtain ⟨B0, l2⟩ := box1 hw2
  clear hw2
  have hT2 := hT0.later w2
  have hgl := hT0.2.lt
  have gB := boxed_gro B0 (g := g) (by omega)
  have hz2 : w.heap.size ≤ w2.heap.size := (show Below w.heap.size w w2 from below_of).size
  have g2 : Gro g w2 w2 := Gro.refl
  go_wp2_with (go_at_call 27; refine (aw_hA p g _ hT2).mono ?_; rintro r w3 ⟨rfl, hT3, hg3⟩; have g3 := gro hg3; clear hT2)
  go_wp2_with (go_at_call 27; refine (aw_hB p g _ hT3).mono ?_; rintro r w4 ⟨rfl, hT4, hg4⟩; have g4 := gro hg4; clear hT3)
  go_wp2_with (go_at_call 22; refine (aw_hU1 p g _ hT4).mono ?_; rintro r w5 ⟨rfl, hT5, hg5⟩; have g5 := gro hg5; clear hT4)
  go_wp2_with (go_at_call 22; refine (aw_hU2 p g _ hT5).mono ?_; rintro r w6 ⟨rfl, hT6, hg6⟩; have g6 := gro hg6; clear hT5)
  go_wp2_with (go_at_call 18; refine (aw_hF p g _ hT6).mono ?_; rintro r w7 ⟨rfl, hb7⟩; have g7 := gro_below (g := g) hb7)
  go_ret
  exact ⟨rfl, (show Below w.heap.size w w2 from below_of).trans (grown_belowG (gro_of (g := g) (b := w2)) hg hz2)⟩
end Go.Proofs.Ytgddapgdeaeggaa
