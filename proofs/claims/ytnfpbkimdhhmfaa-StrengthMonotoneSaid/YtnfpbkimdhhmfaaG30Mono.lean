/-
  Contracts of the functions of this seat that each theorem names: what a call returns, and that it writes nothing that was there before. The conditions stand in each theorem.
-/
import Derived.Test.YtnfpbkimdhhmfaaG30Law1
namespace Go.Proofs.Ytnfpbkimdhhmfaa
open Go.RowKit
attribute [local simp] heap_drew
/-- Equal, but a weak one may have become strong. -/
def sameB (a b : StubE) : Bool := (a.weak || !b.weak) && StubE.beq { a with weak := b.weak } b
set_option maxRecDepth 100000 in
set_option maxHeartbeats 4000000 in
attribute [local go_sem ↓] run_eql_StubE in
theorem same_any (a b : StubE) (w : World) : Calls Try.prog 20 #[a.v, b.v] w fun r w' => r = .returned (.bool (sameB a b)) ∧ Below w.heap.size w w' := by
  obtain ⟨V, hV⟩ : ∃ V, V = sameB a b := ⟨_, rfl⟩
  rw [← hV]
  have HV := hide hV
  clear hV
  have Hq := hide (show V = ((a.weak || !b.weak) && StubE.beq { a with weak := b.weak } b) from HV.out)
  have hneq : ∀ u : World, (binOp .eql 61 (StubE.v { a with weak := b.weak }) b.v).run Try.prog u = .ok (.bool (StubE.beq { a with weak := b.weak } b)) u := fun u => run_eql_StubE _ _ u
  go_enter Try.func20, Try.ntmps20
  go_upto_region 1 with fail
  refine wp_name ?_
  intro w0 hw0
  obtain ⟨B0, B1, l0⟩ := box2 hw0
  have hz0 : w.heap.size < w0.heap.size := by rw [← hw0]; simp; omega
  clear hw0
  obtain ⟨a0, a1, a2, a3, a4, a5, a6, a7, aw, a9, a10, a11⟩ := a
  obtain ⟨b0, b1, b2, b3, b4, b5, b6, b7, bw, b9, b10, b11⟩ := b
  dsimp only [StubE.v] at hneq
  cases aw <;> cases bw
  case false.true =>
    go_wp2_with fail
    go_ret
    exact ⟨ret_bool (by rw [Hq.out]; rfl), below_of⟩
  case false.false =>
    obtain ⟨E, hE⟩ : ∃ E, E = StubE.beq ⟨a0, a1, a2, a3, a4, a5, a6, a7, false, a9, a10, a11⟩ ⟨b0, b1, b2, b3, b4, b5, b6, b7, false, b9, b10, b11⟩ := ⟨_, rfl⟩
    rw [← hE] at hneq
    have HE := hide hE
    clear hE
    go_upto_region 4 with fail
    refine wp_name ?_
    intro w1 hw1
    have be : w1.heap[w.heap.size]? = some (.cells #[.int .i64 a0, .int .u64 a1, .int .i64 a2, .int .i64 a3, .int .i64 a4, .int .i64 a5, .int .i64 a6, .bool a7, .bool false, .bool a9, .int .i64 a10, .int .i64 a11] 61 (0, 0)) := by rw [← hw1]; exact (blk_set (B0 w0).1 8 _).trans rfl
    have be1 : w1.heap[w.heap.size + 1]? = some (.cells #[.int .i64 b0, .int .u64 b1, .int .i64 b2, .int .i64 b3, .int .i64 b4, .int .i64 b5, .int .i64 b6, .bool b7, .bool false, .bool b9, .int .i64 b10, .int .i64 b11] 61 (0, 0)) := by rw [← hw1]; exact (blk_far (k := w.heap.size + 1) (p := ⟨w.heap.size, 8, none⟩) (by simp) _).trans (B1 w0).1
    have hb1 : Below w.heap.size w w1 := by rw [← hw1]; exact (show Below w.heap.size w w0 from below_of).setCell (by simp) _
    have l1 := later hb1
    have l11 : Later w1 w1 := Later.refl
    clear hw1 B0 B1
    have BA := boxed be
    have BB := boxed be1
    go_wp2_with fail
    go_ret
    exact ⟨ret_bool (by rw [Hq.out, HE.out]; rfl), below_of⟩
  case true.false =>
    obtain ⟨E, hE⟩ : ∃ E, E = StubE.beq ⟨a0, a1, a2, a3, a4, a5, a6, a7, false, a9, a10, a11⟩ ⟨b0, b1, b2, b3, b4, b5, b6, b7, false, b9, b10, b11⟩ := ⟨_, rfl⟩
    rw [← hE] at hneq
    have HE := hide hE
    clear hE
    go_upto_region 4 with fail
    refine wp_name ?_
    intro w1 hw1
    have be : w1.heap[w.heap.size]? = some (.cells #[.int .i64 a0, .int .u64 a1, .int .i64 a2, .int .i64 a3, .int .i64 a4, .int .i64 a5, .int .i64 a6, .bool a7, .bool false, .bool a9, .int .i64 a10, .int .i64 a11] 61 (0, 0)) := by rw [← hw1]; exact (blk_set (B0 w0).1 8 _).trans rfl
    have be1 : w1.heap[w.heap.size + 1]? = some (.cells #[.int .i64 b0, .int .u64 b1, .int .i64 b2, .int .i64 b3, .int .i64 b4, .int .i64 b5, .int .i64 b6, .bool b7, .bool false, .bool b9, .int .i64 b10, .int .i64 b11] 61 (0, 0)) := by rw [← hw1]; exact (blk_far (k := w.heap.size + 1) (p := ⟨w.heap.size, 8, none⟩) (by simp) _).trans (B1 w0).1
    have hb1 : Below w.heap.size w w1 := by rw [← hw1]; exact (show Below w.heap.size w w0 from below_of).setCell (by simp) _
    have l1 := later hb1
    have l11 : Later w1 w1 := Later.refl
    clear hw1 B0 B1
    have BA := boxed be
    have BB := boxed be1
    go_wp2_with fail
    go_ret
    exact ⟨ret_bool (by rw [Hq.out, HE.out]; rfl), below_of⟩
  case true.true =>
    obtain ⟨E, hE⟩ : ∃ E, E = StubE.beq ⟨a0, a1, a2, a3, a4, a5, a6, a7, true, a9, a10, a11⟩ ⟨b0, b1, b2, b3, b4, b5, b6, b7, true, b9, b10, b11⟩ := ⟨_, rfl⟩
    rw [← hE] at hneq
    have HE := hide hE
    clear hE
    go_upto_region 4 with fail
    refine wp_name ?_
    intro w1 hw1
    have be : w1.heap[w.heap.size]? = some (.cells #[.int .i64 a0, .int .u64 a1, .int .i64 a2, .int .i64 a3, .int .i64 a4, .int .i64 a5, .int .i64 a6, .bool a7, .bool true, .bool a9, .int .i64 a10, .int .i64 a11] 61 (0, 0)) := by rw [← hw1]; exact (blk_set (B0 w0).1 8 _).trans rfl
    have be1 : w1.heap[w.heap.size + 1]? = some (.cells #[.int .i64 b0, .int .u64 b1, .int .i64 b2, .int .i64 b3, .int .i64 b4, .int .i64 b5, .int .i64 b6, .bool b7, .bool true, .bool b9, .int .i64 b10, .int .i64 b11] 61 (0, 0)) := by rw [← hw1]; exact (blk_far (k := w.heap.size + 1) (p := ⟨w.heap.size, 8, none⟩) (by simp) _).trans (B1 w0).1
    have hb1 : Below w.heap.size w w1 := by rw [← hw1]; exact (show Below w.heap.size w w0 from below_of).setCell (by simp) _
    have l1 := later hb1
    have l11 : Later w1 w1 := Later.refl
    clear hw1 B0 B1
    have BA := boxed be
    have BB := boxed be1
    go_wp2_with fail
    go_ret
    exact ⟨ret_bool (by rw [Hq.out, HE.out]; rfl), below_of⟩
end Go.Proofs.Ytnfpbkimdhhmfaa
