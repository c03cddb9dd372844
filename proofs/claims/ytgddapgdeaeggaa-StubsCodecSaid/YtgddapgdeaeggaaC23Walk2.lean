/-
  Contracts of the functions of this seat that each theorem names: what a call returns, and that it writes nothing that was there before. The conditions stand in each theorem.
-/
import Derived.Test.YtgddapgdeaeggaaC23Walk1
namespace Go.Proofs.Ytgddapgdeaeggaa
open Go.RowKit
attribute [local go_sem ↓] run_eql_lock
set_option maxRecDepth 100000 in
set_option maxHeartbeats 4000000 in
theorem valid_any (e : StubE) (w : World) : Calls Try.prog 57 #[e.v] w fun r w' => r = .returned (.bool (validE e)) ∧ Below w.heap.size w w' := by
  have H1 : ∀ u, Calls Try.prog 75 #[.agg #[.int .i64 e.iDMachine, .int .i64 e.iDSerial]] u fun r w' => r = .returned (.bool (validID e.iDMachine e.iDSerial)) ∧ Below u.heap.size u w' := fun u => idValid_any _ _ u
  obtain ⟨b, hb⟩ : ∃ b, b = validE e := ⟨_, rfl⟩
  rw [← hb]
  unfold validE validLock at hb
  obtain ⟨i, hi⟩ : ∃ i, i = validID e.iDMachine e.iDSerial := ⟨_, rfl⟩
  rw [← hi] at H1 hb
  have Hb := hide hb
  clear hb hi
  go_enter Try.func57, Try.ntmps57
  go_upto_region 1 with fail
  refine wp_name ?_
  intro w0 hw0
  obtain ⟨B0, l0⟩ := box1 hw0
  clear hw0
  cases i
  · go_wp2_with (go_at_call 75; refine (H1 _).mono ?_; rintro r w1 ⟨rfl, hb1⟩; have l1 := later hb1)
    all_goals go_ret
    all_goals exact ⟨ret_bool (by rw [Hb.out]; simp [*] <;> omega), below_of⟩
  · cases hz : zeroLock e.lockMachine e.lockSerial
    all_goals
      go_wp2_with (go_at_call 75; refine (H1 _).mono ?_; rintro r w1 ⟨rfl, hb1⟩; have l1 := later hb1)
    all_goals go_ret
    all_goals exact ⟨ret_bool (by rw [Hb.out]; simp [*] <;> omega), below_of⟩
set_option maxHeartbeats 1000000 in
theorem new_any (w : World) : Calls Try.prog 11 #[] w fun r w' => ∃ p g, r = .returned (.pointer (some ⟨p, 0, none⟩)) ∧ w.heap.size ≤ p ∧ w.heap.size ≤ g ∧ TabAt w' p g [] ∧ Below w.heap.size w w' := by
  have hmm := @run_makeMap Try.prog
  go_enter Try.func11, Try.ntmps11
  go_wp2_with fail
  go_ret
  have h1 : MapL KeyE.vv StubE.vv keyE (w.alloc (.map #[] 0)) w.heap.size [] := mapL_made w
  have hz : (w.alloc (.map #[] 0)).heap.size = w.heap.size + 1 := by simp
  exact ⟨w.heap.size + 1, w.heap.size, rfl, by omega, by omega, ⟨by rw [heap_alloc_if, if_pos (by simp)], h1.below ((Below.refl _ _).alloc (Nat.le_refl _) _)⟩, below_of⟩
/-- What Find gives. -/
def FindPost (w : World) (o : Option StubE) (r : Ending) (w' : World) : Prop := r = .returned (.tuple #[(o.getD zeroE).v, .bool o.isSome]) ∧ Below w.heap.size w w'
set_option maxHeartbeats 2000000 in
theorem find_any (p g : Nat) (l : List StubE) (owner number : Int) (w : World) (h : TabAt w p g l) : Calls Try.prog 18 #[.pointer (some ⟨p, 0, none⟩), .int .i64 owner, .int .u64 number] w (FindPost w (findK keyE l ⟨owner, number⟩)) := by
  have hp := h.cell
  obtain ⟨x, hx⟩ : ∃ x, x = (findK keyE l ⟨owner, number⟩).getD zeroE := ⟨_, rfl⟩
  obtain ⟨b, hb⟩ : ∃ b, b = (findK keyE l ⟨owner, number⟩).isSome := ⟨_, rfl⟩
  have hlk : ∀ u [Later w u], (Instr.lookup 61 (.map (some g)) (.agg #[.int .i64 owner, .int .u64 number]) true).run Try.prog u = .ok (.tuple #[x.v, .bool b]) u := fun u i => by
    have := run_lookL keyL Try.underlying61 zeroStub (h.later u).2 ⟨owner, number⟩
    rw [hx, hb]
    cases hf : findK keyE l ⟨owner, number⟩ <;> (rw [hf] at this; exact this)
  have Hx := hide hx
  have Hb := hide hb
  clear hx hb
  go_enter Try.func18, Try.ntmps18
  go_wp2_with fail
  refine bodyPost_ret (v := .tuple #[x.v, .bool b]) (by simp [results, Try.results18, go_sem]) rfl ⟨by rw [Hx.out, Hb.out], below_of⟩
end Go.Proofs.Ytgddapgdeaeggaa
