/-
  Contracts of the functions of this seat that each theorem names: what a call returns, and that it writes nothing that was there before. The conditions stand in each theorem.
-/
import Derived.Test.YtgddapgdeaeggaaC23Own
import Derived.Test.YtgddapgdeaeggaaC23LawTo
namespace Go.Proofs.Ytgddapgdeaeggaa
open Go.RowKit
attribute [local go_sem ↓] run_eql_id run_neq_id
def RefOwnedPost (w : World) (xs : List StubE) (n : Int) (r : Ending) (w' : World) : Prop := ∃ q A c, Hid (q = xs.filter fun t => !nown n t) ∧ r = .returned (.slice A q.length c) ∧ Own StubE.cells 12 37 w.heap.size w' (.slice A q.length c) q ∧ Below w.heap.size w w'
set_option maxRecDepth 100000 in
set_option maxHeartbeats 2000000 in
theorem refOwned_any (A : Option Addr) (C : Nat) (xs : List StubE) (n : Int) (w : World) (hs : SlAt StubE.cells 12 w A xs) (hl : xs.length ≤ 1000000) : Calls Try.prog 24 #[.slice A xs.length C, .int .i64 n] w (RefOwnedPost w xs n) := by
  have HS : ∀ u [Later w u], SlAt StubE.cells 12 u A xs := fun u i => hs.below i.below
  have hl' : xs.length ≤ 9223372036854775807 := by omega
  go_enter Try.func24, Try.ntmps24
  go_wp2_with fail
  go_loopw [5, 6] (fun ov iv wr => ∃ (k : Nat) (q : List StubE) (B : Option Addr) (D : Nat), k ≤ xs.length ∧ iv = .int .i64 k ∧ Hid (q = (xs.take k).filter fun t => !nown n t) ∧ ov = .slice B q.length D ∧ Own StubE.cells 12 37 w.heap.size wr (.slice B q.length D) q ∧ Below w.heap.size w wr) (fun _ iv _ => xs.length - (intOf iv).toNat)
  case atStart => exact ⟨0, [], some ⟨w.heap.size, 0, none⟩, 0, by omega, rfl, hide rfl, rfl, Own.empty (Nat.le_refl _), below_of⟩
  case round =>
    obtain ⟨k, q, B, D, hk, rfl, hq, rfl, ho, hbr⟩ := hrel
    have lr := later hbr
    have hql : q.length ≤ 1000000 := by rw [hq.out]; exact Nat.le_trans (List.length_filter_le _ _) (by rw [List.length_take]; omega)
    by_cases hlt : k < xs.length
    · obtain ⟨b1, o1, y, rfl, hy, C1⟩ := StubE.get (HS wr) hlt
      have Hy := hide hy
      clear hy
      have hsz := hbr.size
      by_cases hn : y.owner = n
      · have hqk := hide (show q ++ [y] = (xs.take (k + 1)).filter fun t => !nown n t by rw [take_snoc_get Hy.out, List.filter_append, ← hq.out]; simp [nown, hn])
        have hqk2 := hide (show q.length + 1 = (q ++ [y]).length by simp)
        go_upto_region 6 with fail
        clear hn
        go_wp2_with (at_builtin; refine wpList_app1 rfl (.tmp 21) (.tmp 26) rfl StubE.enc stubT y rfl rfl rfl ho (by rfl) (by omega) (by unfold maxLen; omega) hsz ?_; intro A' c' w2 ho2 hm hbq hgq hat)
        go_roundw
        case rel => exact ⟨k + 1, q ++ [y], A', c', by omega, by go_num, hqk, by rw [← hqk2.out], by rw [← hqk2.out]; exact ho2, hbr.trans hbq⟩
        case measure => simp [intOf]; omega
      · have hqk := hide (show q = (xs.take (k + 1)).filter fun t => !nown n t by rw [take_snoc_get Hy.out, List.filter_append, ← hq.out]; simp [nown, hn])
        go_wp2_with fail
        go_roundw
        case rel => exact ⟨k + 1, q, B, D, by omega, by go_num, hqk, rfl, ho.later _, below_of⟩
        case measure => simp [intOf]; omega
    · have hk' : k = xs.length := by omega
      subst hk'
      rw [List.take_length] at hq
      go_wp2_with fail
      go_ret
      exact ⟨q, B, D, hq, rfl, ho.later _, below_of⟩
end Go.Proofs.Ytgddapgdeaeggaa
