/-
  Contracts of the functions of this seat that each theorem names: what a call returns, and that it writes nothing that was there before. The conditions stand in each theorem.
-/
import Derived.Test.YtgddapgdeaeggaaWireRead6
import Derived.Lib.SliceRun
namespace Go.Proofs.Ytgddapgdeaeggaa
open Go.RowKit
def ClonePost (l : List Int) (w : World) (r : Ending) (w' : World) : Prop := ∃ (A : Option Addr) (c : Nat), r = .returned (.slice A l.length c) ∧ l.length ≤ c ∧ c ≤ maxLen ∧ SlAt U8.cells 1 w' A l ∧ Below w.heap.size w w'
set_option maxHeartbeats 1000000 in
theorem cloneB_any (A : Option Addr) (c : Nat) (l : List Int) (w : World) (hs : SlAt U8.cells 1 w A l) (hl : l.length ≤ 1000000000) :
    Calls Try.prog 69 #[.slice A l.length c] w (ClonePost l w) := by
  have hq := fun (W : World) n c => Lib.run_eql_slice_nil (P := Try.prog) W 55 5 A n c 0 0 Try.underlying55
  cases A with
  | none =>
    simp only [Option.isNone_none] at hq
    have hl0 : l = [] := by
      by_cases h : l = []
      · exact h
      · obtain ⟨b, off, e, _⟩ := hs h; cases e
    subst hl0
    go_enter Try.func69, Try.ntmps69
    go_wp2_with fail
    go_ret
    exact ⟨none, 0, rfl, by simp, by simp, SlAt.nil, below_of⟩
  | some a =>
    simp only [Option.isNone_some] at hq
    go_enter Try.func69, Try.ntmps69
    go_wp2_with (at_builtin; refine wpList_appE rfl (.tmp 5) (.tmp 6) rfl U8.enc byteT _ _ l rfl rfl hs (by omega) (by unfold maxLen; omega) ?_; intro A' c' w1 ho hm hb)
    go_ret
    obtain ⟨h1, h2, h3⟩ := ho.at_ U8.enc
    exact ⟨A', c', rfl, h2, hm, h3, hb⟩
def NewPost (l : List Int) (w : World) (r : Ending) (w' : World) : Prop := ∃ (wb : World) (g : Nat), r = .returned (.pointer (some ⟨g, 0, none⟩)) ∧ RD wb g w' (l, 0) ∧ Below w.heap.size w wb ∧ Below w.heap.size w w'
set_option maxHeartbeats 1000000 in
theorem newRd_any (A : Option Addr) (c : Nat) (l : List Int) (w : World) (hs : SlAt U8.cells 1 w A l) (hl : l.length ≤ 1000000000) (hb : Bytes l) :
    Calls Try.prog 49 #[.slice A l.length c] w (NewPost l w) := by
  go_enter Try.func49, Try.ntmps49
  go_wp2_with (go_at_call 69; refine (cloneB_any A c l w hs hl).mono ?_)
  intro r w1 h1
  obtain ⟨A1, c1, rfl, hlc, hcm, hs1, hb1⟩ := h1
  have l1 := later hb1
  go_wp2_with fail
  go_ret
  refine ⟨w1, w1.heap.size, rfl, ⟨below_of, Nat.le_refl _, ⟨A1, c1, hs1, hlc, hcm, ?_⟩, hb⟩, hb1, below_of⟩
  exact heap_alloc_new _ _
end Go.Proofs.Ytgddapgdeaeggaa
