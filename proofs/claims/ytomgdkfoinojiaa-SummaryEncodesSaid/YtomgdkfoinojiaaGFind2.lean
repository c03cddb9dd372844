/-
  Contracts of the functions of this seat that each theorem names: what a call returns, and that it writes nothing that was there before. The conditions stand in each theorem.
-/
import Derived.Test.YtomgdkfoinojiaaGFind
set_option linter.unusedSimpArgs false
set_option linter.unusedVariables false
namespace Go.Proofs.Ytomgdkfoinojiaa
open Go.RowKit
attribute [local go_sem ↓] run_eql_id run_neq_id
attribute [local go_sem] Instr.makeFunc
theorem valT : ElemT Try.prog 76 94 4 32 := ElemT.mk' (z := .agg #[.int .i64 0, .int .i64 0, .int .i64 0, .int .i64 0]) Try.underlying76 (by kernel_rfl) rfl
/-- What Clone gives: a slice of the call's own. -/
def CloneP {α : Type} (f : α → List Value) (s : Nat) (e : TypeId) (l : List α) (w : World) (r : Ending) (w' : World) : Prop := ∃ (A : Option Addr) (c : Nat), r = .returned (.slice A l.length c) ∧ l.length ≤ c ∧ c ≤ maxLen ∧ Own f s e w.heap.size w' (.slice A l.length c) l ∧ Below w.heap.size w w'
set_option maxHeartbeats 1000000 in
theorem cloneI_any (A : Option Addr) (c : Nat) (l : List IDE) (w : World) (hs : SlAt IDE.cells 2 w A l) (hl : l.length ≤ 1000000000) :
    Calls Try.prog 41 #[.slice A l.length c] w (CloneP IDE.cells 2 45 l w) := by
  have hq := fun (W : World) n c => Lib.run_eql_slice_nil (P := Try.prog) W 25 45 A n c 0 0 Try.underlying25
  cases A with
  | none =>
    simp only [Option.isNone_none] at hq
    have hl0 : l = [] := by
      by_cases h : l = []
      · exact h
      · obtain ⟨b, off, e, _⟩ := hs h; cases e
    subst hl0
    go_enter Try.func41, Try.ntmps41
    go_wp2_with fail
    go_ret
    exact ⟨none, 0, rfl, by simp, by simp, Own.nil, below_of⟩
  | some a =>
    simp only [Option.isNone_some] at hq
    go_enter Try.func41, Try.ntmps41
    go_wp2_with (at_builtin; refine wpList_appE rfl (.tmp 5) (.tmp 6) rfl IDE.enc idT _ _ l rfl rfl hs (by omega) (by unfold maxLen; omega) ?_; intro A' c' w1 ho hm hb)
    go_ret
    obtain ⟨h1, h2, h3⟩ := ho.at_ IDE.enc
    exact ⟨A', c', rfl, h2, hm, ho, hb⟩
end Go.Proofs.Ytomgdkfoinojiaa
