/-
  Small texts of this seat, put into one. Conditions stand in each theorem.
-/
import Derived.Test.YtomgdkfoinojiaaGrpY
import Derived.Lib.SliceRun
set_option linter.unusedSimpArgs false
set_option linter.unusedVariables false
namespace Go.Proofs.Ytomgdkfoinojiaa
open Go.RowKit
def ClonePost (l : List Int) (w : World) (r : Ending) (w' : World) : Prop := ∃ (A : Option Addr) (c : Nat), r = .returned (.slice A l.length c) ∧ l.length ≤ c ∧ c ≤ maxLen ∧ SlAt U8.cells 1 w' A l ∧ Below w.heap.size w w'
set_option maxHeartbeats 1000000 in
theorem cloneB_any (A : Option Addr) (c : Nat) (l : List Int) (w : World) (hs : SlAt U8.cells 1 w A l) (hl : l.length ≤ 1000000000) :
    Calls Try.prog 82 #[.slice A l.length c] w (ClonePost l w) := by
  have hq := fun (W : World) n c => Lib.run_eql_slice_nil (P := Try.prog) W 71 5 A n c 0 0 Try.underlying71
  cases A with
  | none =>
    simp only [Option.isNone_none] at hq
    have hl0 : l = [] := by
      by_cases h : l = []
      · exact h
      · obtain ⟨b, off, e, _⟩ := hs h; cases e
    subst hl0
    go_enter Try.func82, Try.ntmps82
    go_wp2_with fail
    go_ret
    exact ⟨none, 0, rfl, by simp, by simp, SlAt.nil, below_of⟩
  | some a =>
    simp only [Option.isNone_some] at hq
    go_enter Try.func82, Try.ntmps82
    go_wp2_with (at_builtin; refine wpList_appE rfl (.tmp 5) (.tmp 6) rfl U8.enc byteT _ _ l rfl rfl hs (by omega) (by unfold maxLen; omega) ?_; intro A' c' w1 ho hm hb)
    go_ret
    obtain ⟨h1, h2, h3⟩ := ho.at_ U8.enc
    exact ⟨A', c', rfl, h2, hm, h3, hb⟩
def NewPost (l : List Int) (w : World) (r : Ending) (w' : World) : Prop := ∃ (wb : World) (g : Nat), r = .returned (.pointer (some ⟨g, 0, none⟩)) ∧ RD wb g w' (l, 0) ∧ Below w.heap.size w wb ∧ Below w.heap.size w w'
set_option maxHeartbeats 1000000 in
theorem newRd_any (A : Option Addr) (c : Nat) (l : List Int) (w : World) (hs : SlAt U8.cells 1 w A l) (hl : l.length ≤ 1000000000) (hb : Bytes l) :
    Calls Try.prog 49 #[.slice A l.length c] w (NewPost l w) := by
  go_enter Try.func49, Try.ntmps49
  go_wp2_with (go_at_call 82; refine (cloneB_any A c l w hs hl).mono ?_)
  intro r w1 h1
  obtain ⟨A1, c1, rfl, hlc, hcm, hs1, hb1⟩ := h1
  have l1 := later hb1
  go_wp2_with fail
  go_ret
  refine ⟨w1, w1.heap.size, rfl, ⟨below_of, Nat.le_refl _, ⟨A1, c1, hs1, hlc, hcm, ?_⟩, hb⟩, hb1, below_of⟩
  exact heap_alloc_new _ _
end Go.Proofs.Ytomgdkfoinojiaa

namespace Go.Proofs.Ytomgdkfoinojiaa
open Go.RowKit
section
variable {wb w w' : World} {g : Nat} {st : List Int × Int}
theorem RD.drew (h : RD wb g w st) : RD wb g w.drew st := ⟨h.lw.drew, h.gw, h.s, h.by_⟩
theorem RD.below (h : RD wb g w st) (hb : Below w.heap.size w w') : RD wb g w' st := by
  obtain ⟨A, c, h1, h2, h3, h4⟩ := h.s
  exact ⟨h.lw.trans (hb.mono h.lw.size), h.gw, ⟨A, c, h1, h2, h3, (hb.block g (blk_lt h4)).trans h4⟩, h.by_⟩
theorem Only.of_grown {row : Option Nat} (hg : w.grownBy w' row) : Only (fun k => row = some k) w w' := by
  obtain ⟨a, b, c, d, e⟩ := hg
  exact ⟨a, b, c, d, fun k hk hn => e k hk (fun h => hn (by first | exact h | exact h.symm))⟩
theorem RD.only {s : Nat → Prop} (h : RD wb g w st) (ho : Only s w w') (hs : ∀ k, s k → wb.heap.size ≤ k ∧ k ≠ g) : RD wb g w' st := by
  obtain ⟨A, c, h1, h2, h3, h4⟩ := h.s
  exact ⟨h.lw.trans (ho.below (fun k hk => (hs k hk).1) h.lw.size), h.gw, ⟨A, c, h1, h2, h3, ho.boxed h4 (fun e => (hs g e).2 rfl)⟩, h.by_⟩
theorem RD.lt (h : RD wb g w st) : g < w.heap.size := by obtain ⟨A, c, _, _, _, h⟩ := h.s; exact blk_lt h
theorem RD.type (h : RD wb g w st) : ∃ cs, w.heap[g]? = some (.cells cs 135 (0, 0)) := by obtain ⟨A, c, _, _, _, h⟩ := h.s; exact ⟨_, h⟩
end
end Go.Proofs.Ytomgdkfoinojiaa
