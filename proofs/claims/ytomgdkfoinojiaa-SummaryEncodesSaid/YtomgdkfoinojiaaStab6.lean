/-
  Contracts of the functions of this seat that each theorem names: what a call returns, and that it writes nothing that was there before. The conditions stand in each theorem.
-/
import Derived.Test.YtomgdkfoinojiaaStab5
import Derived.Test.YtomgdkfoinojiaaGrpU
set_option linter.unusedSimpArgs false
set_option linter.unusedVariables false
namespace Go.Proofs.Ytomgdkfoinojiaa
open Go.RowKit Go.Shelf Go.Lib Go.Sort
set_option maxHeartbeats 2000000 in
theorem insNil_InsetE (fv : Value) (w : World) : Calls Try.prog 107 #[.slice none 0 0, .int .i64 0, .int .i64 0, fv] w fun e w' => e = .returned (.tuple #[]) ∧ Below w.heap.size w w' := by
  go_enter Try.func107, Try.ntmps107
  go_wp2_with fail
  go_loopg [8] 1 (fun kx s8 wr => s8 = .int .i64 1 ∧ w = wr)
  case atStart => exact ⟨rfl, rfl⟩
  case round =>
    obtain ⟨rfl, rfl⟩ := hrel
    go_wp2_with fail
    go_end0
    exact ⟨rfl, Below.refl _ _⟩
set_option maxHeartbeats 2000000 in
theorem stableNil_InsetE (fv : Value) (w : World) : Calls Try.prog 89 #[.slice none 0 0, .int .i64 0, fv] w fun e w' => e = .returned (.tuple #[]) ∧ Below w.heap.size w w' := by
  go_enter Try.func89, Try.ntmps89
  go_wp2_with fail
  go_loopg [7, 8] 1 (fun kx s7 s8 wr => s7 = .int .i64 0 ∧ s8 = .int .i64 20 ∧ w = wr)
  case atStart => exact ⟨rfl, rfl, rfl⟩
  case round =>
    obtain ⟨rfl, rfl, rfl⟩ := hrel
    go_wp2_with (go_at_call 107; refine (insNil_InsetE fv _).mono ?_; rintro e w1 ⟨rfl, hb1⟩)
    go_loopg [6] 1 (fun kx s6 wr => s6 = .int .i64 20 ∧ Below w.heap.size w wr)
    case atStart => exact ⟨rfl, hb1⟩
    case round =>
      obtain ⟨rfl, hb⟩ := hrel
      go_wp2_with fail
      go_end0
      exact ⟨rfl, hb⟩
set_option maxHeartbeats 2000000 in
/-- slices.SortStableFunc over a slice that the call made itself (or nil). -/
theorem sortIns_any (A : Option Addr) (c : Nat) (l : List InsetE) (base : Nat) (w : World) (hown : Own InsetE.cells 3 58 base w (.slice A l.length c) l) (hl : l.length ≤ 100000000000) (hbase : base ≤ w.heap.size) :
    Calls Try.prog 65 #[.slice A l.length c, .func (.func 48) #[] #[]] w fun e w' => e = .returned (.tuple #[]) ∧ ∃ q, Srt (Go.Proofs.ltOf cmpIn) q ∧ Stb (Go.Proofs.ltOf cmpIn) l q ∧
      Own InsetE.cells 3 58 base w' (.slice A l.length c) q ∧ Below base w w' ∧ w.grownBy w' (Value.slice A l.length c).ownBlock := by
  rcases hown.form with ⟨hv, rfl⟩ | ⟨g, cap, hv, hg, hgl, hlc, hcm⟩
  · injection hv with h1 h2 h3
    subst h1 h3
    go_enter Try.func65, Try.ntmps65
    go_wp2_with (go_at_call 89; refine (stableNil_InsetE _ _).mono ?_; rintro e w1 ⟨rfl, hb1⟩)
    go_end0
    exact ⟨rfl, [], List.Pairwise.nil, Stb.refl, Own.nil, hb1.mono hbase, grown_below hb1 _⟩
  · injection hv with h1 h2 h3
    subst h1 h3
    have hcall := stable_InsetE cmpIn cmpIn_swo 48 #[] g 0 c l.toArray w (fun args w => by kernel_rfl) (fun m os dk _ x y => (cmpIn_any x y _).mono (by rintro e w' ⟨rfl, q, os', hw⟩; exact ⟨rfl, q, os', hw⟩)) ⟨InsetE.enc.len, InsetE.one, hown.holdsK InsetE.enc, hgl⟩ (by simp; omega)
    rw [List.size_toArray] at hcall
    have hcall := hcall.mono (fun e w' (h : e = .returned (.tuple #[]) ∧ _) => (⟨h.1, hide h.2⟩ : e = .returned (.tuple #[]) ∧ Hid _))
    have hll : l.length ≤ 9223372036854775807 := by omega
    go_enter Try.func65, Try.ntmps65
    go_wp2_with (go_at_call 89; refine hcall.mono ?_; rintro e w1 ⟨rfl, hpost⟩)
    go_end0
    obtain ⟨d', h1, h2, n, os, rfl⟩ := hpost.out
    have hsz : d'.size = l.length := by have := h2.length cmpIn_swo; simpa using this
    have hst : Stb (Go.Proofs.ltOf cmpIn) l d'.toList := by simpa using h2
    exact ⟨rfl, d'.toList, h1, hst, hown.sortK InsetE.enc hsz, sortK_below hg hbase, sortK_grownBy⟩
set_option maxHeartbeats 2000000 in
theorem insNil_SumE (fv : Value) (w : World) : Calls Try.prog 109 #[.slice none 0 0, .int .i64 0, .int .i64 0, fv] w fun e w' => e = .returned (.tuple #[]) ∧ Below w.heap.size w w' := by
  go_enter Try.func109, Try.ntmps109
  go_wp2_with fail
  go_loopg [8] 1 (fun kx s8 wr => s8 = .int .i64 1 ∧ w = wr)
  case atStart => exact ⟨rfl, rfl⟩
  case round =>
    obtain ⟨rfl, rfl⟩ := hrel
    go_wp2_with fail
    go_end0
    exact ⟨rfl, Below.refl _ _⟩
set_option maxHeartbeats 2000000 in
theorem stableNil_SumE (fv : Value) (w : World) : Calls Try.prog 91 #[.slice none 0 0, .int .i64 0, fv] w fun e w' => e = .returned (.tuple #[]) ∧ Below w.heap.size w w' := by
  go_enter Try.func91, Try.ntmps91
  go_wp2_with fail
  go_loopg [7, 8] 1 (fun kx s7 s8 wr => s7 = .int .i64 0 ∧ s8 = .int .i64 20 ∧ w = wr)
  case atStart => exact ⟨rfl, rfl, rfl⟩
  case round =>
    obtain ⟨rfl, rfl, rfl⟩ := hrel
    go_wp2_with (go_at_call 109; refine (insNil_SumE fv _).mono ?_; rintro e w1 ⟨rfl, hb1⟩)
    go_loopg [6] 1 (fun kx s6 wr => s6 = .int .i64 20 ∧ Below w.heap.size w wr)
    case atStart => exact ⟨rfl, hb1⟩
    case round =>
      obtain ⟨rfl, hb⟩ := hrel
      go_wp2_with fail
      go_end0
      exact ⟨rfl, hb⟩
set_option maxHeartbeats 2000000 in
/-- slices.SortStableFunc over a slice that the call made itself (or nil). -/
theorem sortSum_any (A : Option Addr) (c : Nat) (l : List SumE) (base : Nat) (w : World) (hown : Own SumE.cells 5 41 base w (.slice A l.length c) l) (hl : l.length ≤ 100000000000) (hbase : base ≤ w.heap.size) :
    Calls Try.prog 67 #[.slice A l.length c, .func (.func 47) #[] #[]] w fun e w' => e = .returned (.tuple #[]) ∧ ∃ q, Srt (Go.Proofs.ltOf cmpSu) q ∧ Stb (Go.Proofs.ltOf cmpSu) l q ∧
      Own SumE.cells 5 41 base w' (.slice A l.length c) q ∧ Below base w w' ∧ w.grownBy w' (Value.slice A l.length c).ownBlock := by
  rcases hown.form with ⟨hv, rfl⟩ | ⟨g, cap, hv, hg, hgl, hlc, hcm⟩
  · injection hv with h1 h2 h3
    subst h1 h3
    go_enter Try.func67, Try.ntmps67
    go_wp2_with (go_at_call 91; refine (stableNil_SumE _ _).mono ?_; rintro e w1 ⟨rfl, hb1⟩)
    go_end0
    exact ⟨rfl, [], List.Pairwise.nil, Stb.refl, Own.nil, hb1.mono hbase, grown_below hb1 _⟩
  · injection hv with h1 h2 h3
    subst h1 h3
    have hcall := stable_SumE cmpSu cmpSu_swo 47 #[] g 0 c l.toArray w (fun args w => by kernel_rfl) (fun m os dk _ x y => (cmpSu_any x y _).mono (by rintro e w' ⟨rfl, q, os', hw⟩; exact ⟨rfl, q, os', hw⟩)) ⟨SumE.enc.len, SumE.one, hown.holdsK SumE.enc, hgl⟩ (by simp; omega)
    rw [List.size_toArray] at hcall
    have hcall := hcall.mono (fun e w' (h : e = .returned (.tuple #[]) ∧ _) => (⟨h.1, hide h.2⟩ : e = .returned (.tuple #[]) ∧ Hid _))
    have hll : l.length ≤ 9223372036854775807 := by omega
    go_enter Try.func67, Try.ntmps67
    go_wp2_with (go_at_call 91; refine hcall.mono ?_; rintro e w1 ⟨rfl, hpost⟩)
    go_end0
    obtain ⟨d', h1, h2, n, os, rfl⟩ := hpost.out
    have hsz : d'.size = l.length := by have := h2.length cmpSu_swo; simpa using this
    have hst : Stb (Go.Proofs.ltOf cmpSu) l d'.toList := by simpa using h2
    exact ⟨rfl, d'.toList, h1, hst, hown.sortK SumE.enc hsz, sortK_below hg hbase, sortK_grownBy⟩
end Go.Proofs.Ytomgdkfoinojiaa
