/-
  Contracts of the functions of this seat that each theorem names: what a call returns, and that it writes nothing that was there before. The conditions stand in each theorem.
-/
import Derived.Test.YtnjpmpelgigmjaaC34Walk1
import Derived.Test.YtnjpmpelgigmjaaLater3
import Derived.Test.YtnjpmpelgigmjaaClearLib
namespace Go.Proofs.Ytnjpmpelgigmjaa
open Go.RowKit
attribute [local go_sem ↓] run_eql_trace run_neq_trace
def zeroT (t : TraceE) : Bool := teq t.machine t.serial 0 0
abbrev TraceE.vv (x : TraceE) : Value := .agg #[.int .i64 x.machine, .int .i64 x.serial]
set_option maxHeartbeats 1000000 in
theorem zero1_any (x : TraceE) (w : World) : Calls Try.prog 46 #[x.vv] w fun r w' => r = .returned (.bool (zeroT x)) ∧ Below w.heap.size w w' := by
  go_enter Try.func46, Try.ntmps46
  go_wp2_with fail
  go_ret
  exact ⟨ret_bool rfl, below_of⟩
theorem trace_at {A : Option Addr} {l : List TraceE} {w : World} (h : SlAt TraceE.cells 2 w A l) {k : Nat} {x : TraceE} (hx : l[k]? = some x) : ∃ b off, A = some ⟨b, off, none⟩ ∧ (∀ u [Later w u], u.cell? ⟨b, off + k * 2, none⟩ = some (.int .i64 x.machine)) ∧ (∀ u [Later w u], u.cell? ⟨b, off + k * 2 + 1, none⟩ = some (.int .i64 x.serial)) := by
  obtain ⟨b, off, e, hlt, hc⟩ := h (by rintro rfl; simp at hx)
  refine ⟨b, off, e, Later.cell (b := w) ?_, Later.cell (b := w) ?_⟩
  · simpa using hc k x hx 0 _ rfl
  · exact hc k x hx 1 _ rfl
set_option maxRecDepth 100000 in
set_option maxHeartbeats 2000000 in
theorem idxZero_any (A : Option Addr) (c : Nat) (xs : List TraceE) (w : World) (hs : SlAt TraceE.cells 2 w A xs) (hl : xs.length ≤ 9223372036854775807) :
    Calls Try.prog 64 #[.slice A xs.length c, .func (.func 46) #[] #[]] w fun r w' => r = .returned (.int .i64 (idxOf zeroT xs)) ∧ Below w.heap.size w w' := by
  have Hs : ∀ u [Later w u], SlAt TraceE.cells 2 u A xs := fun u i => hs.below i.below
  go_enter Try.func64, Try.ntmps64
  go_wp2_with fail
  go_loopw [5, 8] (fun _ i wr => ∃ k : Nat, k ≤ xs.length ∧ i = .int .i64 k ∧ NoneTo zeroT xs k ∧ Below w.heap.size w wr) (fun _ i _ => xs.length - (intOf i).toNat)
  case atStart => exact ⟨0, by omega, rfl, NoneTo.zero, Below.refl _ _⟩
  case round =>
    obtain ⟨k, hk, rfl, hno, hbr⟩ := hrel
    have lr := later hbr
    have Hno := hide hno
    clear hno
    by_cases hlt : k < xs.length
    · obtain ⟨x, hx⟩ : ∃ x, xs[k]? = some x := ⟨_, List.getElem?_eq_getElem hlt⟩
      obtain ⟨g, o, rfl, C1, C2⟩ := trace_at (Hs wr) hx
      have Hx := hide hx
      clear hx
      have HCx : ∀ u, Calls Try.prog 46 #[.agg #[.int .i64 x.machine, .int .i64 x.serial]] u fun r w' => r = .returned (.bool (zeroT x)) ∧ Below u.heap.size u w' := fun u => zero1_any x u
      cases hp : zeroT x <;> simp only [hp] at HCx
      · go_wp2_with (go_at_call 46; refine (HCx _).mono ?_)
        rintro r w1 ⟨rfl, hb1⟩
        have l1 := later hb1
        go_wp2_with fail
        go_roundw
        case rel => exact ⟨k + 1, by omega, by go_num, Hno.out.succ Hx.out hp, below_of⟩
        case measure => simp [intOf]; omega
      · have HI := hide (idxOf_hit Hx.out hp Hno.out)
        go_wp2_with (go_at_call 46; refine (HCx _).mono ?_)
        rintro r w1 ⟨rfl, hb1⟩
        have l1 := later hb1
        go_wp2_with fail
        go_ret
        exact ⟨ret_int HI.out.symm, below_of⟩
    · have hk' : k = xs.length := by omega
      subst hk'
      have HI := hide (idxOf_miss Hno.out)
      go_wp2_with fail
      go_ret
      exact ⟨ret_int HI.out.symm, below_of⟩
end Go.Proofs.Ytnjpmpelgigmjaa
