/-
  Contracts of the functions of this seat that each theorem names: what a call returns, and that it writes nothing that was there before. The conditions stand in each theorem.
-/
import Derived.Test.YthigjlllhnajbaaC25Walk1
import Derived.Laws.ByValue
namespace Go.Proofs.Ythigjlllhnajbaa
open Go.RowKit
def ideq (a b c d : Int) : Bool := IDE.beq ⟨a, b⟩ ⟨c, d⟩
theorem run_eql_id (a b c d : Int) (w : World) : (binOp .eql 31 (.agg #[.int .i64 a, .int .i64 b]) (.agg #[.int .i64 c, .int .i64 d])).run Try.prog w = .ok (.bool (ideq a b c d)) w := run_eql_IDE ⟨a, b⟩ ⟨c, d⟩ w
attribute [local go_sem ↓] run_eql_id
def coverB (client : Int) (e : StubE) (x : ScionE) : Bool := (decide (x.client = client) && decide (x.number = e.number)) && (ideq x.iDMachine x.iDSerial e.iDMachine e.iDSerial || (e.weak && ideq x.iDMachine x.iDSerial 0 0)) && (e.weak || !x.weak)
set_option maxRecDepth 100000 in
set_option maxHeartbeats 2000000 in
/-- The inner closure: whether a scion covers a stub. -/
theorem cover1_any (bc be : Nat) (client : Int) (e : StubE) (x : ScionE) (w : World) (hc : w.cell? ⟨bc, 0, none⟩ = some (.int .i64 client)) (he : ∀ u [Later w u], ∀ i, u.cell? ⟨be, i, none⟩ = e.arr[i]?) :
    Calls Try.prog 44 #[x.v, .pointer (some ⟨bc, 0, none⟩), .pointer (some ⟨be, 0, none⟩)] w fun r w' => r = .returned (.bool (coverB client e x)) ∧ Below w.heap.size w w' := by
  have HC := Later.cell hc
  go_enter Try.func44, Try.ntmps44
  go_upto_region 1 with fail
  refine wp_name ?_
  intro w0 hw0
  obtain ⟨B0, l0⟩ := box1 hw0
  clear hw0 hc
  go_wp2_with fail
  all_goals go_ret
  all_goals exact ⟨ret_bool (by first | (simp [coverB, *]; done) | (simp [coverB, bnt ‹(!_) = true›, *]; done) | (simp [coverB, bnf ‹(!_) = false›, *]; done)), below_of⟩
theorem idx_any {α : Type} (p : α → Bool) (l : List α) : decide (0 ≤ idxOf p l) = l.any p := by
  rcases idxOf_cases p l with ⟨h, hno⟩ | ⟨k, x, h, hx, hp, _⟩
  · rw [h]
    have : l.any p = false := by
      rw [List.any_eq_false]
      intro x hx
      obtain ⟨j, hj⟩ := List.getElem?_of_mem hx
      simp [hno j x (List.getElem?_eq_some_iff.1 hj).1 hj]
    rw [this]; rfl
  · rw [h]
    have : l.any p = true := List.any_eq_true.2 ⟨x, List.mem_of_getElem? hx, hp⟩
    rw [this]; simp
set_option maxRecDepth 100000 in
set_option maxHeartbeats 2000000 in
theorem idxScions_any (p : ScionE → Bool) (A : Option Addr) (c : Nat) (xs : List ScionE) (v1 v2 : Value) (w : World) (hs : SlAt ScionE.cells 12 w A xs) (hl : xs.length ≤ 9223372036854775807)
    (HC : ∀ (u : World) [Later w u] (x : ScionE), Calls Try.prog 44 #[x.v, v1, v2] u fun r w' => r = .returned (.bool (p x)) ∧ Below u.heap.size u w') :
    Calls Try.prog 62 #[.slice A xs.length c, .func (.func 44) #[] #[v1, v2]] w fun r w' => r = .returned (.int .i64 (idxOf p xs)) ∧ Below w.heap.size w w' := by
  have Hs : ∀ u [Later w u], SlAt ScionE.cells 12 u A xs := fun u i => hs.below i.below
  go_enter Try.func62, Try.ntmps62
  go_wp2_with fail
  go_loopw [5, 8] (fun _ i wr => ∃ k : Nat, k ≤ xs.length ∧ i = .int .i64 k ∧ NoneTo p xs k ∧ Below w.heap.size w wr) (fun _ i _ => xs.length - (intOf i).toNat)
  case atStart => exact ⟨0, by omega, rfl, NoneTo.zero, Below.refl _ _⟩
  case round =>
    obtain ⟨k, hk, rfl, hno, hbr⟩ := hrel
    have lr := later hbr
    have Hno := hide hno
    clear hno
    by_cases hlt : k < xs.length
    · obtain ⟨g, o, x, rfl, hx, C1⟩ := ScionE.get (Hs wr) hlt
      have Hx := hide hx
      clear hx
      have HCx : ∀ u [Later w u], Calls Try.prog 44 #[x.v, v1, v2] u fun r w' => r = .returned (.bool (p x)) ∧ Below u.heap.size u w' := fun u i => HC u x
      cases hp : p x <;> simp only [hp] at HCx
      · go_wp2_with (go_at_call 44; refine (HCx _).mono ?_)
        rintro r w1 ⟨rfl, hb1⟩
        have l1 := later hb1
        go_wp2_with fail
        go_roundw
        case rel => exact ⟨k + 1, by omega, by go_num, Hno.out.succ Hx.out hp, below_of⟩
        case measure => simp [intOf]; omega
      · have HI := hide (idxOf_hit Hx.out hp Hno.out)
        go_wp2_with (go_at_call 44; refine (HCx _).mono ?_)
        rintro r w1 ⟨rfl, hb1⟩
        have l1 := later hb1
        go_wp2_with fail
        go_ret
        exact ⟨ret_int HI.out.symm, below_of⟩
    · have hk' : k = xs.length := by omega
      subst hk'
      have HI := hide (idxOf_miss Hno.out)
      go_wp2_with fail
      go_ret
      exact ⟨ret_int HI.out.symm, below_of⟩
set_option maxHeartbeats 2000000 in
theorem contScions_any (p : ScionE → Bool) (A : Option Addr) (c : Nat) (xs : List ScionE) (v1 v2 : Value) (w : World) (hs : SlAt ScionE.cells 12 w A xs) (hl : xs.length ≤ 9223372036854775807)
    (HC : ∀ (u : World) [Later w u] (x : ScionE), Calls Try.prog 44 #[x.v, v1, v2] u fun r w' => r = .returned (.bool (p x)) ∧ Below u.heap.size u w') :
    Calls Try.prog 43 #[.slice A xs.length c, .func (.func 44) #[] #[v1, v2]] w fun r w' => r = .returned (.bool (xs.any p)) ∧ Below w.heap.size w w' := by
  have HI := idxScions_any p A c xs v1 v2 w hs hl HC
  have Hany := hide (idx_any p xs)
  go_enter Try.func43, Try.ntmps43
  go_wp2_with (go_at_call 62; refine HI.mono ?_)
  rintro r w1 ⟨rfl, hb1⟩
  go_wp2_with fail
  all_goals go_ret
  all_goals exact ⟨ret_bool (by rw [← Hany.out] <;> simp), hb1⟩
set_option maxRecDepth 100000 in
set_option maxHeartbeats 2000000 in
theorem idxStubs_any (p : StubE → Bool) (A : Option Addr) (c : Nat) (xs : List StubE) (v1 v2 v3 : Value) (w : World) (hs : SlAt StubE.cells 12 w A xs) (hl : xs.length ≤ 9223372036854775807)
    (HC : ∀ (u : World) [Later w u] (x : StubE), Calls Try.prog 42 #[x.v, v1, v2, v3] u fun r w' => r = .returned (.bool (p x)) ∧ Below u.heap.size u w') :
    Calls Try.prog 61 #[.slice A xs.length c, .func (.func 42) #[] #[v1, v2, v3]] w fun r w' => r = .returned (.int .i64 (idxOf p xs)) ∧ Below w.heap.size w w' := by
  have Hs : ∀ u [Later w u], SlAt StubE.cells 12 u A xs := fun u i => hs.below i.below
  go_enter Try.func61, Try.ntmps61
  go_wp2_with fail
  go_loopw [5, 8] (fun _ i wr => ∃ k : Nat, k ≤ xs.length ∧ i = .int .i64 k ∧ NoneTo p xs k ∧ Below w.heap.size w wr) (fun _ i _ => xs.length - (intOf i).toNat)
  case atStart => exact ⟨0, by omega, rfl, NoneTo.zero, Below.refl _ _⟩
  case round =>
    obtain ⟨k, hk, rfl, hno, hbr⟩ := hrel
    have lr := later hbr
    have Hno := hide hno
    clear hno
    by_cases hlt : k < xs.length
    · obtain ⟨g, o, x, rfl, hx, C1⟩ := StubE.get (Hs wr) hlt
      have Hx := hide hx
      clear hx
      have HCx : ∀ u [Later w u], Calls Try.prog 42 #[x.v, v1, v2, v3] u fun r w' => r = .returned (.bool (p x)) ∧ Below u.heap.size u w' := fun u i => HC u x
      cases hp : p x <;> simp only [hp] at HCx
      · go_wp2_with (go_at_call 42; refine (HCx _).mono ?_)
        rintro r w1 ⟨rfl, hb1⟩
        have l1 := later hb1
        go_wp2_with fail
        go_roundw
        case rel => exact ⟨k + 1, by omega, by go_num, Hno.out.succ Hx.out hp, below_of⟩
        case measure => simp [intOf]; omega
      · have HI := hide (idxOf_hit Hx.out hp Hno.out)
        go_wp2_with (go_at_call 42; refine (HCx _).mono ?_)
        rintro r w1 ⟨rfl, hb1⟩
        have l1 := later hb1
        go_wp2_with fail
        go_ret
        exact ⟨ret_int HI.out.symm, below_of⟩
    · have hk' : k = xs.length := by omega
      subst hk'
      have HI := hide (idxOf_miss Hno.out)
      go_wp2_with fail
      go_ret
      exact ⟨ret_int HI.out.symm, below_of⟩
set_option maxHeartbeats 2000000 in
theorem contStubs_any (p : StubE → Bool) (A : Option Addr) (c : Nat) (xs : List StubE) (v1 v2 v3 : Value) (w : World) (hs : SlAt StubE.cells 12 w A xs) (hl : xs.length ≤ 9223372036854775807)
    (HC : ∀ (u : World) [Later w u] (x : StubE), Calls Try.prog 42 #[x.v, v1, v2, v3] u fun r w' => r = .returned (.bool (p x)) ∧ Below u.heap.size u w') :
    Calls Try.prog 41 #[.slice A xs.length c, .func (.func 42) #[] #[v1, v2, v3]] w fun r w' => r = .returned (.bool (xs.any p)) ∧ Below w.heap.size w w' := by
  have HI := idxStubs_any p A c xs v1 v2 v3 w hs hl HC
  have Hany := hide (idx_any p xs)
  go_enter Try.func41, Try.ntmps41
  go_wp2_with (go_at_call 61; refine HI.mono ?_)
  rintro r w1 ⟨rfl, hb1⟩
  go_wp2_with fail
  all_goals go_ret
  all_goals exact ⟨ret_bool (by rw [← Hany.out] <;> simp), hb1⟩
end Go.Proofs.Ythigjlllhnajbaa
