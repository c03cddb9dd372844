/-
  Contracts of the functions of this seat that each theorem names: what a call returns, and that it writes nothing that was there before. The conditions stand in each theorem.
-/
import Derived.Test.YtomgdkfoinojiaaS32Same2
import Derived.Test.YtomgdkfoinojiaaGFind2
namespace Go.Proofs.Ytomgdkfoinojiaa
open Go.RowKit
attribute [local go_sem] Instr.makeFunc
theorem insT : ElemT Try.prog 39 58 3 24 := ElemT.mk' (z := .agg #[.int .i64 0, .int .u64 0, .int .i64 0]) Try.underlying39 (by kernel_rfl) rfl
set_option maxHeartbeats 1000000 in
theorem cloneIn_any (A : Option Addr) (c : Nat) (l : List InsetE) (w : World) (hs : SlAt InsetE.cells 3 w A l) (hl : l.length ≤ 1000000000) :
    Calls Try.prog 39 #[.slice A l.length c] w (CloneP InsetE.cells 3 58 l w) := by
  have hq := fun (W : World) n c => Lib.run_eql_slice_nil (P := Try.prog) W 39 58 A n c 0 0 Try.underlying39
  cases A with
  | none =>
    simp only [Option.isNone_none] at hq
    have hl0 : l = [] := by
      by_cases h : l = []
      · exact h
      · obtain ⟨b, off, e, _⟩ := hs h; cases e
    subst hl0
    go_enter Try.func39, Try.ntmps39
    go_wp2_with fail
    go_ret
    exact ⟨none, 0, rfl, by simp, by simp, Own.nil, below_of⟩
  | some a =>
    simp only [Option.isNone_some] at hq
    go_enter Try.func39, Try.ntmps39
    go_wp2_with (at_builtin; refine wpList_appE rfl (.tmp 5) (.tmp 6) rfl InsetE.enc insT _ _ l rfl rfl hs (by omega) (by unfold maxLen; omega) ?_; intro A' c' w1 ho hm hb)
    go_ret
    obtain ⟨h1, h2, h3⟩ := ho.at_ InsetE.enc
    exact ⟨A', c', rfl, h2, hm, ho, hb⟩
def isSum (o n : Int) (x : SumE) : Bool := x.owner == o && x.number == n
/-- What a search gives: the summary, or none. -/
def foundC (o n : Int) (l : List SumE) : Option SumC := (l.find? (isSum o n)).map SumE.con
def zeroS : SumC := ⟨0, 0, false, 0, []⟩
def FindP (Lo : Nat) (o n : Int) (l : List SumE) (w : World) (r : Ending) (w' : World) : Prop := ∃ x : SumE, r = .returned (.tuple #[x.v, .bool (foundC o n l).isSome]) ∧ Hid (x.con = (foundC o n l).getD zeroS) ∧ SlAt InsetE.cells 3 w' x.A x.inset ∧ (x.inset ≠ [] → ∀ b o', x.A = some ⟨b, o', none⟩ → b < Lo ∨ w.heap.size ≤ b) ∧ x.inset.length ≤ x.c ∧ x.c ≤ maxLen ∧ Below w.heap.size w w'
theorem foundC_hit {o n : Int} {l : List SumE} {k : Nat} {x : SumE} (hx : l[k]? = some x) (hp : isSum o n x = true) (hno : NoneTo (isSum o n) l k) : foundC o n l = some x.con := by
  unfold foundC; rw [find_hit hx hp hno]; rfl
theorem foundC_miss {o n : Int} {l : List SumE} (hno : NoneTo (isSum o n) l l.length) : foundC o n l = none := by
  unfold foundC; rw [find_miss hno]; rfl
set_option maxHeartbeats 1000000 in
theorem sfind1_any (W : World) (b1 b2 : Nat) (o n : Int) (H1 : Boxed W b1 #[.int .i64 o] 3) (H2 : Boxed W b2 #[.int .u64 n] 38) (x : SumE) (w : World) [Later W w] : Calls Try.prog 38 #[x.v, .pointer (some ⟨b1, 0, none⟩), .pointer (some ⟨b2, 0, none⟩)] w fun r w' => r = .returned (.bool (isSum o n x)) ∧ Below w.heap.size w w' := by
  have HV := hide (show isSum o n x = (x.owner == o && x.number == n) from rfl)
  cases hA : x.owner == o
  · go_enter Try.func38, Try.ntmps38
    go_wp2_with fail
    go_ret
    exact ⟨ret_bool (by rw [HV.out, hA]; rfl), below_of⟩
  · go_enter Try.func38, Try.ntmps38
    go_wp2_with fail
    go_ret
    exact ⟨ret_bool (by rw [HV.out, hA]; rfl), below_of⟩
set_option maxRecDepth 100000 in
set_option maxHeartbeats 2000000 in
theorem idxSum_any (W : World) (b1 b2 : Nat) (o n : Int) (H1 : Boxed W b1 #[.int .i64 o] 3) (H2 : Boxed W b2 #[.int .u64 n] 38) (A : Option Addr) (c : Nat) (xs : List SumE) (w : World) [kW : Later W w] (hs : SumsAt w A xs) (hl : xs.length ≤ 1000000000) :
    Calls Try.prog 37 #[.slice A xs.length c, .func (.func 38) #[] #[.pointer (some ⟨b1, 0, none⟩), .pointer (some ⟨b2, 0, none⟩)]] w fun r w' => r = .returned (.int .i64 (idxOf (isSum o n) xs)) ∧ Below w.heap.size w w' := by
  have Hs := hs.later
  have hl' : xs.length ≤ 9223372036854775807 := by omega
  obtain ⟨p, hp⟩ : ∃ p, p = isSum o n := ⟨_, rfl⟩
  rw [← hp]
  have HCx : ∀ u [Later W u] (x : SumE), Calls Try.prog 38 #[x.v, .pointer (some ⟨b1, 0, none⟩), .pointer (some ⟨b2, 0, none⟩)] u fun r w' => r = .returned (.bool (p x)) ∧ Below u.heap.size u w' := fun u i x => by rw [hp]; exact sfind1_any W b1 b2 o n H1 H2 x u
  clear hp
  go_enter Try.func37, Try.ntmps37
  go_wp2_with fail
  go_loopw [5, 8] (fun _ i wr => ∃ k : Nat, k ≤ xs.length ∧ i = .int .i64 k ∧ NoneTo p xs k ∧ Below w.heap.size w wr) (fun _ i _ => xs.length - (intOf i).toNat)
  case atStart => exact ⟨0, by omega, rfl, NoneTo.zero, Below.refl _ _⟩
  case round =>
    obtain ⟨k, hk, rfl, hno, hbr⟩ := hrel
    have lr := later hbr
    have Hno := hide hno
    clear hno
    by_cases hlt : k < xs.length
    · obtain ⟨g, o', x, rfl, hx, C1, -⟩ := (Hs wr).get hlt
      have Hx := hide hx
      clear hx
      have HCn := fun u (i : Later W u) => HCx u x
      clear HCx
      cases hp : p x <;> simp only [hp] at HCn
      · go_wp2_with (go_at_call 38; refine (HCn _ inferInstance).mono ?_; rintro r w1 ⟨rfl, hb1⟩; have l1 := later hb1)
        go_roundw
        case rel => exact ⟨k + 1, by omega, by go_num, Hno.out.succ Hx.out hp, below_of⟩
        case measure => simp [intOf]; omega
      · have HI := hide (idxOf_hit Hx.out hp Hno.out)
        go_wp2_with (go_at_call 38; refine (HCn _ inferInstance).mono ?_; rintro r w1 ⟨rfl, hb1⟩; have l1 := later hb1)
        go_ret
        exact ⟨ret_int HI.out.symm, below_of⟩
    · have hk' : k = xs.length := by omega
      subst hk'
      have HI := hide (idxOf_miss Hno.out)
      go_wp2_with fail
      go_ret
      exact ⟨ret_int HI.out.symm, below_of⟩
end Go.Proofs.Ytomgdkfoinojiaa
