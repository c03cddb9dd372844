/-
  Contracts of the functions of this seat that each theorem names: what a call returns, and that it writes nothing that was there before. The conditions stand in each theorem.
-/
import Derived.Test.YtgddapgdeaeggaaGrpF
namespace Go.Proofs.Ytgddapgdeaeggaa
open Go.RowKit
set_option maxHeartbeats 800000 in
theorem equalB_any (aA : Option Addr) (aC : Nat) (a : List Int) (bA : Option Addr) (bC : Nat) (b : List Int) (w : World) (ha : SlAt U8.cells 1 w aA a) (hb : SlAt U8.cells 1 w bA b) (hal : a.length ≤ 9223372036854775807) :
    Calls Try.prog 53 #[.slice aA a.length aC, .slice bA b.length bC] w fun r w' => ∃ q : Bool, r = .returned (.bool q) ∧ (q = true ↔ a = b) ∧ Below w.heap.size w w' := by
  by_cases hl : a.length = b.length
  rotate_left
  · have hl' : ¬ (a.length : Int) = (b.length : Int) := by omega
    have Hl := hide hl
    clear hl
    go_enter Try.func53, Try.ntmps53
    go_wp2
    go_ret
    exact ⟨false, rfl, ⟨(fun h => by cases h), fun h => absurd (congrArg List.length h) Hl.out⟩, Below.refl _ _⟩
  have Hl := hide hl
  have hl' : ((a.length : Int) != (b.length : Int)) = false := by simp [hl]
  clear hl
  have Ha := ha.later
  have Hb := hb.later
  go_enter Try.func53, Try.ntmps53
  go_wp2
  go_loopw [13] (fun i wr => ∃ k : Nat, k ≤ a.length ∧ i = .int .i64 k ∧ (∀ (j : Nat) (x y : Int), j < k → a[j]? = some x → b[j]? = some y → x = y) ∧ Below w.heap.size w wr) (fun i _ => a.length - (intOf i).toNat)
  case atStart => exact ⟨0, by omega, rfl, fun j _ _ h => absurd h (by omega), Below.refl _ _⟩
  case round =>
    obtain ⟨k, hk, rfl, hall, hbw⟩ := hrel
    have lr := later hbw
    by_cases hlt : k < a.length
    · have hlt2 : k < b.length := by rw [← Hl.out]; exact hlt
      obtain ⟨x, hx⟩ : ∃ x, a[k]? = some x := ⟨_, List.getElem?_eq_getElem hlt⟩
      obtain ⟨y, hy⟩ : ∃ y, b[k]? = some y := ⟨_, List.getElem?_eq_getElem hlt2⟩
      obtain ⟨g1, o1, rfl, _, K1⟩ := byte_at (Ha wr) hx
      obtain ⟨g2, o2, rfl, _, K2⟩ := byte_at (Hb wr) hy
      have Hall := hide hall
      have Hx := hide hx
      have Hy := hide hy
      have hkb : (k : Int) < (b.length : Int) := by omega
      clear hall hx hy
      go_upto_region 6 with fail
      (refine wp_region_after (by kernel_rfl) (by kernel_rfl) ?_
       repeat (any_goals (first | go_big_quiet_skip | (go_big_quiet_want; go_big_quiet_op; first | go_big_quiet_on | go_big_quiet_call (fail)) | quiet_step (fail) | (refine wpQuiet_step (fun K hK => ?_); go_simp; split <;> (refine hK _ ?_; clear hK K))))
       all_goals (refine wpQuiet_nil ?_; intro _ hw'; obtain ⟨u', hw''⟩ := hw'; subst hw''; obtain ⟨wd, hbd⟩ := u'; simp only [After.val_mk]))
      have ld := later hbd
      by_cases hxy : x = y
      · have hxy' : (x != y) = false := by simp [hxy]
        go_wp2_with fail
        go_roundw
        case rel => exact ⟨k + 1, by omega, by go_num, fun j x' y' hj hx' hy' => by
          rcases Nat.lt_or_ge j k with h | h
          · exact Hall.out j x' y' h hx' hy'
          · have : j = k := by omega
            subst this
            have hx := Hx.out
            have hy := Hy.out
            rw [hx] at hx'; injection hx' with hx'
            rw [hy] at hy'; injection hy' with hy'
            rw [← hx', ← hy']
            exact hxy, hbw.trans (hbd.mono hbw.size)⟩
        case measure => simp [intOf]; omega
      · have hxy' : (x != y) = true := by simp [hxy]
        go_wp2_with fail
        go_ret
        exact ⟨false, rfl, ⟨(fun h => by cases h), fun h => by
          have hx := Hx.out
          have hy := Hy.out
          rw [h, hy] at hx
          injection hx with hx
          exact absurd hx.symm hxy⟩, hbw.trans (hbd.mono hbw.size)⟩
    · have hk' : k = a.length := by omega
      subst hk'
      have Hall := hide hall
      clear hall
      go_wp2
      go_ret
      exact ⟨true, rfl, ⟨fun _ => eq_to Hl.out fun j x y hx hy => Hall.out j x y (List.getElem?_eq_some_iff.1 hx).1 hx hy, fun _ => rfl⟩, hbw⟩
def addN : Nat → St → List StubE → Option (List StubE × St)
  | 0, st, l => some (l, st)
  | k + 1, st, l => if addErr l (rdEnt st).1 = 0 then addN k (rdEnt st).2 (addT l (rdEnt st).1) else none
def endE (st : St) : Int := if st.2 = 0 ∧ st.1 ≠ [] then 11 else st.2
def cntOf (b : List Int) : Nat := (rdC (b.length : Int) (b, 0)).1.toNat
def decR (b : List Int) : Option (List StubE × St) := addN (cntOf b) (rdC (b.length : Int) (b, 0)).2 []
def decOk (b : List Int) : Prop := ∃ l st q, decR b = some (l, st) ∧ endE st = 0 ∧ q.Perm l ∧ SortedS q ∧ encS q = b
theorem rdC_range {m : Int} {st : St} (hm : 0 ≤ m) (h : Bytes st.1) : 0 ≤ (rdC m st).1 ∧ (rdC m st).1 ≤ m := by
  have hr := rdU_range h
  unfold rdC
  split
  · split
    · rename_i h2
      unfold cntE at h2
      split at h2
      · cases h2
      · exact ⟨hr.1, by omega⟩
    · exact ⟨by simp, by simpa using hm⟩
  · exact ⟨by simp, by simpa using hm⟩
theorem rdU_bytes {s : St} (hs : Bytes s.1) : Bytes (rdU s).2.1 := by
  unfold rdU
  split
  · split
    · exact restU_bytes hs
    · intro x hx; cases hx
  · exact hs
theorem rdB_bytes {s : St} (hs : Bytes s.1) : Bytes (rdB s).2.1 := by
  unfold rdB
  split
  · split
    · exact hs.drop 1
    · intro x hx; cases hx
  · exact hs
theorem rdI_bytes {s : St} (hs : Bytes s.1) : Bytes (rdI s).2.1 := by
  unfold rdI
  split
  · split
    · exact rdU_bytes (rdU_bytes hs)
    · intro x hx; cases hx
  · exact rdU_bytes (rdU_bytes hs)
theorem rdC_bytes {m : Int} {s : St} (hs : Bytes s.1) : Bytes (rdC m s).2.1 := by
  unfold rdC
  split
  · split
    · exact rdU_bytes hs
    · intro x hx; cases hx
  · exact rdU_bytes hs
theorem rng_setN {k : Nat} {e : StubE} {x : Int} (h : RngE e) : RngE (setN k e (toI x)) := by
  have h1 : toI x < 9223372036854775808 := by unfold toI wrap64; omega
  unfold RngE at h ⊢
  unfold setN
  split <;> simp only <;> omega
theorem rng_setF {k : Nat} {e : StubE} {x : Bool} (h : RngE e) : RngE (setF k e x) := by
  unfold RngE at h ⊢
  unfold setF
  split <;> simp only <;> omega
theorem rdEnt_ok {st : St} (hs : Bytes st.1) : RngE (rdEnt st).1 ∧ Bytes (rdEnt st).2.1 := by
  have h0 : RngE (rdE0 st).1 ∧ Bytes (rdE0 st).2.1 := by
    refine ⟨?_, rdI_bytes (rdU_bytes (rdU_bytes hs))⟩
    have := rdU_range (rdU_bytes hs)
    unfold RngE rdE0
    simp only; omega
  have hN : ∀ k {s : StubE × St}, RngE s.1 ∧ Bytes s.2.1 → RngE (rdNs k s).1 ∧ Bytes (rdNs k s).2.1 := by
    intro k s h
    induction k with
    | zero => exact h
    | succ k ih => exact ⟨rng_setN ih.1, rdU_bytes ih.2⟩
  have hF : ∀ k {s : StubE × St}, RngE s.1 ∧ Bytes s.2.1 → RngE (rdFs k s).1 ∧ Bytes (rdFs k s).2.1 := by
    intro k s h
    induction k with
    | zero => exact h
    | succ k ih => exact ⟨rng_setF ih.1, rdB_bytes ih.2⟩
  exact hF 3 (hN 5 h0)
end Go.Proofs.Ytgddapgdeaeggaa
