/-
  Contracts of the functions of this seat that each theorem names: what a call returns, and that it writes nothing that was there before. The conditions stand in each theorem.
-/
import Derived.Test.YthigjlllhnajbaaC25Plain2
import Derived.Test.YthigjlllhnajbaaRows
namespace Go.Proofs.Ythigjlllhnajbaa
open Go.RowKit
set_option maxHeartbeats 800000 in
theorem run_eql_ListedE (x y : ListedE) (w : World) : (binOp .eql 64 x.v y.v).run Try.prog w = .ok (.bool (ListedE.beq x y)) w := by
  have ht : Try.prog.underlying 64 = some (.struct (Try.prog.fieldsOf 64)) := by kernel_rfl
  have hp : Try.prog.stoodInHeld 64 = false := by kernel_rfl
  have hu := Try.underlying64
  rw [run_eql_struct, run_equalIn_struct w 9999 64 _ _ ht hp]
  obtain ⟨fs, hfs⟩ : ∃ fs, Try.prog.fieldsOf 64 = fs := ⟨_, rfl⟩
  rw [hfs] at ht ⊢
  rw [hu] at ht
  have ht2 := TypeDesc.struct.inj (Option.some.inj ht)
  subst ht2
  simp only [Op.eqFields, ne_eq]
  simp [go_sem, ListedE.beq]
  clear hfs hu ht hp
  by_cases h0 : x.number = y.number
  rotate_left
  · rw [if_neg h0]
    simp [beq_eq_false_iff_ne.2 h0]
  rw [if_pos h0]
  have e0 := beq_iff_eq.2 h0
  by_cases h1 : x.distance = y.distance
  rotate_left
  · rw [if_neg h1]
    simp [beq_eq_false_iff_ne.2 h1]
  rw [if_pos h1]
  have e1 := beq_iff_eq.2 h1
  by_cases h2 : x.weak = y.weak
  rotate_left
  · rw [if_neg h2]
    simp [beq_eq_false_iff_ne.2 h2]
  rw [if_pos h2]
  have e2 := beq_iff_eq.2 h2
  simp only [e0, e1, e2]
  rfl
set_option maxHeartbeats 800000 in
theorem run_neq_ListedE (x y : ListedE) (w : World) : (binOp .neq 64 x.v y.v).run Try.prog w = .ok (.bool (!ListedE.beq x y)) w := by
  have ht : Try.prog.underlying 64 = some (.struct (Try.prog.fieldsOf 64)) := by kernel_rfl
  have hp : Try.prog.stoodInHeld 64 = false := by kernel_rfl
  have hu := Try.underlying64
  rw [run_neq_struct, run_equalIn_struct w 9999 64 _ _ ht hp]
  obtain ⟨fs, hfs⟩ : ∃ fs, Try.prog.fieldsOf 64 = fs := ⟨_, rfl⟩
  rw [hfs] at ht ⊢
  rw [hu] at ht
  have ht2 := TypeDesc.struct.inj (Option.some.inj ht)
  subst ht2
  simp only [Op.eqFields, ne_eq]
  simp [go_sem, ListedE.beq]
  clear hfs hu ht hp
  by_cases h0 : x.number = y.number
  rotate_left
  · rw [if_neg h0]
    simp [beq_eq_false_iff_ne.2 h0]
  rw [if_pos h0]
  have e0 := beq_iff_eq.2 h0
  by_cases h1 : x.distance = y.distance
  rotate_left
  · rw [if_neg h1]
    simp [beq_eq_false_iff_ne.2 h1]
  rw [if_pos h1]
  have e1 := beq_iff_eq.2 h1
  by_cases h2 : x.weak = y.weak
  rotate_left
  · rw [if_neg h2]
    simp [beq_eq_false_iff_ne.2 h2]
  rw [if_pos h2]
  have e2 := beq_iff_eq.2 h2
  simp only [e0, e1, e2]
  rfl
set_option maxHeartbeats 800000 in
theorem run_eql_ScionE (x y : ScionE) (w : World) : (binOp .eql 43 x.v y.v).run Try.prog w = .ok (.bool (ScionE.beq x y)) w := by
  have ht : Try.prog.underlying 43 = some (.struct (Try.prog.fieldsOf 43)) := by kernel_rfl
  have hp : Try.prog.stoodInHeld 43 = false := by kernel_rfl
  have hu := Try.underlying43
  rw [run_eql_struct, run_equalIn_struct w 9999 43 _ _ ht hp]
  obtain ⟨fs, hfs⟩ : ∃ fs, Try.prog.fieldsOf 43 = fs := ⟨_, rfl⟩
  rw [hfs] at ht ⊢
  rw [hu] at ht
  have ht2 := TypeDesc.struct.inj (Option.some.inj ht)
  subst ht2
  simp only [Op.eqFields, ne_eq]
  simp [go_sem, ScionE.beq]
  clear hfs hu ht hp
  by_cases h0 : x.client = y.client
  rotate_left
  · rw [if_neg h0]
    simp [beq_eq_false_iff_ne.2 h0]
  rw [if_pos h0]
  have e0 := beq_iff_eq.2 h0
  by_cases h1 : x.number = y.number
  rotate_left
  · rw [if_neg h1]
    simp [beq_eq_false_iff_ne.2 h1]
  rw [if_pos h1]
  have e1 := beq_iff_eq.2 h1
  by_cases h2 : x.iDMachine = y.iDMachine
  rotate_left
  · rw [if_neg h2]
    simp [beq_eq_false_iff_ne.2 h2]
  rw [if_pos h2]
  have e2 := beq_iff_eq.2 h2
  by_cases h3 : x.iDSerial = y.iDSerial
  rotate_left
  · rw [if_neg h3]
    simp [beq_eq_false_iff_ne.2 h3]
  rw [if_pos h3]
  have e3 := beq_iff_eq.2 h3
  by_cases h4 : x.out = y.out
  rotate_left
  · rw [if_neg h4]
    simp [beq_eq_false_iff_ne.2 h4]
  rw [if_pos h4]
  have e4 := beq_iff_eq.2 h4
  by_cases h5 : x.inn = y.inn
  rotate_left
  · rw [if_neg h5]
    simp [beq_eq_false_iff_ne.2 h5]
  rw [if_pos h5]
  have e5 := beq_iff_eq.2 h5
  by_cases h6 : x.distance = y.distance
  rotate_left
  · rw [if_neg h6]
    simp [beq_eq_false_iff_ne.2 h6]
  rw [if_pos h6]
  have e6 := beq_iff_eq.2 h6
  by_cases h7 : x.touched = y.touched
  rotate_left
  · rw [if_neg h7]
    simp [beq_eq_false_iff_ne.2 h7]
  rw [if_pos h7]
  have e7 := beq_iff_eq.2 h7
  by_cases h8 : x.weak = y.weak
  rotate_left
  · rw [if_neg h8]
    simp [beq_eq_false_iff_ne.2 h8]
  rw [if_pos h8]
  have e8 := beq_iff_eq.2 h8
  by_cases h9 : x.garbage = y.garbage
  rotate_left
  · rw [if_neg h9]
    simp [beq_eq_false_iff_ne.2 h9]
  rw [if_pos h9]
  have e9 := beq_iff_eq.2 h9
  by_cases h10 : x.lockMachine = y.lockMachine
  rotate_left
  · rw [if_neg h10]
    simp [beq_eq_false_iff_ne.2 h10]
  rw [if_pos h10]
  have e10 := beq_iff_eq.2 h10
  by_cases h11 : x.lockSerial = y.lockSerial
  rotate_left
  · rw [if_neg h11]
    simp [beq_eq_false_iff_ne.2 h11]
  rw [if_pos h11]
  have e11 := beq_iff_eq.2 h11
  simp only [e0, e1, e2, e3, e4, e5, e6, e7, e8, e9, e10, e11]
  rfl
set_option maxHeartbeats 800000 in
theorem run_neq_ScionE (x y : ScionE) (w : World) : (binOp .neq 43 x.v y.v).run Try.prog w = .ok (.bool (!ScionE.beq x y)) w := by
  have ht : Try.prog.underlying 43 = some (.struct (Try.prog.fieldsOf 43)) := by kernel_rfl
  have hp : Try.prog.stoodInHeld 43 = false := by kernel_rfl
  have hu := Try.underlying43
  rw [run_neq_struct, run_equalIn_struct w 9999 43 _ _ ht hp]
  obtain ⟨fs, hfs⟩ : ∃ fs, Try.prog.fieldsOf 43 = fs := ⟨_, rfl⟩
  rw [hfs] at ht ⊢
  rw [hu] at ht
  have ht2 := TypeDesc.struct.inj (Option.some.inj ht)
  subst ht2
  simp only [Op.eqFields, ne_eq]
  simp [go_sem, ScionE.beq]
  clear hfs hu ht hp
  by_cases h0 : x.client = y.client
  rotate_left
  · rw [if_neg h0]
    simp [beq_eq_false_iff_ne.2 h0]
  rw [if_pos h0]
  have e0 := beq_iff_eq.2 h0
  by_cases h1 : x.number = y.number
  rotate_left
  · rw [if_neg h1]
    simp [beq_eq_false_iff_ne.2 h1]
  rw [if_pos h1]
  have e1 := beq_iff_eq.2 h1
  by_cases h2 : x.iDMachine = y.iDMachine
  rotate_left
  · rw [if_neg h2]
    simp [beq_eq_false_iff_ne.2 h2]
  rw [if_pos h2]
  have e2 := beq_iff_eq.2 h2
  by_cases h3 : x.iDSerial = y.iDSerial
  rotate_left
  · rw [if_neg h3]
    simp [beq_eq_false_iff_ne.2 h3]
  rw [if_pos h3]
  have e3 := beq_iff_eq.2 h3
  by_cases h4 : x.out = y.out
  rotate_left
  · rw [if_neg h4]
    simp [beq_eq_false_iff_ne.2 h4]
  rw [if_pos h4]
  have e4 := beq_iff_eq.2 h4
  by_cases h5 : x.inn = y.inn
  rotate_left
  · rw [if_neg h5]
    simp [beq_eq_false_iff_ne.2 h5]
  rw [if_pos h5]
  have e5 := beq_iff_eq.2 h5
  by_cases h6 : x.distance = y.distance
  rotate_left
  · rw [if_neg h6]
    simp [beq_eq_false_iff_ne.2 h6]
  rw [if_pos h6]
  have e6 := beq_iff_eq.2 h6
  by_cases h7 : x.touched = y.touched
  rotate_left
  · rw [if_neg h7]
    simp [beq_eq_false_iff_ne.2 h7]
  rw [if_pos h7]
  have e7 := beq_iff_eq.2 h7
  by_cases h8 : x.weak = y.weak
  rotate_left
  · rw [if_neg h8]
    simp [beq_eq_false_iff_ne.2 h8]
  rw [if_pos h8]
  have e8 := beq_iff_eq.2 h8
  by_cases h9 : x.garbage = y.garbage
  rotate_left
  · rw [if_neg h9]
    simp [beq_eq_false_iff_ne.2 h9]
  rw [if_pos h9]
  have e9 := beq_iff_eq.2 h9
  by_cases h10 : x.lockMachine = y.lockMachine
  rotate_left
  · rw [if_neg h10]
    simp [beq_eq_false_iff_ne.2 h10]
  rw [if_pos h10]
  have e10 := beq_iff_eq.2 h10
  by_cases h11 : x.lockSerial = y.lockSerial
  rotate_left
  · rw [if_neg h11]
    simp [beq_eq_false_iff_ne.2 h11]
  rw [if_pos h11]
  have e11 := beq_iff_eq.2 h11
  simp only [e0, e1, e2, e3, e4, e5, e6, e7, e8, e9, e10, e11]
  rfl
set_option maxHeartbeats 800000 in
theorem run_eql_IDE (x y : IDE) (w : World) : (binOp .eql 31 x.v y.v).run Try.prog w = .ok (.bool (IDE.beq x y)) w := by
  have ht : Try.prog.underlying 31 = some (.struct (Try.prog.fieldsOf 31)) := by kernel_rfl
  have hp : Try.prog.stoodInHeld 31 = false := by kernel_rfl
  have hu := Try.underlying31
  rw [run_eql_struct, run_equalIn_struct w 9999 31 _ _ ht hp]
  obtain ⟨fs, hfs⟩ : ∃ fs, Try.prog.fieldsOf 31 = fs := ⟨_, rfl⟩
  rw [hfs] at ht ⊢
  rw [hu] at ht
  have ht2 := TypeDesc.struct.inj (Option.some.inj ht)
  subst ht2
  simp only [Op.eqFields, ne_eq]
  simp [go_sem, IDE.beq]
  clear hfs hu ht hp
  by_cases h0 : x.machine = y.machine
  rotate_left
  · rw [if_neg h0]
    simp [beq_eq_false_iff_ne.2 h0]
  rw [if_pos h0]
  have e0 := beq_iff_eq.2 h0
  by_cases h1 : x.serial = y.serial
  rotate_left
  · rw [if_neg h1]
    simp [beq_eq_false_iff_ne.2 h1]
  rw [if_pos h1]
  have e1 := beq_iff_eq.2 h1
  simp only [e0, e1]
  rfl
set_option maxHeartbeats 800000 in
theorem run_neq_IDE (x y : IDE) (w : World) : (binOp .neq 31 x.v y.v).run Try.prog w = .ok (.bool (!IDE.beq x y)) w := by
  have ht : Try.prog.underlying 31 = some (.struct (Try.prog.fieldsOf 31)) := by kernel_rfl
  have hp : Try.prog.stoodInHeld 31 = false := by kernel_rfl
  have hu := Try.underlying31
  rw [run_neq_struct, run_equalIn_struct w 9999 31 _ _ ht hp]
  obtain ⟨fs, hfs⟩ : ∃ fs, Try.prog.fieldsOf 31 = fs := ⟨_, rfl⟩
  rw [hfs] at ht ⊢
  rw [hu] at ht
  have ht2 := TypeDesc.struct.inj (Option.some.inj ht)
  subst ht2
  simp only [Op.eqFields, ne_eq]
  simp [go_sem, IDE.beq]
  clear hfs hu ht hp
  by_cases h0 : x.machine = y.machine
  rotate_left
  · rw [if_neg h0]
    simp [beq_eq_false_iff_ne.2 h0]
  rw [if_pos h0]
  have e0 := beq_iff_eq.2 h0
  by_cases h1 : x.serial = y.serial
  rotate_left
  · rw [if_neg h1]
    simp [beq_eq_false_iff_ne.2 h1]
  rw [if_pos h1]
  have e1 := beq_iff_eq.2 h1
  simp only [e0, e1]
  rfl

set_option maxHeartbeats 800000 in
attribute [local go_sem ↓] run_neq_ScionE in
theorem sameScions_any (aA : Option Addr) (aC : Nat) (a : List ScionE) (bA : Option Addr) (bC : Nat) (b : List ScionE) (w : World) (ha : SlAt ScionE.cells 12 w aA a) (hb : SlAt ScionE.cells 12 w bA b) (hal : a.length ≤ 9223372036854775807) (_ : b.length ≤ 9223372036854775807) :
    Calls Try.prog 18 #[.slice aA a.length aC, .slice bA b.length bC] w fun r w' => ∃ q : Bool, r = .returned (.bool q) ∧ (q = true ↔ a = b) ∧ Below w.heap.size w w' := by
  by_cases hl : a.length = b.length
  rotate_left
  · have hl' : ¬ (a.length : Int) = (b.length : Int) := by omega
    have Hl := hide hl
    clear hl
    go_enter Try.func18, Try.ntmps18
    go_wp2
    go_ret
    exact ⟨false, rfl, ⟨(fun h => by cases h), fun h => absurd (congrArg List.length h) Hl.out⟩, Below.refl _ _⟩
  have Hl := hide hl
  have hl' : ((a.length : Int) != (b.length : Int)) = false := by simp [hl]
  clear hl
  have Ha := ha.later
  have Hb := hb.later
  go_enter Try.func18, Try.ntmps18
  go_wp2
  go_loopw [5] (fun i wr => ∃ k : Nat, k ≤ a.length ∧ i = .int .i64 k ∧ (∀ (j : Nat) (x y : ScionE), j < k → a[j]? = some x → b[j]? = some y → x = y) ∧ Below w.heap.size w wr) (fun i _ => a.length - (intOf i).toNat)
  case atStart => exact ⟨0, by omega, rfl, fun j _ _ h => absurd h (by omega), Below.refl _ _⟩
  case round =>
    obtain ⟨k, hk, rfl, hall, hbw⟩ := hrel
    have lr := later hbw
    by_cases hlt : k < a.length
    · have hlt2 : k < b.length := by rw [← Hl.out]; exact hlt
      obtain ⟨g1, o1, x, rfl, hx, C1⟩ := ScionE.get (Ha wr) hlt
      obtain ⟨g2, o2, y, rfl, hy, C2⟩ := ScionE.get (Hb wr) hlt2
      have Hall := hide hall
      have Hx := hide hx
      have Hy := hide hy
      clear hall hx hy
      go_wp2
      (refine wp_region_after (by kernel_rfl) (by kernel_rfl) ?_
       repeat (any_goals (first | go_big_quiet_skip | (go_big_quiet_want; go_big_quiet_op; first | go_big_quiet_on | go_big_quiet_call (fail)) | quiet_step (fail) | (refine wpQuiet_step (fun K hK => ?_); go_simp; split <;> (refine hK _ ?_; clear hK K))))
       all_goals (refine wpQuiet_nil ?_; intro _ hw'; obtain ⟨u', hw''⟩ := hw'; subst hw''; obtain ⟨wd, hbd⟩ := u'; simp only [After.val_mk]))
      have ld := later hbd
      cases hxy : ScionE.beq x y
      · go_wp2_with fail
        go_ret
        exact ⟨false, rfl, ⟨(fun h => by cases h), fun h => by
          have hx := Hx.out
          have hy := Hy.out
          rw [h, hy] at hx
          injection hx with hx
          rw [ScionE.beq_iff.2 hx.symm] at hxy
          cases hxy⟩, hbw.trans (hbd.mono hbw.size)⟩
      · go_wp2_with fail
        go_roundw
        case rel => exact ⟨k + 1, by omega, by go_num, fun j x' y' hj hx' hy' => by
          rcases Nat.lt_or_ge j k with h | h
          · exact Hall.out j x' y' h hx' hy'
          · have : j = k := by omega
            subst this
            have hx := Hx.out
            have hy := Hy.out
            rw [hx] at hx'; injection hx' with hx'
            rw [hy] at hy'; injection hy' with hy'
            rw [← hx', ← hy']
            exact ScionE.beq_iff.1 hxy, hbw.trans (hbd.mono hbw.size)⟩
        case measure => simp [intOf]; omega
    · have hk' : k = a.length := by omega
      subst hk'
      have Hall := hide hall
      clear hall
      go_wp2
      go_ret
      exact ⟨true, rfl, ⟨fun _ => eq_to Hl.out fun j x y hx hy => Hall.out j x y (List.getElem?_eq_some_iff.1 hx).1 hx hy, fun _ => rfl⟩, hbw⟩

set_option maxHeartbeats 800000 in
theorem entry_any (L : ListV) (n : Int) (w : World) (hL : L.at_ w) :
    Calls Try.prog 19 #[L.v, .int .u64 n] w fun r w' => r = .returned (.int .i64 (entryI L.entries n)) ∧ Below w.heap.size w w' := by
  have HL := hL.later
  have hsl : L.entries.length ≤ 9223372036854775807 := by have := hL.sl; omega
  go_enter Try.func19, Try.ntmps19
  go_wp2
  refine wp_name ?_
  intro w0 hw0
  obtain ⟨B0, l0⟩ := box1 hw0
  clear hw0
  go_loopw [5] (fun i wr => ∃ k : Nat, k ≤ L.entries.length ∧ i = .int .i64 k ∧ NoneTo (fun x : ListedE => decide (x.number = n)) L.entries k ∧ Below w0.heap.size w0 wr) (fun i _ => L.entries.length - (intOf i).toNat)
  case atStart => exact ⟨0, by omega, rfl, NoneTo.zero, Below.refl _ _⟩
  case round =>
    obtain ⟨k, hk, rfl, hno, hbw⟩ := hrel
    have lr := later hbw
    by_cases hlt : k < L.entries.length
    · obtain ⟨g1, o1, x, hA, hx, C1⟩ := ListedE.get (HL wr).s hlt
      rw [hA] at B0
      have Hx := hide hx
      clear hx hA
      by_cases hn : x.number = n
      · go_wp2_with fail
        go_ret
        exact ⟨ret_int (idxOf_hit Hx.out (by simpa using hn) hno).symm, below_of⟩
      · go_wp2_with fail
        go_roundw
        case rel => exact ⟨k + 1, by omega, by go_num, hno.succ Hx.out (by simpa using hn), below_of⟩
        case measure => simp [intOf]; omega
    · have hk' : k = L.entries.length := by omega
      subst hk'
      go_wp2_with fail
      go_ret
      exact ⟨ret_int (idxOf_miss hno).symm, below_of⟩
end Go.Proofs.Ythigjlllhnajbaa
