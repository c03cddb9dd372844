/-
  Contracts of the functions of this seat that each theorem names: what a call returns, and that it writes nothing that was there before. The conditions stand in each theorem.
-/
import Derived.Test.YtnjpmpelgigmjaaC34Walk9
namespace Go.Proofs.Ytnjpmpelgigmjaa
open Go.RowKit
set_option maxHeartbeats 800000 in
theorem run_eql_StubE (x y : StubE) (w : World) : (binOp .eql 42 x.v y.v).run Try.prog w = .ok (.bool (StubE.beq x y)) w := by
  have ht : Try.prog.underlying 42 = some (.struct (Try.prog.fieldsOf 42)) := by kernel_rfl
  have hp : Try.prog.stoodInHeld 42 = false := by kernel_rfl
  have hu := Try.underlying42
  rw [run_eql_struct, run_equalIn_struct w 9999 42 _ _ ht hp]
  obtain ⟨fs, hfs⟩ : ∃ fs, Try.prog.fieldsOf 42 = fs := ⟨_, rfl⟩
  rw [hfs] at ht ⊢
  rw [hu] at ht
  have ht2 := TypeDesc.struct.inj (Option.some.inj ht)
  subst ht2
  simp only [Op.eqFields, ne_eq]
  simp [go_sem, StubE.beq]
  clear hfs hu ht hp
  by_cases h0 : x.owner = y.owner
  rotate_left
  · rw [if_neg h0]
    simp [beq_eq_false_iff_ne.2 h0]
  rw [if_pos h0]
  have e0 := beq_iff_eq.2 h0
  by_cases h1 : x.number = y.number
  rotate_left
  · rw [if_neg h1]
    simp [beq_eq_false_iff_ne.2 h1]
  rw [if_pos h1]
  have e1 := beq_iff_eq.2 h1
  by_cases h2 : x.iDMachine = y.iDMachine
  rotate_left
  · rw [if_neg h2]
    simp [beq_eq_false_iff_ne.2 h2]
  rw [if_pos h2]
  have e2 := beq_iff_eq.2 h2
  by_cases h3 : x.iDSerial = y.iDSerial
  rotate_left
  · rw [if_neg h3]
    simp [beq_eq_false_iff_ne.2 h3]
  rw [if_pos h3]
  have e3 := beq_iff_eq.2 h3
  by_cases h4 : x.clas = y.clas
  rotate_left
  · rw [if_neg h4]
    simp [beq_eq_false_iff_ne.2 h4]
  rw [if_pos h4]
  have e4 := beq_iff_eq.2 h4
  by_cases h5 : x.lastUse = y.lastUse
  rotate_left
  · rw [if_neg h5]
    simp [beq_eq_false_iff_ne.2 h5]
  rw [if_pos h5]
  have e5 := beq_iff_eq.2 h5
  by_cases h6 : x.distance = y.distance
  rotate_left
  · rw [if_neg h6]
    simp [beq_eq_false_iff_ne.2 h6]
  rw [if_pos h6]
  have e6 := beq_iff_eq.2 h6
  by_cases h7 : x.touched = y.touched
  rotate_left
  · rw [if_neg h7]
    simp [beq_eq_false_iff_ne.2 h7]
  rw [if_pos h7]
  have e7 := beq_iff_eq.2 h7
  by_cases h8 : x.weak = y.weak
  rotate_left
  · rw [if_neg h8]
    simp [beq_eq_false_iff_ne.2 h8]
  rw [if_pos h8]
  have e8 := beq_iff_eq.2 h8
  by_cases h9 : x.dead = y.dead
  rotate_left
  · rw [if_neg h9]
    simp [beq_eq_false_iff_ne.2 h9]
  rw [if_pos h9]
  have e9 := beq_iff_eq.2 h9
  by_cases h10 : x.lockMachine = y.lockMachine
  rotate_left
  · rw [if_neg h10]
    simp [beq_eq_false_iff_ne.2 h10]
  rw [if_pos h10]
  have e10 := beq_iff_eq.2 h10
  by_cases h11 : x.lockSerial = y.lockSerial
  rotate_left
  · rw [if_neg h11]
    simp [beq_eq_false_iff_ne.2 h11]
  rw [if_pos h11]
  have e11 := beq_iff_eq.2 h11
  simp only [e0, e1, e2, e3, e4, e5, e6, e7, e8, e9, e10, e11]
  rfl
set_option maxHeartbeats 800000 in
theorem run_neq_StubE (x y : StubE) (w : World) : (binOp .neq 42 x.v y.v).run Try.prog w = .ok (.bool (!StubE.beq x y)) w := by
  have ht : Try.prog.underlying 42 = some (.struct (Try.prog.fieldsOf 42)) := by kernel_rfl
  have hp : Try.prog.stoodInHeld 42 = false := by kernel_rfl
  have hu := Try.underlying42
  rw [run_neq_struct, run_equalIn_struct w 9999 42 _ _ ht hp]
  obtain ⟨fs, hfs⟩ : ∃ fs, Try.prog.fieldsOf 42 = fs := ⟨_, rfl⟩
  rw [hfs] at ht ⊢
  rw [hu] at ht
  have ht2 := TypeDesc.struct.inj (Option.some.inj ht)
  subst ht2
  simp only [Op.eqFields, ne_eq]
  simp [go_sem, StubE.beq]
  clear hfs hu ht hp
  by_cases h0 : x.owner = y.owner
  rotate_left
  · rw [if_neg h0]
    simp [beq_eq_false_iff_ne.2 h0]
  rw [if_pos h0]
  have e0 := beq_iff_eq.2 h0
  by_cases h1 : x.number = y.number
  rotate_left
  · rw [if_neg h1]
    simp [beq_eq_false_iff_ne.2 h1]
  rw [if_pos h1]
  have e1 := beq_iff_eq.2 h1
  by_cases h2 : x.iDMachine = y.iDMachine
  rotate_left
  · rw [if_neg h2]
    simp [beq_eq_false_iff_ne.2 h2]
  rw [if_pos h2]
  have e2 := beq_iff_eq.2 h2
  by_cases h3 : x.iDSerial = y.iDSerial
  rotate_left
  · rw [if_neg h3]
    simp [beq_eq_false_iff_ne.2 h3]
  rw [if_pos h3]
  have e3 := beq_iff_eq.2 h3
  by_cases h4 : x.clas = y.clas
  rotate_left
  · rw [if_neg h4]
    simp [beq_eq_false_iff_ne.2 h4]
  rw [if_pos h4]
  have e4 := beq_iff_eq.2 h4
  by_cases h5 : x.lastUse = y.lastUse
  rotate_left
  · rw [if_neg h5]
    simp [beq_eq_false_iff_ne.2 h5]
  rw [if_pos h5]
  have e5 := beq_iff_eq.2 h5
  by_cases h6 : x.distance = y.distance
  rotate_left
  · rw [if_neg h6]
    simp [beq_eq_false_iff_ne.2 h6]
  rw [if_pos h6]
  have e6 := beq_iff_eq.2 h6
  by_cases h7 : x.touched = y.touched
  rotate_left
  · rw [if_neg h7]
    simp [beq_eq_false_iff_ne.2 h7]
  rw [if_pos h7]
  have e7 := beq_iff_eq.2 h7
  by_cases h8 : x.weak = y.weak
  rotate_left
  · rw [if_neg h8]
    simp [beq_eq_false_iff_ne.2 h8]
  rw [if_pos h8]
  have e8 := beq_iff_eq.2 h8
  by_cases h9 : x.dead = y.dead
  rotate_left
  · rw [if_neg h9]
    simp [beq_eq_false_iff_ne.2 h9]
  rw [if_pos h9]
  have e9 := beq_iff_eq.2 h9
  by_cases h10 : x.lockMachine = y.lockMachine
  rotate_left
  · rw [if_neg h10]
    simp [beq_eq_false_iff_ne.2 h10]
  rw [if_pos h10]
  have e10 := beq_iff_eq.2 h10
  by_cases h11 : x.lockSerial = y.lockSerial
  rotate_left
  · rw [if_neg h11]
    simp [beq_eq_false_iff_ne.2 h11]
  rw [if_pos h11]
  have e11 := beq_iff_eq.2 h11
  simp only [e0, e1, e2, e3, e4, e5, e6, e7, e8, e9, e10, e11]
  rfl
set_option maxHeartbeats 800000 in
theorem run_eql_ScionE (x y : ScionE) (w : World) : (binOp .eql 45 x.v y.v).run Try.prog w = .ok (.bool (ScionE.beq x y)) w := by
  have ht : Try.prog.underlying 45 = some (.struct (Try.prog.fieldsOf 45)) := by kernel_rfl
  have hp : Try.prog.stoodInHeld 45 = false := by kernel_rfl
  have hu := Try.underlying45
  rw [run_eql_struct, run_equalIn_struct w 9999 45 _ _ ht hp]
  obtain ⟨fs, hfs⟩ : ∃ fs, Try.prog.fieldsOf 45 = fs := ⟨_, rfl⟩
  rw [hfs] at ht ⊢
  rw [hu] at ht
  have ht2 := TypeDesc.struct.inj (Option.some.inj ht)
  subst ht2
  simp only [Op.eqFields, ne_eq]
  simp [go_sem, ScionE.beq]
  clear hfs hu ht hp
  by_cases h0 : x.client = y.client
  rotate_left
  · rw [if_neg h0]
    simp [beq_eq_false_iff_ne.2 h0]
  rw [if_pos h0]
  have e0 := beq_iff_eq.2 h0
  by_cases h1 : x.number = y.number
  rotate_left
  · rw [if_neg h1]
    simp [beq_eq_false_iff_ne.2 h1]
  rw [if_pos h1]
  have e1 := beq_iff_eq.2 h1
  by_cases h2 : x.iDMachine = y.iDMachine
  rotate_left
  · rw [if_neg h2]
    simp [beq_eq_false_iff_ne.2 h2]
  rw [if_pos h2]
  have e2 := beq_iff_eq.2 h2
  by_cases h3 : x.iDSerial = y.iDSerial
  rotate_left
  · rw [if_neg h3]
    simp [beq_eq_false_iff_ne.2 h3]
  rw [if_pos h3]
  have e3 := beq_iff_eq.2 h3
  by_cases h4 : x.out = y.out
  rotate_left
  · rw [if_neg h4]
    simp [beq_eq_false_iff_ne.2 h4]
  rw [if_pos h4]
  have e4 := beq_iff_eq.2 h4
  by_cases h5 : x.inn = y.inn
  rotate_left
  · rw [if_neg h5]
    simp [beq_eq_false_iff_ne.2 h5]
  rw [if_pos h5]
  have e5 := beq_iff_eq.2 h5
  by_cases h6 : x.distance = y.distance
  rotate_left
  · rw [if_neg h6]
    simp [beq_eq_false_iff_ne.2 h6]
  rw [if_pos h6]
  have e6 := beq_iff_eq.2 h6
  by_cases h7 : x.touched = y.touched
  rotate_left
  · rw [if_neg h7]
    simp [beq_eq_false_iff_ne.2 h7]
  rw [if_pos h7]
  have e7 := beq_iff_eq.2 h7
  by_cases h8 : x.weak = y.weak
  rotate_left
  · rw [if_neg h8]
    simp [beq_eq_false_iff_ne.2 h8]
  rw [if_pos h8]
  have e8 := beq_iff_eq.2 h8
  by_cases h9 : x.garbage = y.garbage
  rotate_left
  · rw [if_neg h9]
    simp [beq_eq_false_iff_ne.2 h9]
  rw [if_pos h9]
  have e9 := beq_iff_eq.2 h9
  by_cases h10 : x.lockMachine = y.lockMachine
  rotate_left
  · rw [if_neg h10]
    simp [beq_eq_false_iff_ne.2 h10]
  rw [if_pos h10]
  have e10 := beq_iff_eq.2 h10
  by_cases h11 : x.lockSerial = y.lockSerial
  rotate_left
  · rw [if_neg h11]
    simp [beq_eq_false_iff_ne.2 h11]
  rw [if_pos h11]
  have e11 := beq_iff_eq.2 h11
  simp only [e0, e1, e2, e3, e4, e5, e6, e7, e8, e9, e10, e11]
  rfl
set_option maxHeartbeats 800000 in
theorem run_neq_ScionE (x y : ScionE) (w : World) : (binOp .neq 45 x.v y.v).run Try.prog w = .ok (.bool (!ScionE.beq x y)) w := by
  have ht : Try.prog.underlying 45 = some (.struct (Try.prog.fieldsOf 45)) := by kernel_rfl
  have hp : Try.prog.stoodInHeld 45 = false := by kernel_rfl
  have hu := Try.underlying45
  rw [run_neq_struct, run_equalIn_struct w 9999 45 _ _ ht hp]
  obtain ⟨fs, hfs⟩ : ∃ fs, Try.prog.fieldsOf 45 = fs := ⟨_, rfl⟩
  rw [hfs] at ht ⊢
  rw [hu] at ht
  have ht2 := TypeDesc.struct.inj (Option.some.inj ht)
  subst ht2
  simp only [Op.eqFields, ne_eq]
  simp [go_sem, ScionE.beq]
  clear hfs hu ht hp
  by_cases h0 : x.client = y.client
  rotate_left
  · rw [if_neg h0]
    simp [beq_eq_false_iff_ne.2 h0]
  rw [if_pos h0]
  have e0 := beq_iff_eq.2 h0
  by_cases h1 : x.number = y.number
  rotate_left
  · rw [if_neg h1]
    simp [beq_eq_false_iff_ne.2 h1]
  rw [if_pos h1]
  have e1 := beq_iff_eq.2 h1
  by_cases h2 : x.iDMachine = y.iDMachine
  rotate_left
  · rw [if_neg h2]
    simp [beq_eq_false_iff_ne.2 h2]
  rw [if_pos h2]
  have e2 := beq_iff_eq.2 h2
  by_cases h3 : x.iDSerial = y.iDSerial
  rotate_left
  · rw [if_neg h3]
    simp [beq_eq_false_iff_ne.2 h3]
  rw [if_pos h3]
  have e3 := beq_iff_eq.2 h3
  by_cases h4 : x.out = y.out
  rotate_left
  · rw [if_neg h4]
    simp [beq_eq_false_iff_ne.2 h4]
  rw [if_pos h4]
  have e4 := beq_iff_eq.2 h4
  by_cases h5 : x.inn = y.inn
  rotate_left
  · rw [if_neg h5]
    simp [beq_eq_false_iff_ne.2 h5]
  rw [if_pos h5]
  have e5 := beq_iff_eq.2 h5
  by_cases h6 : x.distance = y.distance
  rotate_left
  · rw [if_neg h6]
    simp [beq_eq_false_iff_ne.2 h6]
  rw [if_pos h6]
  have e6 := beq_iff_eq.2 h6
  by_cases h7 : x.touched = y.touched
  rotate_left
  · rw [if_neg h7]
    simp [beq_eq_false_iff_ne.2 h7]
  rw [if_pos h7]
  have e7 := beq_iff_eq.2 h7
  by_cases h8 : x.weak = y.weak
  rotate_left
  · rw [if_neg h8]
    simp [beq_eq_false_iff_ne.2 h8]
  rw [if_pos h8]
  have e8 := beq_iff_eq.2 h8
  by_cases h9 : x.garbage = y.garbage
  rotate_left
  · rw [if_neg h9]
    simp [beq_eq_false_iff_ne.2 h9]
  rw [if_pos h9]
  have e9 := beq_iff_eq.2 h9
  by_cases h10 : x.lockMachine = y.lockMachine
  rotate_left
  · rw [if_neg h10]
    simp [beq_eq_false_iff_ne.2 h10]
  rw [if_pos h10]
  have e10 := beq_iff_eq.2 h10
  by_cases h11 : x.lockSerial = y.lockSerial
  rotate_left
  · rw [if_neg h11]
    simp [beq_eq_false_iff_ne.2 h11]
  rw [if_pos h11]
  have e11 := beq_iff_eq.2 h11
  simp only [e0, e1, e2, e3, e4, e5, e6, e7, e8, e9, e10, e11]
  rfl

/-- Two lists, element by element. -/
theorem eq_to {α : Type} {a b : List α} (hl : a.length = b.length) (h : ∀ (j : Nat) (x y : α), a[j]? = some x → b[j]? = some y → x = y) : a = b := by
  apply List.ext_getElem?
  intro i
  rcases Nat.lt_or_ge i a.length with hi | hi
  · rw [List.getElem?_eq_getElem hi, List.getElem?_eq_getElem (by omega)]
    exact congrArg some (h i _ _ (List.getElem?_eq_getElem hi) (List.getElem?_eq_getElem (by omega)))
  · rw [List.getElem?_eq_none hi, List.getElem?_eq_none (by omega)]

set_option maxHeartbeats 800000 in
attribute [local go_sem ↓] run_neq_StubE in
theorem refStubs_any (aA : Option Addr) (aC : Nat) (a : List StubE) (bA : Option Addr) (bC : Nat) (b : List StubE) (w : World) (ha : SlAt StubE.cells 12 w aA a) (hb : SlAt StubE.cells 12 w bA b) (hal : a.length ≤ 9223372036854775807) (_ : b.length ≤ 9223372036854775807) :
    Calls Try.prog 23 #[.slice aA a.length aC, .slice bA b.length bC] w fun r w' => ∃ q : Bool, r = .returned (.bool q) ∧ (q = true ↔ a = b) ∧ Below w.heap.size w w' := by
  by_cases hl : a.length = b.length
  rotate_left
  · have hl' : ¬ (a.length : Int) = (b.length : Int) := by omega
    have Hl := hide hl
    clear hl
    go_enter Try.func23, Try.ntmps23
    go_wp2
    go_ret
    exact ⟨false, rfl, ⟨(fun h => by cases h), fun h => absurd (congrArg List.length h) Hl.out⟩, Below.refl _ _⟩
  have Hl := hide hl
  have hl' : ((a.length : Int) != (b.length : Int)) = false := by simp [hl]
  clear hl
  go_enter Try.func23, Try.ntmps23
  go_wp2
  go_loopw [5] (fun i wr => ∃ k : Nat, k ≤ a.length ∧ i = .int .i64 k ∧ (∀ (j : Nat) (x y : StubE), j < k → a[j]? = some x → b[j]? = some y → x = y) ∧ Below w.heap.size w wr) (fun i _ => a.length - (intOf i).toNat)
  case atStart => exact ⟨0, by omega, rfl, fun j _ _ h => absurd h (by omega), Below.refl _ _⟩
  case round =>
    obtain ⟨k, hk, rfl, hall, hbw⟩ := hrel
    by_cases hlt : k < a.length
    · have hlt2 : k < b.length := by rw [← Hl.out]; exact hlt
      obtain ⟨g1, o1, x, rfl, hbk1, hx, hc1⟩ := (ha.below hbw).at_ hlt
      obtain ⟨g2, o2, y, rfl, hbk2, hy, hc2⟩ := (hb.below hbw).at_ hlt2
      obtain ⟨e0, e1, e2, e3, e4, e5, e6, e7, e8, e9, e10, e11⟩ := StubE.facts hc1
      obtain ⟨f0, f1, f2, f3, f4, f5, f6, f7, f8, f9, f10, f11⟩ := StubE.facts hc2
      have p0 := After.cell e0
      have p1 := After.cell e1
      have p2 := After.cell e2
      have p3 := After.cell e3
      have p4 := After.cell e4
      have p5 := After.cell e5
      have p6 := After.cell e6
      have p7 := After.cell e7
      have p8 := After.cell e8
      have p9 := After.cell e9
      have p10 := After.cell e10
      have p11 := After.cell e11
      have q0 := After.cell f0
      have q1 := After.cell f1
      have q2 := After.cell f2
      have q3 := After.cell f3
      have q4 := After.cell f4
      have q5 := After.cell f5
      have q6 := After.cell f6
      have q7 := After.cell f7
      have q8 := After.cell f8
      have q9 := After.cell f9
      have q10 := After.cell f10
      have q11 := After.cell f11
      have Hall := hide hall
      have Hx := hide hx
      have Hy := hide hy
      clear hc1 hc2 e0 e1 e2 e3 e4 e5 e6 e7 e8 e9 e10 e11 f0 f1 f2 f3 f4 f5 f6 f7 f8 f9 f10 f11 hall hx hy
      go_wp2
      (refine wp_region_after (by kernel_rfl) (by kernel_rfl) ?_
       repeat (any_goals (first | go_big_quiet_skip | (go_big_quiet_want; go_big_quiet_op; first | go_big_quiet_on | go_big_quiet_call (fail)) | quiet_step (fail) | (refine wpQuiet_step (fun K hK => ?_); go_simp; split <;> (refine hK _ ?_; clear hK K))))
       all_goals (refine wpQuiet_nil ?_; intro _ hw'; obtain ⟨u', hw''⟩ := hw'; subst hw''; obtain ⟨wd, hbd⟩ := u'; simp only [After.val_mk]))
      cases hq : StubE.beq x y
      · have hne : ¬ x = y := fun h => by rw [StubE.beq_iff.2 h] at hq; cases hq
        go_wp2
        go_ret
        exact ⟨false, rfl, ⟨(fun h => by cases h), (fun h => absurd (by have h1 := Hx.out; have h2 := Hy.out; rw [h] at h1; rw [h1] at h2; injection h2) hne)⟩, hbw.trans (hbd.mono hbw.size)⟩
      · have hxy := hide (StubE.beq_iff.1 hq)
        go_wp2
        go_roundw
        case rel =>
          refine ⟨k + 1, by omega, by go_num, fun j x' y' hj hx' hy' => ?_, hbw.trans (hbd.mono hbw.size)⟩
          rcases Nat.lt_or_ge j k with h | h
          · exact Hall.out j x' y' h hx' hy'
          · have : j = k := by omega
            subst this
            have h1 := Hx.out
            have h2 := Hy.out
            rw [h1] at hx'
            rw [h2] at hy'
            injection hx' with hx'
            injection hy' with hy'
            rw [← hx', ← hy']
            exact hxy.out
        case measure => simp [intOf]; omega
    · have hk' : k = a.length := by omega
      subst hk'
      have Hall := hide hall
      clear hall
      go_wp2
      go_ret
      exact ⟨true, rfl, ⟨fun _ => eq_to Hl.out fun j x y hx hy => Hall.out j x y (List.getElem?_eq_some_iff.1 hx).1 hx hy, fun _ => rfl⟩, hbw⟩

set_option maxHeartbeats 800000 in
attribute [local go_sem ↓] run_neq_ScionE in
theorem refScions_any (aA : Option Addr) (aC : Nat) (a : List ScionE) (bA : Option Addr) (bC : Nat) (b : List ScionE) (w : World) (ha : SlAt ScionE.cells 12 w aA a) (hb : SlAt ScionE.cells 12 w bA b) (hal : a.length ≤ 9223372036854775807) (_ : b.length ≤ 9223372036854775807) :
    Calls Try.prog 24 #[.slice aA a.length aC, .slice bA b.length bC] w fun r w' => ∃ q : Bool, r = .returned (.bool q) ∧ (q = true ↔ a = b) ∧ Below w.heap.size w w' := by
  by_cases hl : a.length = b.length
  rotate_left
  · have hl' : ¬ (a.length : Int) = (b.length : Int) := by omega
    have Hl := hide hl
    clear hl
    go_enter Try.func24, Try.ntmps24
    go_wp2
    go_ret
    exact ⟨false, rfl, ⟨(fun h => by cases h), fun h => absurd (congrArg List.length h) Hl.out⟩, Below.refl _ _⟩
  have Hl := hide hl
  have hl' : ((a.length : Int) != (b.length : Int)) = false := by simp [hl]
  clear hl
  go_enter Try.func24, Try.ntmps24
  go_wp2
  go_loopw [5] (fun i wr => ∃ k : Nat, k ≤ a.length ∧ i = .int .i64 k ∧ (∀ (j : Nat) (x y : ScionE), j < k → a[j]? = some x → b[j]? = some y → x = y) ∧ Below w.heap.size w wr) (fun i _ => a.length - (intOf i).toNat)
  case atStart => exact ⟨0, by omega, rfl, fun j _ _ h => absurd h (by omega), Below.refl _ _⟩
  case round =>
    obtain ⟨k, hk, rfl, hall, hbw⟩ := hrel
    by_cases hlt : k < a.length
    · have hlt2 : k < b.length := by rw [← Hl.out]; exact hlt
      obtain ⟨g1, o1, x, rfl, hbk1, hx, hc1⟩ := (ha.below hbw).at_ hlt
      obtain ⟨g2, o2, y, rfl, hbk2, hy, hc2⟩ := (hb.below hbw).at_ hlt2
      obtain ⟨e0, e1, e2, e3, e4, e5, e6, e7, e8, e9, e10, e11⟩ := ScionE.facts hc1
      obtain ⟨f0, f1, f2, f3, f4, f5, f6, f7, f8, f9, f10, f11⟩ := ScionE.facts hc2
      have p0 := After.cell e0
      have p1 := After.cell e1
      have p2 := After.cell e2
      have p3 := After.cell e3
      have p4 := After.cell e4
      have p5 := After.cell e5
      have p6 := After.cell e6
      have p7 := After.cell e7
      have p8 := After.cell e8
      have p9 := After.cell e9
      have p10 := After.cell e10
      have p11 := After.cell e11
      have q0 := After.cell f0
      have q1 := After.cell f1
      have q2 := After.cell f2
      have q3 := After.cell f3
      have q4 := After.cell f4
      have q5 := After.cell f5
      have q6 := After.cell f6
      have q7 := After.cell f7
      have q8 := After.cell f8
      have q9 := After.cell f9
      have q10 := After.cell f10
      have q11 := After.cell f11
      have Hall := hide hall
      have Hx := hide hx
      have Hy := hide hy
      clear hc1 hc2 e0 e1 e2 e3 e4 e5 e6 e7 e8 e9 e10 e11 f0 f1 f2 f3 f4 f5 f6 f7 f8 f9 f10 f11 hall hx hy
      go_wp2
      (refine wp_region_after (by kernel_rfl) (by kernel_rfl) ?_
       repeat (any_goals (first | go_big_quiet_skip | (go_big_quiet_want; go_big_quiet_op; first | go_big_quiet_on | go_big_quiet_call (fail)) | quiet_step (fail) | (refine wpQuiet_step (fun K hK => ?_); go_simp; split <;> (refine hK _ ?_; clear hK K))))
       all_goals (refine wpQuiet_nil ?_; intro _ hw'; obtain ⟨u', hw''⟩ := hw'; subst hw''; obtain ⟨wd, hbd⟩ := u'; simp only [After.val_mk]))
      cases hq : ScionE.beq x y
      · have hne : ¬ x = y := fun h => by rw [ScionE.beq_iff.2 h] at hq; cases hq
        go_wp2
        go_ret
        exact ⟨false, rfl, ⟨(fun h => by cases h), (fun h => absurd (by have h1 := Hx.out; have h2 := Hy.out; rw [h] at h1; rw [h1] at h2; injection h2) hne)⟩, hbw.trans (hbd.mono hbw.size)⟩
      · have hxy := hide (ScionE.beq_iff.1 hq)
        go_wp2
        go_roundw
        case rel =>
          refine ⟨k + 1, by omega, by go_num, fun j x' y' hj hx' hy' => ?_, hbw.trans (hbd.mono hbw.size)⟩
          rcases Nat.lt_or_ge j k with h | h
          · exact Hall.out j x' y' h hx' hy'
          · have : j = k := by omega
            subst this
            have h1 := Hx.out
            have h2 := Hy.out
            rw [h1] at hx'
            rw [h2] at hy'
            injection hx' with hx'
            injection hy' with hy'
            rw [← hx', ← hy']
            exact hxy.out
        case measure => simp [intOf]; omega
    · have hk' : k = a.length := by omega
      subst hk'
      have Hall := hide hall
      clear hall
      go_wp2
      go_ret
      exact ⟨true, rfl, ⟨fun _ => eq_to Hl.out fun j x y hx hy => Hall.out j x y (List.getElem?_eq_some_iff.1 hx).1 hx hy, fun _ => rfl⟩, hbw⟩

set_option maxHeartbeats 800000 in
theorem lawlock_any (c : ClaimV) (t : TraceE) (x : TablesV) (w : World) (hc : c.at_ w) (hx : x.at_ w) (hsl : x.stubs.length ≤ 100000000) (hnl : x.scions.length ≤ 100000000) :
    Calls Try.prog 17 #[c.v, t.v, x.v] w fun r w' => ∃ y : TablesV, r = .returned y.v ∧ y.at_ w' ∧ y.stubs = lockStubs t c.stubs x.stubs ∧ y.scions = lockScions t c.scions x.scions ∧ y.epoch = x.epoch ∧ y.received = x.received ∧ y.rA = x.rA ∧ y.rC = x.rC ∧ Below w.heap.size w w' := by
  go_enter Try.func17, Try.ntmps17
  go_wp2_with fail
  refine (lock_any c t x.sA x.sC x.stubs x.nA x.nC x.scions _ (hc.below (by repeat (first | with_reducible exact Below.refl _ _ | (with_reducible refine Below.drew ?_) | (with_reducible refine below_drewN ?_ _) | (with_reducible refine Below.alloc ?_ ?_ _; rotate_left; (first | omega | (simp <;> omega))) | (with_reducible refine Below.setCell ?_ ?_ _; rotate_left; (first | omega | (simp <;> omega)))))) (hx.s.below (by repeat (first | with_reducible exact Below.refl _ _ | (with_reducible refine Below.drew ?_) | (with_reducible refine below_drewN ?_ _) | (with_reducible refine Below.alloc ?_ ?_ _; rotate_left; (first | omega | (simp <;> omega))) | (with_reducible refine Below.setCell ?_ ?_ _; rotate_left; (first | omega | (simp <;> omega)))))) (hx.n.below (by repeat (first | with_reducible exact Below.refl _ _ | (with_reducible refine Below.drew ?_) | (with_reducible refine below_drewN ?_ _) | (with_reducible refine Below.alloc ?_ ?_ _; rotate_left; (first | omega | (simp <;> omega))) | (with_reducible refine Below.setCell ?_ ?_ _; rotate_left; (first | omega | (simp <;> omega)))))) hsl hnl).mono ?_
  rintro r w1 ⟨v1, v2, rfl, ho1, ho2, hb⟩
  have hb1 : Below w.heap.size w w1 := (Below.trans (by repeat (first | with_reducible exact Below.refl _ _ | (with_reducible refine Below.drew ?_) | (with_reducible refine below_drewN ?_ _) | (with_reducible refine Below.alloc ?_ ?_ _; rotate_left; (first | omega | (simp <;> omega))) | (with_reducible refine Below.setCell ?_ ?_ _; rotate_left; (first | omega | (simp <;> omega))))) (hb.mono (by first | omega | (simp <;> omega))))
  obtain ⟨sA, sC, rfl, -, hsC, hs1⟩ := ho1.slAt StubE.enc
  obtain ⟨nA, nC, rfl, -, hnC, hn1⟩ := ho2.slAt ScionE.enc
  have X := blk_below (g := w.heap.size + 1 + 1) (o := .cells #[.slice x.sA x.stubs.length x.sC, .slice x.nA x.scions.length x.nC, .int .i64 x.epoch, .slice x.rA x.received.length x.rC] 31 (0, 0)) (w' := w1) (by simp only [heap_alloc_if, World.size_alloc]; repeat (first | rw [if_pos trivial] | rw [if_neg (by omega)] | rw [if_pos (by omega)])) hb
  have R := blk_below (g := w.heap.size + 1 + 1 + 1) (o := .cells #[.slice none 0 0, .slice none 0 0, .int .i64 0, .slice none 0 0] 31 (0, 0)) (w' := w1) (by simp only [heap_alloc_if, World.size_alloc]; repeat (first | rw [if_pos trivial] | rw [if_neg (by omega)] | rw [if_pos (by omega)])) hb
  have hlX := blk_lt X
  have hlR := blk_lt R
  have x0 := blk_cell X 0
  have x1 := blk_cell X 1
  have x2 := blk_cell X 2
  have x3 := blk_cell X 3
  have r0 := blk_cell R 0
  have r1 := blk_cell R 1
  have r2 := blk_cell R 2
  have r3 := blk_cell R 3
  have fx := fun i => blk_free X i
  have fr := fun i => blk_free R i
  simp at x0 x1 x2 x3 r0 r1 r2 r3
  have HX := hide X
  have HR := hide R
  clear X R hb
  go_wp2_with fail
  refine bodyPost_ret (v := TablesV.v ⟨sA, sC, lockStubs t c.stubs x.stubs, nA, nC, lockScions t c.scions x.scions, x.epoch, x.rA, x.rC, x.received⟩) (by simp [results, Try.results17, go_sem, r0, r1, r2, r3]) rfl ⟨_, rfl, ⟨?_, ?_, hx.r.below ?_, ?_, ?_, hx.rl⟩, rfl, rfl, rfl, rfl, rfl, rfl, ?_⟩
  · refine ((ho1.of_heap fun k hk => ?_).at_ StubE.enc).2.2
    simp only [World.size_alloc] at hk
    repeat rw [Below.heap_setCell _ _ _ _ (by first | omega | (simp; omega))]
  · refine ((ho2.of_heap fun k hk => ?_).at_ ScionE.enc).2.2
    simp only [World.size_alloc] at hk
    repeat rw [Below.heap_setCell _ _ _ _ (by first | omega | (simp; omega))]
  · exact (by repeat (first | with_reducible exact hb1 | with_reducible exact Below.refl _ _ | (with_reducible refine Below.drew ?_) | (with_reducible refine below_drewN ?_ _) | (with_reducible refine Below.alloc ?_ ?_ _; rotate_left; (first | omega | (simp <;> omega))) | (with_reducible refine Below.setCell ?_ ?_ _; rotate_left; (first | omega | (simp <;> omega)))))
  · have := hsC; have := (ho1.at_ StubE.enc).2.1; simp only [maxLen] at *; omega
  · have := hnC; have := (ho2.at_ ScionE.enc).2.1; simp only [maxLen] at *; omega
  · exact (by repeat (first | with_reducible exact hb1 | with_reducible exact Below.refl _ _ | (with_reducible refine Below.drew ?_) | (with_reducible refine below_drewN ?_ _) | (with_reducible refine Below.alloc ?_ ?_ _; rotate_left; (first | omega | (simp <;> omega))) | (with_reducible refine Below.setCell ?_ ?_ _; rotate_left; (first | omega | (simp <;> omega)))))

set_option maxHeartbeats 400000 in
theorem lawsame_any (x y : TablesV) (w : World) (hx : x.at_ w) (hy : y.at_ w) :
    Calls Try.prog 20 #[x.v, y.v] w fun r w' => ∃ q : Bool, r = .returned (.bool q) ∧ (q = true ↔ x.stubs = y.stubs ∧ x.scions = y.scions) ∧ Below w.heap.size w w' := by
  go_enter Try.func20, Try.ntmps20
  go_wp2_with fail
  refine (refStubs_any x.sA x.sC x.stubs y.sA y.sC y.stubs _ (hx.s.below (by repeat (first | with_reducible exact Below.refl _ _ | (with_reducible refine Below.drew ?_) | (with_reducible refine below_drewN ?_ _) | (with_reducible refine Below.alloc ?_ ?_ _; rotate_left; (first | omega | (simp <;> omega))) | (with_reducible refine Below.setCell ?_ ?_ _; rotate_left; (first | omega | (simp <;> omega)))))) (hy.s.below (by repeat (first | with_reducible exact Below.refl _ _ | (with_reducible refine Below.drew ?_) | (with_reducible refine below_drewN ?_ _) | (with_reducible refine Below.alloc ?_ ?_ _; rotate_left; (first | omega | (simp <;> omega))) | (with_reducible refine Below.setCell ?_ ?_ _; rotate_left; (first | omega | (simp <;> omega)))))) hx.sl hy.sl).mono ?_
  rintro r w1 ⟨q, rfl, hq, hb⟩
  have hb1 : Below w.heap.size w w1 := (Below.trans (by repeat (first | with_reducible exact Below.refl _ _ | (with_reducible refine Below.drew ?_) | (with_reducible refine below_drewN ?_ _) | (with_reducible refine Below.alloc ?_ ?_ _; rotate_left; (first | omega | (simp <;> omega))) | (with_reducible refine Below.setCell ?_ ?_ _; rotate_left; (first | omega | (simp <;> omega))))) (hb.mono (by first | omega | (simp <;> omega))))
  have c1 : w1.cell? ⟨w.heap.size, 1, none⟩ = some (.slice x.nA x.scions.length x.nC) := cell_below (by simp [go_sem]) hb
  have d1 : w1.cell? ⟨w.heap.size + 1, 1, none⟩ = some (.slice y.nA y.scions.length y.nC) := cell_below (by simp [go_sem]) hb
  cases q
  · have Hq := hide (show ¬ x.stubs = y.stubs from fun h => by have := hq.2 h; cases this)
    clear hq hb
    go_wp2_with fail
    go_ret
    exact ⟨false, rfl, ⟨(fun h => by cases h), (fun h => absurd h.1 Hq.out)⟩, hb1⟩
  · have Hq := hide (hq.1 rfl)
    clear hq hb
    go_wp2_with fail
    refine (refScions_any x.nA x.nC x.scions y.nA y.nC y.scions _ (hx.n.below hb1) (hy.n.below hb1) hx.nl hy.nl).mono ?_
    rintro r w2 ⟨q, rfl, hq, hb2⟩
    have Hq2 := hide hq
    clear hq
    go_wp2_with fail
    go_ret
    exact ⟨q, rfl, by rw [Hq2.out]; exact ⟨fun h => ⟨Hq.out, h⟩, fun h => h.2⟩, hb1.trans (hb2.mono hb1.size)⟩

end Go.Proofs.Ytnjpmpelgigmjaa
