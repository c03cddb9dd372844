/-
  Contracts of the functions of this seat that each theorem names: what a call returns, and that it writes nothing that was there before. The conditions stand in each theorem.
-/
import Derived.Test.YtgddapgdeaeggaaC23Data
namespace Go.Proofs.Ytgddapgdeaeggaa
open Go.RowKit
set_option maxHeartbeats 800000 in
theorem run_eql_TraceE (x y : TraceE) (w : World) : (binOp .eql 35 x.v y.v).run Try.prog w = .ok (.bool (TraceE.beq x y)) w := by
  have ht : Try.prog.underlying 35 = some (.struct (Try.prog.fieldsOf 35)) := by kernel_rfl
  have hp : Try.prog.stoodInHeld 35 = false := by kernel_rfl
  have hu := Try.underlying35
  rw [run_eql_struct, run_equalIn_struct w 9999 35 _ _ ht hp]
  obtain ⟨fs, hfs⟩ : ∃ fs, Try.prog.fieldsOf 35 = fs := ⟨_, rfl⟩
  rw [hfs] at ht ⊢
  rw [hu] at ht
  have ht2 := TypeDesc.struct.inj (Option.some.inj ht)
  subst ht2
  simp only [Op.eqFields, ne_eq]
  simp [go_sem, TraceE.beq]
  clear hfs hu ht hp
  by_cases h0 : x.machine = y.machine
  rotate_left
  · rw [if_neg h0]
    simp [beq_eq_false_iff_ne.2 h0]
  rw [if_pos h0]
  have e0 := beq_iff_eq.2 h0
  by_cases h1 : x.serial = y.serial
  rotate_left
  · rw [if_neg h1]
    simp [beq_eq_false_iff_ne.2 h1]
  rw [if_pos h1]
  have e1 := beq_iff_eq.2 h1
  simp only [e0, e1]
  rfl
set_option maxHeartbeats 800000 in
theorem run_neq_TraceE (x y : TraceE) (w : World) : (binOp .neq 35 x.v y.v).run Try.prog w = .ok (.bool (!TraceE.beq x y)) w := by
  have ht : Try.prog.underlying 35 = some (.struct (Try.prog.fieldsOf 35)) := by kernel_rfl
  have hp : Try.prog.stoodInHeld 35 = false := by kernel_rfl
  have hu := Try.underlying35
  rw [run_neq_struct, run_equalIn_struct w 9999 35 _ _ ht hp]
  obtain ⟨fs, hfs⟩ : ∃ fs, Try.prog.fieldsOf 35 = fs := ⟨_, rfl⟩
  rw [hfs] at ht ⊢
  rw [hu] at ht
  have ht2 := TypeDesc.struct.inj (Option.some.inj ht)
  subst ht2
  simp only [Op.eqFields, ne_eq]
  simp [go_sem, TraceE.beq]
  clear hfs hu ht hp
  by_cases h0 : x.machine = y.machine
  rotate_left
  · rw [if_neg h0]
    simp [beq_eq_false_iff_ne.2 h0]
  rw [if_pos h0]
  have e0 := beq_iff_eq.2 h0
  by_cases h1 : x.serial = y.serial
  rotate_left
  · rw [if_neg h1]
    simp [beq_eq_false_iff_ne.2 h1]
  rw [if_pos h1]
  have e1 := beq_iff_eq.2 h1
  simp only [e0, e1]
  rfl
def validID (m s : Int) : Bool := decide (1 ≤ m) && (decide (m ≤ 8) && (decide (1 ≤ s) && decide (s ≤ 1099511627775)))
def zeroLock (m s : Int) : Bool := m == 0 && s == 0
def validLock (m s : Int) : Bool := zeroLock m s || (decide (1 ≤ m) && (decide (m ≤ 8) && decide (1 ≤ s)))
def validE (e : StubE) : Bool := decide (1 ≤ e.owner) && (decide (e.owner ≤ 8) && (validID e.iDMachine e.iDSerial && (decide (0 ≤ e.clas) && (decide (e.clas ≤ 60) && (decide (0 ≤ e.lastUse) && (decide (0 ≤ e.distance) && validLock e.lockMachine e.lockSerial))))))
theorem run_eql_lock (a b : Int) (w : World) : (binOp .eql 35 (.agg #[.int .i64 a, .int .i64 b]) (.agg #[.int .i64 0, .int .i64 0])).run Try.prog w = .ok (.bool (zeroLock a b)) w := run_eql_TraceE ⟨a, b⟩ ⟨0, 0⟩ w
attribute [local go_sem ↓] run_eql_lock
def zeroE : StubE := ⟨0, 0, 0, 0, 0, 0, 0, false, false, false, 0, 0⟩
theorem zeroStub (w : World) : (zeroValue 37).run Try.prog w = .ok zeroE.v w := by kernel_rfl
set_option maxHeartbeats 1000000 in
theorem idValid_any (m s : Int) (w : World) : Calls Try.prog 75 #[.agg #[.int .i64 m, .int .i64 s]] w fun r w' => r = .returned (.bool (validID m s)) ∧ Below w.heap.size w w' := by
  obtain ⟨b, hb⟩ : ∃ b, b = validID m s := ⟨_, rfl⟩
  rw [← hb]
  have Hb := hide hb
  clear hb
  go_enter Try.func75, Try.ntmps75
  go_wp2
  all_goals go_ret
  all_goals exact ⟨ret_bool (by rw [Hb.out]; simp [validID, *] <;> omega), (by repeat (first | with_reducible exact Below.refl _ _ | (with_reducible refine Below.drew ?_) | (with_reducible refine below_drewN ?_ _) | (with_reducible refine Below.alloc ?_ ?_ _; rotate_left; (first | omega | (simp <;> omega))) | (with_reducible refine Below.setCell ?_ ?_ _; rotate_left; (first | omega | (simp <;> omega)))))⟩
set_option maxHeartbeats 1000000 in
theorem refValidID_any (m s : Int) (w : World) : Calls Try.prog 42 #[.agg #[.int .i64 m, .int .i64 s]] w fun r w' => r = .returned (.bool (validID m s)) ∧ Below w.heap.size w w' := by
  obtain ⟨b, hb⟩ : ∃ b, b = validID m s := ⟨_, rfl⟩
  rw [← hb]
  have Hb := hide hb
  clear hb
  go_enter Try.func42, Try.ntmps42
  go_wp2
  all_goals go_ret
  all_goals exact ⟨ret_bool (by rw [Hb.out]; simp [validID, *] <;> omega), (by repeat (first | with_reducible exact Below.refl _ _ | (with_reducible refine Below.drew ?_) | (with_reducible refine below_drewN ?_ _) | (with_reducible refine Below.alloc ?_ ?_ _; rotate_left; (first | omega | (simp <;> omega))) | (with_reducible refine Below.setCell ?_ ?_ _; rotate_left; (first | omega | (simp <;> omega)))))⟩
set_option maxHeartbeats 1000000 in
theorem refValidLock_any (m s : Int) (w : World) : Calls Try.prog 43 #[.agg #[.int .i64 m, .int .i64 s]] w fun r w' => r = .returned (.bool (validLock m s)) ∧ Below w.heap.size w w' := by
  obtain ⟨b, hb⟩ : ∃ b, b = validLock m s := ⟨_, rfl⟩
  rw [← hb]
  have Hb := hide hb
  clear hb
  go_enter Try.func43, Try.ntmps43
  go_wp2
  all_goals go_ret
  all_goals exact ⟨ret_bool (by rw [Hb.out]; simp [validLock, *] <;> omega), (by repeat (first | with_reducible exact Below.refl _ _ | (with_reducible refine Below.drew ?_) | (with_reducible refine below_drewN ?_ _) | (with_reducible refine Below.alloc ?_ ?_ _; rotate_left; (first | omega | (simp <;> omega))) | (with_reducible refine Below.setCell ?_ ?_ _; rotate_left; (first | omega | (simp <;> omega)))))⟩
set_option maxHeartbeats 1000000 in
theorem keyOf_any (e : StubE) (w : World) : Calls Try.prog 58 #[e.v] w fun r w' => r = .returned (.agg #[.int .i64 e.owner, .int .u64 e.number]) ∧ Below w.heap.size w w' := by
  go_enter Try.func58, Try.ntmps58
  go_wp2_with fail
  refine bodyPost_ret (v := .agg #[.int .i64 e.owner, .int .u64 e.number]) (by simp [results, Try.results58, go_sem]) rfl ⟨rfl, below_of⟩
set_option maxRecDepth 100000 in
set_option maxHeartbeats 4000000 in
theorem refValid_any (e : StubE) (w : World) : Calls Try.prog 17 #[e.v] w fun r w' => r = .returned (.bool (validE e)) ∧ Below w.heap.size w w' := by
  have H1 : ∀ u, Calls Try.prog 42 #[.agg #[.int .i64 e.iDMachine, .int .i64 e.iDSerial]] u fun r w' => r = .returned (.bool (validID e.iDMachine e.iDSerial)) ∧ Below u.heap.size u w' := fun u => refValidID_any _ _ u
  have H2 : ∀ u, Calls Try.prog 43 #[.agg #[.int .i64 e.lockMachine, .int .i64 e.lockSerial]] u fun r w' => r = .returned (.bool (validLock e.lockMachine e.lockSerial)) ∧ Below u.heap.size u w' := fun u => refValidLock_any _ _ u
  obtain ⟨b, hb⟩ : ∃ b, b = validE e := ⟨_, rfl⟩
  rw [← hb]
  unfold validE at hb
  obtain ⟨i, hi⟩ : ∃ i, i = validID e.iDMachine e.iDSerial := ⟨_, rfl⟩
  obtain ⟨k, hk⟩ : ∃ k, k = validLock e.lockMachine e.lockSerial := ⟨_, rfl⟩
  rw [← hi] at H1 hb
  rw [← hk] at H2 hb
  have Hb := hide hb
  clear hb hi hk
  go_enter Try.func17, Try.ntmps17
  go_upto_region 1 with fail
  refine wp_name ?_
  intro w0 hw0
  obtain ⟨B0, l0⟩ := box1 hw0
  clear hw0
  cases i
  · go_wp2_with (go_at_call 42; refine (H1 _).mono ?_; rintro r w1 ⟨rfl, hb1⟩; have l1 := later hb1)
    all_goals go_ret
    all_goals exact ⟨ret_bool (by rw [Hb.out]; simp [*]), below_of⟩
  · cases k
    all_goals
      go_wp2_with (first | (go_at_call 42; refine (H1 _).mono ?_; rintro r w1 ⟨rfl, hb1⟩; have l1 := later hb1) | (go_at_call 43; refine (H2 _).mono ?_; rintro r w2 ⟨rfl, hb2⟩; have l2 := later hb2))
    all_goals go_ret
    all_goals exact ⟨ret_bool (by rw [Hb.out]; simp [*] <;> omega), below_of⟩
end Go.Proofs.Ytgddapgdeaeggaa
