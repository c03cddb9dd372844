/-
  Small texts of this seat, put into one. Conditions stand in each theorem.
-/
import Derived.Test.YtomgdkfoinojiaaS32Plain
import Derived.Test.YtomgdkfoinojiaaGValid
import Derived.Deep.RegionHeld3
namespace Go.Proofs.Ytomgdkfoinojiaa
open Go.RowKit
attribute [local simp] heap_drew
@[ext] structure OneE where
  eClient : Int
  eNumber : Int
  eIDMachine : Int
  eIDSerial : Int
  eOut : Int
  eIn : Int
  eDistance : Int
  eTouched : Bool
  eWeak : Bool
  eGarbage : Bool
  eLockMachine : Int
  eLockSerial : Int
  handle : Int
def OneE.cells (e : OneE) : List Value := [.int .i64 e.eClient, .int .u64 e.eNumber, .int .i64 e.eIDMachine, .int .i64 e.eIDSerial, .int .i64 e.eOut, .int .i64 e.eIn, .int .i64 e.eDistance, .bool e.eTouched, .bool e.eWeak, .bool e.eGarbage, .int .i64 e.eLockMachine, .int .i64 e.eLockSerial, .int .i64 e.handle]
theorem OneE.cells_length (e : OneE) : e.cells.length = 13 := rfl
abbrev OneE.v (e : OneE) : Value := .agg #[.int .i64 e.eClient, .int .u64 e.eNumber, .int .i64 e.eIDMachine, .int .i64 e.eIDSerial, .int .i64 e.eOut, .int .i64 e.eIn, .int .i64 e.eDistance, .bool e.eTouched, .bool e.eWeak, .bool e.eGarbage, .int .i64 e.eLockMachine, .int .i64 e.eLockSerial, .int .i64 e.handle]
abbrev OneE.arr (e : OneE) : Array Value := #[.int .i64 e.eClient, .int .u64 e.eNumber, .int .i64 e.eIDMachine, .int .i64 e.eIDSerial, .int .i64 e.eOut, .int .i64 e.eIn, .int .i64 e.eDistance, .bool e.eTouched, .bool e.eWeak, .bool e.eGarbage, .int .i64 e.eLockMachine, .int .i64 e.eLockSerial, .int .i64 e.handle]
theorem OneE.facts {e : OneE} {w : World} {b off k : Nat} (h : ∀ j u, e.cells[j]? = some u → w.cell? ⟨b, off + k * 13 + j, none⟩ = some u) : w.cell? ⟨b, off + k * 13, none⟩ = some (.int .i64 e.eClient) ∧ w.cell? ⟨b, off + k * 13 + 1, none⟩ = some (.int .u64 e.eNumber) ∧ w.cell? ⟨b, off + k * 13 + 2, none⟩ = some (.int .i64 e.eIDMachine) ∧ w.cell? ⟨b, off + k * 13 + 3, none⟩ = some (.int .i64 e.eIDSerial) ∧ w.cell? ⟨b, off + k * 13 + 4, none⟩ = some (.int .i64 e.eOut) ∧ w.cell? ⟨b, off + k * 13 + 5, none⟩ = some (.int .i64 e.eIn) ∧ w.cell? ⟨b, off + k * 13 + 6, none⟩ = some (.int .i64 e.eDistance) ∧ w.cell? ⟨b, off + k * 13 + 7, none⟩ = some (.bool e.eTouched) ∧ w.cell? ⟨b, off + k * 13 + 8, none⟩ = some (.bool e.eWeak) ∧ w.cell? ⟨b, off + k * 13 + 9, none⟩ = some (.bool e.eGarbage) ∧ w.cell? ⟨b, off + k * 13 + 10, none⟩ = some (.int .i64 e.eLockMachine) ∧ w.cell? ⟨b, off + k * 13 + 11, none⟩ = some (.int .i64 e.eLockSerial) ∧ w.cell? ⟨b, off + k * 13 + 12, none⟩ = some (.int .i64 e.handle) :=
  ⟨by simpa using h 0 _ rfl, by simpa using h 1 _ rfl, by simpa using h 2 _ rfl, by simpa using h 3 _ rfl, by simpa using h 4 _ rfl, by simpa using h 5 _ rfl, by simpa using h 6 _ rfl, by simpa using h 7 _ rfl, by simpa using h 8 _ rfl, by simpa using h 9 _ rfl, by simpa using h 10 _ rfl, by simpa using h 11 _ rfl, by simpa using h 12 _ rfl⟩
/-- The element lies there, in each later world. -/
abbrev OneE.Has (w : World) (b off k : Nat) (e : OneE) : Prop := ∀ (u : World) [Later w u], u.cell? ⟨b, off + k * 13, none⟩ = some (.int .i64 e.eClient) ∧ u.cell? ⟨b, off + k * 13 + 1, none⟩ = some (.int .u64 e.eNumber) ∧ u.cell? ⟨b, off + k * 13 + 2, none⟩ = some (.int .i64 e.eIDMachine) ∧ u.cell? ⟨b, off + k * 13 + 3, none⟩ = some (.int .i64 e.eIDSerial) ∧ u.cell? ⟨b, off + k * 13 + 4, none⟩ = some (.int .i64 e.eOut) ∧ u.cell? ⟨b, off + k * 13 + 5, none⟩ = some (.int .i64 e.eIn) ∧ u.cell? ⟨b, off + k * 13 + 6, none⟩ = some (.int .i64 e.eDistance) ∧ u.cell? ⟨b, off + k * 13 + 7, none⟩ = some (.bool e.eTouched) ∧ u.cell? ⟨b, off + k * 13 + 8, none⟩ = some (.bool e.eWeak) ∧ u.cell? ⟨b, off + k * 13 + 9, none⟩ = some (.bool e.eGarbage) ∧ u.cell? ⟨b, off + k * 13 + 10, none⟩ = some (.int .i64 e.eLockMachine) ∧ u.cell? ⟨b, off + k * 13 + 11, none⟩ = some (.int .i64 e.eLockSerial) ∧ u.cell? ⟨b, off + k * 13 + 12, none⟩ = some (.int .i64 e.handle)
theorem OneE.has {e : OneE} {w : World} {b off k : Nat} (hb : b < w.heap.size) (h : ∀ j u, e.cells[j]? = some u → w.cell? ⟨b, off + k * 13 + j, none⟩ = some u) : OneE.Has w b off k e := fun u i => OneE.facts fun j v hv => (i.below.cell (p := ⟨b, _, none⟩) hb).trans (h j v hv)
theorem OneE.get {w : World} {A : Option Addr} {l : List OneE} (h : SlAt OneE.cells 13 w A l) {k : Nat} (hk : k < l.length) : ∃ b off x, A = some ⟨b, off, none⟩ ∧ l[k]? = some x ∧ OneE.Has w b off k x := by
  obtain ⟨b, off, x, hA, hb, hx, hc⟩ := h.at_ hk
  exact ⟨b, off, x, hA, hx, OneE.has hb hc⟩
def OneE.beq (x y : OneE) : Bool := x.eClient == y.eClient && x.eNumber == y.eNumber && x.eIDMachine == y.eIDMachine && x.eIDSerial == y.eIDSerial && x.eOut == y.eOut && x.eIn == y.eIn && x.eDistance == y.eDistance && x.eTouched == y.eTouched && x.eWeak == y.eWeak && x.eGarbage == y.eGarbage && x.eLockMachine == y.eLockMachine && x.eLockSerial == y.eLockSerial && x.handle == y.handle
theorem OneE.beq_iff {x y : OneE} : x.beq y = true ↔ x = y := by
  cases x; cases y; simp [OneE.beq, Bool.and_eq_true, and_assoc]
theorem OneE.enc : Enc OneE.cells 13 := ⟨fun _ => rfl, fun x u hu => by simp only [OneE.cells, List.mem_cons, List.not_mem_nil, or_false] at hu; rcases hu with rfl | rfl | rfl | rfl | rfl | rfl | rfl | rfl | rfl | rfl | rfl | rfl | rfl <;> rfl, by decide⟩
theorem oneT : ElemT Try.prog 59 99 13 88 := ElemT.mk' (z := .agg #[.int .i64 0, .int .u64 0, .int .i64 0, .int .i64 0, .int .i64 0, .int .i64 0, .int .i64 0, .bool false, .bool false, .bool false, .int .i64 0, .int .i64 0, .int .i64 0]) Try.underlying59 (by kernel_rfl) rfl
@[ext] structure TrE where
  machine : Int
  serial : Int
def TrE.cells (e : TrE) : List Value := [.int .i64 e.machine, .int .i64 e.serial]
theorem TrE.cells_length (e : TrE) : e.cells.length = 2 := rfl
abbrev TrE.v (e : TrE) : Value := .agg #[.int .i64 e.machine, .int .i64 e.serial]
abbrev TrE.arr (e : TrE) : Array Value := #[.int .i64 e.machine, .int .i64 e.serial]
theorem TrE.facts {e : TrE} {w : World} {b off k : Nat} (h : ∀ j u, e.cells[j]? = some u → w.cell? ⟨b, off + k * 2 + j, none⟩ = some u) : w.cell? ⟨b, off + k * 2, none⟩ = some (.int .i64 e.machine) ∧ w.cell? ⟨b, off + k * 2 + 1, none⟩ = some (.int .i64 e.serial) :=
  ⟨by simpa using h 0 _ rfl, by simpa using h 1 _ rfl⟩
/-- The element lies there, in each later world. -/
abbrev TrE.Has (w : World) (b off k : Nat) (e : TrE) : Prop := ∀ (u : World) [Later w u], u.cell? ⟨b, off + k * 2, none⟩ = some (.int .i64 e.machine) ∧ u.cell? ⟨b, off + k * 2 + 1, none⟩ = some (.int .i64 e.serial)
theorem TrE.has {e : TrE} {w : World} {b off k : Nat} (hb : b < w.heap.size) (h : ∀ j u, e.cells[j]? = some u → w.cell? ⟨b, off + k * 2 + j, none⟩ = some u) : TrE.Has w b off k e := fun u i => TrE.facts fun j v hv => (i.below.cell (p := ⟨b, _, none⟩) hb).trans (h j v hv)
theorem TrE.get {w : World} {A : Option Addr} {l : List TrE} (h : SlAt TrE.cells 2 w A l) {k : Nat} (hk : k < l.length) : ∃ b off x, A = some ⟨b, off, none⟩ ∧ l[k]? = some x ∧ TrE.Has w b off k x := by
  obtain ⟨b, off, x, hA, hb, hx, hc⟩ := h.at_ hk
  exact ⟨b, off, x, hA, hx, TrE.has hb hc⟩
def TrE.beq (x y : TrE) : Bool := x.machine == y.machine && x.serial == y.serial
theorem TrE.beq_iff {x y : TrE} : x.beq y = true ↔ x = y := by
  cases x; cases y; simp [TrE.beq, Bool.and_eq_true, and_assoc]
theorem TrE.enc : Enc TrE.cells 2 := ⟨fun _ => rfl, fun x u hu => by simp only [TrE.cells, List.mem_cons, List.not_mem_nil, or_false] at hu; rcases hu with rfl | rfl <;> rfl, by decide⟩
set_option maxHeartbeats 800000 in
theorem run_eql_TrE (x y : TrE) (w : World) : (binOp .eql 46 x.v y.v).run Try.prog w = .ok (.bool (TrE.beq x y)) w := by
  have ht : Try.prog.underlying 46 = some (.struct (Try.prog.fieldsOf 46)) := by kernel_rfl
  have hp : Try.prog.stoodInHeld 46 = false := by kernel_rfl
  have hu := Try.underlying46
  rw [run_eql_struct, run_equalIn_struct w 9999 46 _ _ ht hp]
  obtain ⟨fs, hfs⟩ : ∃ fs, Try.prog.fieldsOf 46 = fs := ⟨_, rfl⟩
  rw [hfs] at ht ⊢
  rw [hu] at ht
  have ht2 := TypeDesc.struct.inj (Option.some.inj ht)
  subst ht2
  simp only [Op.eqFields, ne_eq]
  simp [go_sem, TrE.beq]
  clear hfs hu ht hp
  by_cases h0 : x.machine = y.machine
  rotate_left
  · rw [if_neg h0]
    simp [beq_eq_false_iff_ne.2 h0]
  rw [if_pos h0]
  have e0 := beq_iff_eq.2 h0
  by_cases h1 : x.serial = y.serial
  rotate_left
  · rw [if_neg h1]
    simp [beq_eq_false_iff_ne.2 h1]
  rw [if_pos h1]
  have e1 := beq_iff_eq.2 h1
  simp only [e0, e1]
  rfl
set_option maxHeartbeats 800000 in
theorem run_neq_TrE (x y : TrE) (w : World) : (binOp .neq 46 x.v y.v).run Try.prog w = .ok (.bool (!TrE.beq x y)) w := by
  have ht : Try.prog.underlying 46 = some (.struct (Try.prog.fieldsOf 46)) := by kernel_rfl
  have hp : Try.prog.stoodInHeld 46 = false := by kernel_rfl
  have hu := Try.underlying46
  rw [run_neq_struct, run_equalIn_struct w 9999 46 _ _ ht hp]
  obtain ⟨fs, hfs⟩ : ∃ fs, Try.prog.fieldsOf 46 = fs := ⟨_, rfl⟩
  rw [hfs] at ht ⊢
  rw [hu] at ht
  have ht2 := TypeDesc.struct.inj (Option.some.inj ht)
  subst ht2
  simp only [Op.eqFields, ne_eq]
  simp [go_sem, TrE.beq]
  clear hfs hu ht hp
  by_cases h0 : x.machine = y.machine
  rotate_left
  · rw [if_neg h0]
    simp [beq_eq_false_iff_ne.2 h0]
  rw [if_pos h0]
  have e0 := beq_iff_eq.2 h0
  by_cases h1 : x.serial = y.serial
  rotate_left
  · rw [if_neg h1]
    simp [beq_eq_false_iff_ne.2 h1]
  rw [if_pos h1]
  have e1 := beq_iff_eq.2 h1
  simp only [e0, e1]
  rfl
def treq (a b c d : Int) : Bool := TrE.beq ⟨a, b⟩ ⟨c, d⟩
theorem run_eql_tr (a b c d : Int) (w : World) : (binOp .eql 46 (.agg #[.int .i64 a, .int .i64 b]) (.agg #[.int .i64 c, .int .i64 d])).run Try.prog w = .ok (.bool (treq a b c d)) w := run_eql_TrE ⟨a, b⟩ ⟨c, d⟩ w
attribute [local go_sem ↓] run_eql_id run_neq_id run_eql_tr
theorem valid21_any (x : IDE) (w : World) : Calls Try.prog 79 #[x.v] w fun r w' => r = .returned (.bool (validIDB x)) ∧ Below w.heap.size w w' := by
  have HV : ∀ u, Calls Try.prog 73 #[.agg #[.int .i64 x.machine, .int .i64 x.serial]] u fun r w' => r = .returned (.bool (validIDB x)) ∧ Below u.heap.size u w' := fun u => validID_any x u
  go_enter Try.func79, Try.ntmps79
  go_upto_region 1 with fail
  refine wp_name ?_
  intro w0 hw0
  obtain ⟨B0, l0⟩ := box1 hw0
  clear hw0
  go_wp2_with (go_at_call 73; refine (HV _).mono ?_; rintro r w1 ⟨rfl, hb1⟩; have l1 := later hb1)
  go_ret
  exact ⟨rfl, below_of⟩
def lockB (a b : Int) : Bool := treq a b 0 0 || validIDB ⟨a, b⟩
theorem lock24_any (a b : Int) (w : World) : Calls Try.prog 80 #[.agg #[.int .i64 a, .int .i64 b]] w fun r w' => r = .returned (.bool (lockB a b)) ∧ Below w.heap.size w w' := by
  have HV : ∀ u, Calls Try.prog 79 #[.agg #[.int .i64 a, .int .i64 b]] u fun r w' => r = .returned (.bool (validIDB ⟨a, b⟩)) ∧ Below u.heap.size u w' := fun u => valid21_any ⟨a, b⟩ u
  have HL := hide (show lockB a b = (treq a b 0 0 || validIDB ⟨a, b⟩) from rfl)
  go_enter Try.func80, Try.ntmps80
  go_upto_region 1 with fail
  refine wp_name ?_
  intro w0 hw0
  obtain ⟨B0, l0⟩ := box1 hw0
  clear hw0
  cases hz : treq a b 0 0 <;> rw [hz] at HL
  · go_wp2_with (go_at_call 79; refine (HV _).mono ?_; rintro r w1 ⟨rfl, hb1⟩; have l1 := later hb1)
    go_ret
    exact ⟨ret_bool HL.out.symm, below_of⟩
  · go_wp2_with fail
    go_ret
    exact ⟨ret_bool HL.out.symm, below_of⟩
def validScB (e : ScionE) : Bool := decide (1 ≤ e.client) && (decide (e.client ≤ 8) && ((ideq e.iDMachine e.iDSerial 0 0 || validIDB (idK e)) && (decide (0 ≤ e.out) && (decide (0 ≤ e.inn) && (decide (0 ≤ e.distance) && lockB e.lockMachine e.lockSerial)))))
set_option maxRecDepth 100000 in
set_option maxHeartbeats 4000000 in
theorem valid24_any (e : ScionE) (w : World) : Calls Try.prog 44 #[e.v] w fun r w' => r = .returned (.bool (validScB e)) ∧ Below w.heap.size w w' := by
  obtain ⟨kc, kn, km, kr, ko, ki, kd, kt, kw, kg, k10, k11⟩ := e
  have Hd := hide (show validScB ⟨kc, kn, km, kr, ko, ki, kd, kt, kw, kg, k10, k11⟩ = (decide (1 ≤ kc) && (decide (kc ≤ 8) && ((ideq km kr 0 0 || validIDB ⟨km, kr⟩) && (decide (0 ≤ ko) && (decide (0 ≤ ki) && (decide (0 ≤ kd) && lockB k10 k11)))))) from rfl)
  have HV : ∀ u, Calls Try.prog 79 #[.agg #[.int .i64 km, .int .i64 kr]] u fun r w' => r = .returned (.bool (validIDB ⟨km, kr⟩)) ∧ Below u.heap.size u w' := fun u => valid21_any ⟨km, kr⟩ u
  have HL : ∀ u, Calls Try.prog 80 #[.agg #[.int .i64 k10, .int .i64 k11]] u fun r w' => r = .returned (.bool (lockB k10 k11)) ∧ Below u.heap.size u w' := fun u => lock24_any k10 k11 u
  dsimp only [ScionE.v]
  by_cases h1 : 1 ≤ kc
  rotate_left
  · rw [decide_eq_false h1] at Hd
    go_enter Try.func44, Try.ntmps44
    go_upto_region 1 with fail
    refine wp_name ?_
    intro w0 hw0
    obtain ⟨B0, l0⟩ := box1 hw0
    clear hw0
    go_wp2_with (first | (go_at_call 79; refine (HV _).mono ?_; rintro r w1 ⟨rfl, hb1⟩; have l1 := later hb1) | (go_at_call 80; refine (HL _).mono ?_; rintro r w1 ⟨rfl, hb1⟩; have l1 := later hb1))
    go_ret
    exact ⟨ret_bool Hd.out.symm, below_of⟩
  rw [decide_eq_true h1] at Hd
  by_cases h2 : kc ≤ 8
  rotate_left
  · rw [decide_eq_false h2] at Hd
    go_enter Try.func44, Try.ntmps44
    go_upto_region 1 with fail
    refine wp_name ?_
    intro w0 hw0
    obtain ⟨B0, l0⟩ := box1 hw0
    clear hw0
    go_wp2_with (first | (go_at_call 79; refine (HV _).mono ?_; rintro r w1 ⟨rfl, hb1⟩; have l1 := later hb1) | (go_at_call 80; refine (HL _).mono ?_; rintro r w1 ⟨rfl, hb1⟩; have l1 := later hb1))
    go_ret
    exact ⟨ret_bool Hd.out.symm, below_of⟩
  rw [decide_eq_true h2] at Hd
  generalize hz : ideq km kr 0 0 = Z at Hd
  generalize hvv : validIDB ⟨km, kr⟩ = V at Hd HV
  cases Z
  · cases V
    · go_enter Try.func44, Try.ntmps44
      go_upto_region 1 with fail
      refine wp_name ?_
      intro w0 hw0
      obtain ⟨B0, l0⟩ := box1 hw0
      clear hw0
      go_wp2_with (first | (go_at_call 79; refine (HV _).mono ?_; rintro r w1 ⟨rfl, hb1⟩; have l1 := later hb1) | (go_at_call 80; refine (HL _).mono ?_; rintro r w1 ⟨rfl, hb1⟩; have l1 := later hb1))
      go_ret
      exact ⟨ret_bool Hd.out.symm, below_of⟩
    by_cases h4 : 0 ≤ ko
    rotate_left
    · rw [decide_eq_false h4] at Hd
      go_enter Try.func44, Try.ntmps44
      go_upto_region 1 with fail
      refine wp_name ?_
      intro w0 hw0
      obtain ⟨B0, l0⟩ := box1 hw0
      clear hw0
      go_wp2_with (first | (go_at_call 79; refine (HV _).mono ?_; rintro r w1 ⟨rfl, hb1⟩; have l1 := later hb1) | (go_at_call 80; refine (HL _).mono ?_; rintro r w1 ⟨rfl, hb1⟩; have l1 := later hb1))
      go_ret
      exact ⟨ret_bool Hd.out.symm, below_of⟩
    rw [decide_eq_true h4] at Hd
    by_cases h5 : 0 ≤ ki
    rotate_left
    · rw [decide_eq_false h5] at Hd
      go_enter Try.func44, Try.ntmps44
      go_upto_region 1 with fail
      refine wp_name ?_
      intro w0 hw0
      obtain ⟨B0, l0⟩ := box1 hw0
      clear hw0
      go_wp2_with (first | (go_at_call 79; refine (HV _).mono ?_; rintro r w1 ⟨rfl, hb1⟩; have l1 := later hb1) | (go_at_call 80; refine (HL _).mono ?_; rintro r w1 ⟨rfl, hb1⟩; have l1 := later hb1))
      go_ret
      exact ⟨ret_bool Hd.out.symm, below_of⟩
    rw [decide_eq_true h5] at Hd
    by_cases h6 : 0 ≤ kd
    rotate_left
    · rw [decide_eq_false h6] at Hd
      go_enter Try.func44, Try.ntmps44
      go_upto_region 1 with fail
      refine wp_name ?_
      intro w0 hw0
      obtain ⟨B0, l0⟩ := box1 hw0
      clear hw0
      go_wp2_with (first | (go_at_call 79; refine (HV _).mono ?_; rintro r w1 ⟨rfl, hb1⟩; have l1 := later hb1) | (go_at_call 80; refine (HL _).mono ?_; rintro r w1 ⟨rfl, hb1⟩; have l1 := later hb1))
      go_ret
      exact ⟨ret_bool Hd.out.symm, below_of⟩
    rw [decide_eq_true h6] at Hd
    go_enter Try.func44, Try.ntmps44
    go_upto_region 1 with fail
    refine wp_name ?_
    intro w0 hw0
    obtain ⟨B0, l0⟩ := box1 hw0
    clear hw0
    go_wp2_with (first | (go_at_call 79; refine (HV _).mono ?_; rintro r w1 ⟨rfl, hb1⟩; have l1 := later hb1) | (go_at_call 80; refine (HL _).mono ?_; rintro r w1 ⟨rfl, hb1⟩; have l1 := later hb1))
    go_ret
    exact ⟨ret_bool Hd.out.symm, below_of⟩
  · clear hvv
    by_cases h4 : 0 ≤ ko
    rotate_left
    · rw [decide_eq_false h4] at Hd
      go_enter Try.func44, Try.ntmps44
      go_upto_region 1 with fail
      refine wp_name ?_
      intro w0 hw0
      obtain ⟨B0, l0⟩ := box1 hw0
      clear hw0
      go_wp2_with (first | (go_at_call 79; refine (HV _).mono ?_; rintro r w1 ⟨rfl, hb1⟩; have l1 := later hb1) | (go_at_call 80; refine (HL _).mono ?_; rintro r w1 ⟨rfl, hb1⟩; have l1 := later hb1))
      go_ret
      exact ⟨ret_bool Hd.out.symm, below_of⟩
    rw [decide_eq_true h4] at Hd
    by_cases h5 : 0 ≤ ki
    rotate_left
    · rw [decide_eq_false h5] at Hd
      go_enter Try.func44, Try.ntmps44
      go_upto_region 1 with fail
      refine wp_name ?_
      intro w0 hw0
      obtain ⟨B0, l0⟩ := box1 hw0
      clear hw0
      go_wp2_with (first | (go_at_call 79; refine (HV _).mono ?_; rintro r w1 ⟨rfl, hb1⟩; have l1 := later hb1) | (go_at_call 80; refine (HL _).mono ?_; rintro r w1 ⟨rfl, hb1⟩; have l1 := later hb1))
      go_ret
      exact ⟨ret_bool Hd.out.symm, below_of⟩
    rw [decide_eq_true h5] at Hd
    by_cases h6 : 0 ≤ kd
    rotate_left
    · rw [decide_eq_false h6] at Hd
      go_enter Try.func44, Try.ntmps44
      go_upto_region 1 with fail
      refine wp_name ?_
      intro w0 hw0
      obtain ⟨B0, l0⟩ := box1 hw0
      clear hw0
      go_wp2_with (first | (go_at_call 79; refine (HV _).mono ?_; rintro r w1 ⟨rfl, hb1⟩; have l1 := later hb1) | (go_at_call 80; refine (HL _).mono ?_; rintro r w1 ⟨rfl, hb1⟩; have l1 := later hb1))
      go_ret
      exact ⟨ret_bool Hd.out.symm, below_of⟩
    rw [decide_eq_true h6] at Hd
    go_enter Try.func44, Try.ntmps44
    go_upto_region 1 with fail
    refine wp_name ?_
    intro w0 hw0
    obtain ⟨B0, l0⟩ := box1 hw0
    clear hw0
    go_wp2_with (first | (go_at_call 79; refine (HV _).mono ?_; rintro r w1 ⟨rfl, hb1⟩; have l1 := later hb1) | (go_at_call 80; refine (HL _).mono ?_; rintro r w1 ⟨rfl, hb1⟩; have l1 := later hb1))
    go_ret
    exact ⟨ret_bool Hd.out.symm, below_of⟩
def isKey (c n : Int) (o : OneE) : Bool := o.eClient == c && o.eNumber == n
set_option maxRecDepth 100000 in
set_option maxHeartbeats 4000000 in
theorem index24_any (A : Option Addr) (c : Nat) (l : List OneE) (a b : Int) (w : World) (hs : SlAt OneE.cells 13 w A l) (hl : l.length ≤ 1000000) : Calls Try.prog 45 #[.agg #[.slice A l.length c], .int .i64 a, .int .u64 b] w fun r w' => r = .returned (.int .i64 (idxOf (isKey a b) l)) ∧ Below w.heap.size w w' := by
  have HS : ∀ u [Later w u], SlAt OneE.cells 13 u A l := fun u i => hs.below i.below
  have hl' : l.length ≤ 9223372036854775807 := by omega
  go_enter Try.func45, Try.ntmps45
  go_upto_region 1 with fail
  refine wp_name ?_
  intro w0 hw0
  obtain ⟨B0, l0⟩ := box1 hw0
  clear hw0
  go_wp2_with fail
  go_loopw [7] (fun iv wr => ∃ k : Nat, k ≤ l.length ∧ iv = .int .i64 k ∧ Hid (NoneTo (isKey a b) l k) ∧ Below w0.heap.size w0 wr) (fun iv _ => l.length - (intOf iv).toNat)
  case atStart => exact ⟨0, by omega, rfl, hide NoneTo.zero, Below.refl _ _⟩
  case round =>
    obtain ⟨k, hk, rfl, Hno, hbr⟩ := hrel
    have lr := later hbr
    by_cases hlt : k < l.length
    · have hki : (k : Int) < (l.length : Int) := by omega
      obtain ⟨b1, o1, x, rfl, hx, C1⟩ := OneE.get (HS wr) hlt
      have Hx := hide hx
      clear hx
      cases h1 : x.eClient == a
      · have Hno2 := hide (Hno.out.succ Hx.out (show isKey a b x = false by unfold isKey; rw [h1]; rfl))
        go_wp2_with fail
        go_roundw
        case rel => exact ⟨k + 1, by omega, by go_num, Hno2, below_of⟩
        case measure => simp [intOf]; omega
      cases h2 : x.eNumber == b
      · have Hno2 := hide (Hno.out.succ Hx.out (show isKey a b x = false by unfold isKey; rw [h1, h2]; rfl))
        go_wp2_with fail
        go_roundw
        case rel => exact ⟨k + 1, by omega, by go_num, Hno2, below_of⟩
        case measure => simp [intOf]; omega
      have hit := hide (idxOf_hit Hx.out (show isKey a b x = true by unfold isKey; rw [h1, h2]; rfl) Hno.out)
      go_wp2_with fail
      go_ret
      exact ⟨ret_int hit.out.symm, below_of⟩
    · have hkk : k = l.length := by omega
      subst hkk
      have hit := hide (idxOf_miss Hno.out)
      go_wp2_with fail
      go_ret
      exact ⟨ret_int hit.out.symm, below_of⟩
end Go.Proofs.Ytomgdkfoinojiaa

namespace Go.Proofs.Ytomgdkfoinojiaa
open Go.RowKit
attribute [local simp] heap_drew
def toOne (e : ScionE) : OneE := ⟨e.client, e.number, e.iDMachine, e.iDSerial, e.out, e.inn, e.distance, e.touched, e.weak, e.garbage, e.lockMachine, e.lockSerial, 1⟩
/-- What adding an entry gives: an error, or a longer table. -/
def AddP (l : List OneE) (e : ScionE) (w : World) (r : Ending) (w' : World) : Prop := ∃ (A : Option Addr) (c : Nat) (q : List OneE) (er : Int), r = .returned (.tuple #[.agg #[.slice A q.length c], .int .i64 er]) ∧
  Hid (er = 0 → validScB e = true ∧ NoneTo (isKey e.client e.number) l l.length ∧ q.length = l.length + 1 ∧ (∀ o ∈ l, o ∈ q) ∧ toOne e ∈ q) ∧ (er = 0 → Own OneE.cells 13 99 w.heap.size w' (.slice A q.length c) q ∧ c ≤ maxLen) ∧ Below w.heap.size w w'
set_option maxRecDepth 100000 in
set_option maxHeartbeats 8000000 in
theorem add_any (A : Option Addr) (c : Nat) (l : List OneE) (e : ScionE) (w : World) (hs : SlAt OneE.cells 13 w A l) (hl : l.length ≤ 10000) (hc : l.length ≤ c ∧ c ≤ maxLen) : Calls Try.prog 21 #[.agg #[.slice A l.length c], e.v, .int .i64 1] w (AddP l e w) := by
  have HS : ∀ u [Later w u], SlAt OneE.cells 13 u A l := fun u i => hs.below i.below
  have hcl := hc.1
  have hcm : c ≤ 9223372036854775807 := by have := hc.2; unfold maxLen at this; omega
  have Hc := hide hc
  clear hc
  have HIx : ∀ u [Later w u], Calls Try.prog 45 #[.agg #[.slice A l.length c], .int .i64 e.client, .int .u64 e.number] u fun r w' => r = .returned (.int .i64 (idxOf (isKey e.client e.number) l)) ∧ Below u.heap.size u w' := fun u i => index24_any A c l e.client e.number u (HS u) (by omega)
  have HVa : ∀ u, Calls Try.prog 44 #[e.v] u fun r w' => r = .returned (.bool (validScB e)) ∧ Below u.heap.size u w' := fun u => valid24_any e u
  obtain ⟨kc, kn, km, kr, ko, ki, kd, kt, kw, kg, k10, k11⟩ := e
  generalize hV : validScB ⟨kc, kn, km, kr, ko, ki, kd, kt, kw, kg, k10, k11⟩ = V at HVa
  have HV := hide hV
  clear hV
  dsimp only [ScionE.v] at HVa HIx ⊢
  go_enter Try.func21, Try.ntmps21
  go_upto_region 1 with fail
  refine wp_name ?_
  intro w0 hw0
  obtain ⟨B3, B4, B6, l0⟩ := box3 hw0
  clear hw0
  cases V
  · go_wp2_with (go_at_call 44; refine (HVa _).mono ?_; rintro r w1 ⟨rfl, hb1⟩; have l1 := later hb1)
    have hW := blk_set (B6 w1).1 0 (.slice A l.length c)
    have r0 := blk_cell hW 0
    simp at r0
    have hbE : Below w.heap.size w w1 := below_of
    refine bodyPost_ret (v := .tuple #[.agg #[.slice A l.length c], .int .i64 1]) (by simp [results, Try.results21, go_sem, r0]) rfl ?_
    exact ⟨A, c, l, 1, rfl, hide (fun h => absurd h (by decide)), (fun h => absurd h (by decide)), hbE.setCell (p := ⟨w.heap.size + 1 + 1, 0, none⟩) (by simp <;> omega) _⟩
  rcases idxOf_cases (isKey kc kn) l with ⟨hix, hno⟩ | ⟨ki2, x0, hix, -, -, -⟩
  rotate_left
  · rw [hix] at HIx
    have hge : (0 : Int) ≤ (ki2 : Int) := by omega
    go_wp2_with (first | (go_at_call 44; refine (HVa _).mono ?_; rintro r w1 ⟨rfl, hb1⟩; have l1 := later hb1) | (go_at_call 45; refine (HIx _).mono ?_; rintro r w2 ⟨rfl, hb2⟩; have l2 := later hb2))
    have hW := blk_set (B6 w2).1 0 (.slice A l.length c)
    have r0 := blk_cell hW 0
    simp at r0
    have hbE : Below w.heap.size w w2 := below_of
    refine bodyPost_ret (v := .tuple #[.agg #[.slice A l.length c], .int .i64 5]) (by simp [results, Try.results21, go_sem, r0]) rfl ?_
    exact ⟨A, c, l, 5, rfl, hide (fun h => absurd h (by decide)), (fun h => absurd h (by decide)), hbE.setCell (p := ⟨w.heap.size + 1 + 1, 0, none⟩) (by simp <;> omega) _⟩
  rw [hix] at HIx
  have Hno := hide hno
  clear hno hix
  by_cases hbig : (1024 : Int) ≤ (l.length : Int)
  · go_wp2_with (first | (go_at_call 44; refine (HVa _).mono ?_; rintro r w1 ⟨rfl, hb1⟩; have l1 := later hb1) | (go_at_call 45; refine (HIx _).mono ?_; rintro r w2 ⟨rfl, hb2⟩; have l2 := later hb2))
    have hW := blk_set (B6 w2).1 0 (.slice A l.length c)
    have r0 := blk_cell hW 0
    simp at r0
    have hbE : Below w.heap.size w w2 := below_of
    refine bodyPost_ret (v := .tuple #[.agg #[.slice A l.length c], .int .i64 8]) (by simp [results, Try.results21, go_sem, r0]) rfl ?_
    exact ⟨A, c, l, 8, rfl, hide (fun h => absurd h (by decide)), (fun h => absurd h (by decide)), hbE.setCell (p := ⟨w.heap.size + 1 + 1, 0, none⟩) (by simp <;> omega) _⟩
  go_upto_region 8 with (first | (go_at_call 44; refine (HVa _).mono ?_; rintro r w1 ⟨rfl, hb1⟩; have l1 := later hb1) | (go_at_call 45; refine (HIx _).mono ?_; rintro r w2 ⟨rfl, hb2⟩; have l2 := later hb2))
  have l22 : Later w2 w2 := Later.refl
  clear HIx HVa
  go_loopw [8] (fun iv wr => ∃ k : Nat, k ≤ l.length ∧ iv = .int .i64 k ∧ Below w2.heap.size w2 wr) (fun iv _ => l.length - (intOf iv).toNat)
  case atStart => exact ⟨0, by omega, rfl, Below.refl _ _⟩
  case round =>
    obtain ⟨k, hk, rfl, hbr⟩ := hrel
    have lr2 := later hbr
    have lr : ∀ b [Later b w0], Later b wr := fun b i => inferInstance
    have lrr : Later wr wr := Later.refl
    by_cases hlt : k < l.length
    · have hti : decide ((k : Int) < (l.length : Int)) = true := by simp; omega
      have hki : (k : Int) < (l.length : Int) := by omega
      obtain ⟨b1, o1, x, rfl, hx, C1⟩ := OneE.get (HS wr) hlt
      clear hx
      by_cases h1 : x.eClient < kc
      · go_upto_region 8 with fail
        (refine wp_region_after (by kernel_rfl) (by kernel_rfl) ?_
         repeat (any_goals (first | go_big_quiet_skip | (go_big_quiet_want; go_big_quiet_op; first | go_big_quiet_on | go_big_quiet_call (fail)) | quiet_step (fail) | (refine wpQuiet_step (fun K hK => ?_); go_simp; split <;> (refine hK _ ?_; clear hK K))))
         all_goals (refine wpQuiet_nil ?_; intro _ hw'; obtain ⟨u', hw''⟩ := hw'; subst hw''; obtain ⟨wd, hbd⟩ := u'; simp only [After.val_mk]))
        have ld := later hbd
        go_wp2_with fail
        go_roundw
        case rel => exact ⟨k + 1, by omega, by go_num, hbr.trans (hbd.mono hbr.size)⟩
        case measure => simp [intOf]; omega
      have h1' : decide (x.eClient < kc) = false := by simpa using h1
      by_cases h2 : x.eClient = kc
      · have h2' : (x.eClient == kc) = true := by simpa using h2
        by_cases h3 : x.eNumber < kn
        · clear h1 h2
          go_upto_region 8 with fail
          (refine wp_region_after (by kernel_rfl) (by kernel_rfl) ?_
           repeat (any_goals (first | go_big_quiet_skip | (go_big_quiet_want; go_big_quiet_op; first | go_big_quiet_on | go_big_quiet_call (fail)) | quiet_step (fail) | (refine wpQuiet_step (fun K hK => ?_); go_simp; split <;> (refine hK _ ?_; clear hK K))))
           all_goals (refine wpQuiet_nil ?_; intro _ hw'; obtain ⟨u', hw''⟩ := hw'; subst hw''; obtain ⟨wd, hbd⟩ := u'; simp only [After.val_mk]))
          have ld := later hbd
          go_wp2_with fail
          go_roundw
          case rel => exact ⟨k + 1, by omega, by go_num, hbr.trans (hbd.mono hbr.size)⟩
          case measure => simp [intOf]; omega
        · have h3' : decide (x.eNumber < kn) = false := by simpa using h3
          clear h1 h2
          go_upto_region 8 with fail
          (refine wp_region_after (by kernel_rfl) (by kernel_rfl) ?_
           repeat (any_goals (first | go_big_quiet_skip | (go_big_quiet_want; go_big_quiet_op; first | go_big_quiet_on | go_big_quiet_call (fail)) | quiet_step (fail) | (refine wpQuiet_step (fun K hK => ?_); go_simp; split <;> (refine hK _ ?_; clear hK K))))
           all_goals (refine wpQuiet_nil ?_; intro _ hw'; obtain ⟨u', hw''⟩ := hw'; subst hw''; obtain ⟨wd, hbd⟩ := u'; simp only [After.val_mk]))
          have ld := later hbd
          have ldd : Later wd wd := Later.refl
          go_upto_region 10 with fail
          have hsrc : ∀ u [Later w u], SlAt OneE.cells 13 u (if c = k then some ⟨b1, o1, none⟩ else some ⟨b1, o1 + k * 13, none⟩) (l.drop k) := fun u i => by rw [if_neg (by omega)]; exact SlAt.drop (HS u) k
          have htk : (l.take k).length = k := by rw [List.length_take]; omega
          have hdk : (l.drop k).length = l.length - k := by rw [List.length_drop]
          have hk0 : (0 : Int) ≤ (k : Int) := by omega
          have hkc : (k : Int) ≤ (c : Int) := by omega
          have hkl : (k : Int) ≤ (l.length : Int) := by omega
          have hz6 : w.heap.size + 1 + 1 < wd.heap.size := Nat.lt_of_lt_of_le (boxed_lt B6) (inferInstance : Later w0 wd).below.size
          go_upto_region 11 with (at_builtin; refine wpList_appE rfl (.tmp 74) (.tmp 78) rfl OneE.enc oneT _ _ (l.take k) rfl (by rw [htk]; rfl) ((HS _).take _) (by omega) (by unfold maxLen; omega) ?_; intro A1 c1 w1 ho1 hm1 hb1; rw [htk] at ho1; have l1 := later hb1; have l11 : Later w1 w1 := Later.refl)
          have qz := blk_cell (B3 w1).1 0
          have q0 := blk_cell (B4 w1).1 0
          have q1 := blk_cell (B4 w1).1 1
          have q2 := blk_cell (B4 w1).1 2
          have q3 := blk_cell (B4 w1).1 3
          have q4 := blk_cell (B4 w1).1 4
          have q5 := blk_cell (B4 w1).1 5
          have q6 := blk_cell (B4 w1).1 6
          have q7 := blk_cell (B4 w1).1 7
          have q8 := blk_cell (B4 w1).1 8
          have q9 := blk_cell (B4 w1).1 9
          have q10 := blk_cell (B4 w1).1 10
          have q11 := blk_cell (B4 w1).1 11
          simp at qz q0 q1 q2 q3 q4 q5 q6 q7 q8 q9 q10 q11
          have hz1 := hb1.size
          have hne3 : ¬ w.heap.size = w.heap.size + 1 + 1 := by omega
          go_region_held3 (fun w' => w'.cell? ⟨w.heap.size, 0, none⟩ = some (.slice (some ⟨b1, o1, none⟩) l.length c) ∧ w'.cell? ⟨w.heap.size + 1, 0, none⟩ = some (.int .i64 kc) ∧ w'.cell? ⟨w.heap.size + 1, 1, none⟩ = some (.int .u64 kn) ∧ w'.cell? ⟨w.heap.size + 1, 2, none⟩ = some (.int .i64 km) ∧ w'.cell? ⟨w.heap.size + 1, 3, none⟩ = some (.int .i64 kr) ∧ w'.cell? ⟨w.heap.size + 1, 4, none⟩ = some (.int .i64 ko) ∧ w'.cell? ⟨w.heap.size + 1, 5, none⟩ = some (.int .i64 ki) ∧ w'.cell? ⟨w.heap.size + 1, 6, none⟩ = some (.int .i64 kd) ∧ w'.cell? ⟨w.heap.size + 1, 7, none⟩ = some (.bool kt) ∧ w'.cell? ⟨w.heap.size + 1, 8, none⟩ = some (.bool kw) ∧ w'.cell? ⟨w.heap.size + 1, 9, none⟩ = some (.bool kg) ∧ w'.cell? ⟨w.heap.size + 1, 10, none⟩ = some (.int .i64 k10) ∧ w'.cell? ⟨w.heap.size + 1, 11, none⟩ = some (.int .i64 k11)) (first | go_keep | (refine ⟨pz9 _, ?_, ?_, ?_, ?_, ?_, ?_, ?_, ?_, ?_, ?_, ?_, ?_⟩ <;> first | exact p0s _ 0 | exact p0s _ 1 | exact p0s _ 2 | exact p0s _ 3 | exact p0s _ 4 | exact p0s _ 5 | exact p0s _ 6 | exact p0s _ 7 | exact p0s _ 8 | exact p0s _ 9 | exact p0s _ 10 | exact p0s _ 11))
            ((first
              | (have ho9 := ho2
                 refine step_app (P := Try.prog) rfl (.tmp 85) (.tmp 89) (by rfl) OneE.enc oneT (if c = k then some ⟨b1, o1, none⟩ else some ⟨b1, o1 + k * 13, none⟩) (c - k) (l.drop k) (l.take k ++ [toOne ⟨kc, kn, km, kr, ko, ki, kd, kt, kw, kg, k10, k11⟩]) (.slice A2 (k + 1) c2) (by rfl) (by rfl) (m := l.length - k) (n := l.length + 1) hdk (by simp only [List.length_append, htk, List.length_singleton] <;> omega) (ho2.later _) (hsrc _) (by omega) (by simp [maxLen]; omega) (by first | (simp; done) | (simp; omega) | omega) ?_
                 intro A3 c3 w3 ho3 hm3 hb3 hg3
                 have l3 := later_base (W := wd) hb3
                 have hz3 : wd.heap.size ≤ w3.heap.size := (l3 wd).below.size
                 have l33 : Later w3 w3 := Later.refl
                 have pz9 := fun v => (blk_cell ((blk_far (p := ⟨w.heap.size + 1 + 1, 0, none⟩) (show w.heap.size ≠ w.heap.size + 1 + 1 by omega) v).trans (B3 w3).1) 0).trans rfl
                 have p0s := fun v i => blk_cell ((blk_far (p := ⟨w.heap.size + 1 + 1, 0, none⟩) (show w.heap.size + 1 ≠ w.heap.size + 1 + 1 by omega) v).trans (B4 w3).1) i
                 have pz := blk_cell (B3 w3).1 0
                 have p0 := blk_cell (B4 w3).1 0
                 have p1 := blk_cell (B4 w3).1 1
                 have p2 := blk_cell (B4 w3).1 2
                 have p3 := blk_cell (B4 w3).1 3
                 have p4 := blk_cell (B4 w3).1 4
                 have p5 := blk_cell (B4 w3).1 5
                 have p6 := blk_cell (B4 w3).1 6
                 have p7 := blk_cell (B4 w3).1 7
                 have p8 := blk_cell (B4 w3).1 8
                 have p9 := blk_cell (B4 w3).1 9
                 have p10 := blk_cell (B4 w3).1 10
                 have p11 := blk_cell (B4 w3).1 11
                 simp at pz p0 p1 p2 p3 p4 p5 p6 p7 p8 p9 p10 p11)
              | (refine step_app rfl (.tmp 80) (.tmp 84) (by rfl) OneE.enc oneT _ _ [toOne ⟨kc, kn, km, kr, ko, ki, kd, kt, kw, kg, k10, k11⟩] (l.take k) (.slice A1 k c1) (by rfl) (by rfl) (m := 1) (n := k + 1) rfl (by rw [htk]) (ho1.later _) (blk_slAt OneE.enc (fr := (0, 0)) (e := 99) (by (simp only [heap_drew, heap_alloc_if, World.size_alloc]); (repeat (first | rw [if_pos rfl] | rw [if_neg (by omega)] | rw [if_pos (by omega)])); try rfl) [toOne ⟨kc, kn, km, kr, ko, ki, kd, kt, kw, kg, k10, k11⟩] (by rfl)) (by omega) (by simp [maxLen]; omega) (by first | (simp; done) | (simp; omega) | omega) ?_
                 intro A2 c2 w2 ho2 hm2 hb2 hg2
                 have l2 := later_base (W := wd) hb2
                 have hz2 : wd.heap.size ≤ w2.heap.size := (l2 wd).below.size
                 have l22 : Later w2 w2 := Later.refl
                 have pz := blk_cell (B3 w2).1 0
                 have p0 := blk_cell (B4 w2).1 0
                 have p1 := blk_cell (B4 w2).1 1
                 have p2 := blk_cell (B4 w2).1 2
                 have p3 := blk_cell (B4 w2).1 3
                 have p4 := blk_cell (B4 w2).1 4
                 have p5 := blk_cell (B4 w2).1 5
                 have p6 := blk_cell (B4 w2).1 6
                 have p7 := blk_cell (B4 w2).1 7
                 have p8 := blk_cell (B4 w2).1 8
                 have p9 := blk_cell (B4 w2).1 9
                 have p10 := blk_cell (B4 w2).1 10
                 have p11 := blk_cell (B4 w2).1 11
                 simp at pz p0 p1 p2 p3 p4 p5 p6 p7 p8 p9 p10 p11)
              ))
          all_goals go_wp2_with fail
          all_goals
            have hW := blk_set (B6 w3).1 0 (.slice A3 (l.length + 1) c3)
            have r0 := blk_cell hW 0
            simp at r0
            obtain ⟨q, hq⟩ : ∃ q, q = l.take k ++ [toOne ⟨kc, kn, km, kr, ko, ki, kd, kt, kw, kg, k10, k11⟩] ++ (l.drop k) := ⟨_, rfl⟩
            rw [← hq] at ho3
            have hqlen : q.length = l.length + 1 := (ho3.at_ OneE.enc).1.symm
            have hbE : Below w.heap.size w w3 := below_of
            have hat := (ho3.set (p := ⟨w.heap.size + 1 + 1, 0, none⟩) hz6 (.slice A3 (l.length + 1) c3)).mono (show w.heap.size ≤ wd.heap.size by omega)
            have hat2 : Own OneE.cells 13 99 w.heap.size (w3.setCell ⟨w.heap.size + 1 + 1, 0, none⟩ (.slice A3 (l.length + 1) c3)) (.slice A3 q.length c3) q := by rw [hqlen]; exact hat
            refine bodyPost_ret (v := .tuple #[.agg #[.slice A3 q.length c3], .int .i64 0]) (by simp [results, Try.results21, go_sem, r0, hqlen]) rfl ?_
            refine ⟨A3, c3, q, 0, rfl, hide (fun _ => ⟨HV.out, Hno.out, hqlen, fun o ho => ?_, ?_⟩), fun _ => ⟨hat2, hm3⟩, hbE.setCell (p := ⟨w.heap.size + 1 + 1, 0, none⟩) (by simp <;> omega) _⟩
            · have h2 : o ∈ l.take k ++ l.drop k := by rw [List.take_append_drop]; exact ho
              rw [(rfl : l.drop k = l.drop k)] at h2
              rw [hq]
              rcases List.mem_append.1 h2 with h2 | h2
              · exact List.mem_append_left _ (List.mem_append_left _ h2)
              · exact List.mem_append_right _ h2
            · rw [hq]
              exact List.mem_append_left _ (List.mem_append_right _ (List.mem_singleton.2 rfl))
      · have h2' : (x.eClient == kc) = false := by simpa using h2
        clear h1 h2
        go_upto_region 8 with fail
        (refine wp_region_after (by kernel_rfl) (by kernel_rfl) ?_
         repeat (any_goals (first | go_big_quiet_skip | (go_big_quiet_want; go_big_quiet_op; first | go_big_quiet_on | go_big_quiet_call (fail)) | quiet_step (fail) | (refine wpQuiet_step (fun K hK => ?_); go_simp; split <;> (refine hK _ ?_; clear hK K))))
         all_goals (refine wpQuiet_nil ?_; intro _ hw'; obtain ⟨u', hw''⟩ := hw'; subst hw''; obtain ⟨wd, hbd⟩ := u'; simp only [After.val_mk]))
        have ld := later hbd
        have ldd : Later wd wd := Later.refl
        go_upto_region 10 with fail
        have hsrc : ∀ u [Later w u], SlAt OneE.cells 13 u (if c = k then some ⟨b1, o1, none⟩ else some ⟨b1, o1 + k * 13, none⟩) (l.drop k) := fun u i => by rw [if_neg (by omega)]; exact SlAt.drop (HS u) k
        have htk : (l.take k).length = k := by rw [List.length_take]; omega
        have hdk : (l.drop k).length = l.length - k := by rw [List.length_drop]
        have hk0 : (0 : Int) ≤ (k : Int) := by omega
        have hkc : (k : Int) ≤ (c : Int) := by omega
        have hkl : (k : Int) ≤ (l.length : Int) := by omega
        have hz6 : w.heap.size + 1 + 1 < wd.heap.size := Nat.lt_of_lt_of_le (boxed_lt B6) (inferInstance : Later w0 wd).below.size
        go_upto_region 11 with (at_builtin; refine wpList_appE rfl (.tmp 74) (.tmp 78) rfl OneE.enc oneT _ _ (l.take k) rfl (by rw [htk]; rfl) ((HS _).take _) (by omega) (by unfold maxLen; omega) ?_; intro A1 c1 w1 ho1 hm1 hb1; rw [htk] at ho1; have l1 := later hb1; have l11 : Later w1 w1 := Later.refl)
        have qz := blk_cell (B3 w1).1 0
        have q0 := blk_cell (B4 w1).1 0
        have q1 := blk_cell (B4 w1).1 1
        have q2 := blk_cell (B4 w1).1 2
        have q3 := blk_cell (B4 w1).1 3
        have q4 := blk_cell (B4 w1).1 4
        have q5 := blk_cell (B4 w1).1 5
        have q6 := blk_cell (B4 w1).1 6
        have q7 := blk_cell (B4 w1).1 7
        have q8 := blk_cell (B4 w1).1 8
        have q9 := blk_cell (B4 w1).1 9
        have q10 := blk_cell (B4 w1).1 10
        have q11 := blk_cell (B4 w1).1 11
        simp at qz q0 q1 q2 q3 q4 q5 q6 q7 q8 q9 q10 q11
        have hz1 := hb1.size
        have hne3 : ¬ w.heap.size = w.heap.size + 1 + 1 := by omega
        go_region_held3 (fun w' => w'.cell? ⟨w.heap.size, 0, none⟩ = some (.slice (some ⟨b1, o1, none⟩) l.length c) ∧ w'.cell? ⟨w.heap.size + 1, 0, none⟩ = some (.int .i64 kc) ∧ w'.cell? ⟨w.heap.size + 1, 1, none⟩ = some (.int .u64 kn) ∧ w'.cell? ⟨w.heap.size + 1, 2, none⟩ = some (.int .i64 km) ∧ w'.cell? ⟨w.heap.size + 1, 3, none⟩ = some (.int .i64 kr) ∧ w'.cell? ⟨w.heap.size + 1, 4, none⟩ = some (.int .i64 ko) ∧ w'.cell? ⟨w.heap.size + 1, 5, none⟩ = some (.int .i64 ki) ∧ w'.cell? ⟨w.heap.size + 1, 6, none⟩ = some (.int .i64 kd) ∧ w'.cell? ⟨w.heap.size + 1, 7, none⟩ = some (.bool kt) ∧ w'.cell? ⟨w.heap.size + 1, 8, none⟩ = some (.bool kw) ∧ w'.cell? ⟨w.heap.size + 1, 9, none⟩ = some (.bool kg) ∧ w'.cell? ⟨w.heap.size + 1, 10, none⟩ = some (.int .i64 k10) ∧ w'.cell? ⟨w.heap.size + 1, 11, none⟩ = some (.int .i64 k11)) (first | go_keep | (refine ⟨pz9 _, ?_, ?_, ?_, ?_, ?_, ?_, ?_, ?_, ?_, ?_, ?_, ?_⟩ <;> first | exact p0s _ 0 | exact p0s _ 1 | exact p0s _ 2 | exact p0s _ 3 | exact p0s _ 4 | exact p0s _ 5 | exact p0s _ 6 | exact p0s _ 7 | exact p0s _ 8 | exact p0s _ 9 | exact p0s _ 10 | exact p0s _ 11))
          ((first
            | (have ho9 := ho2
               refine step_app (P := Try.prog) rfl (.tmp 85) (.tmp 89) (by rfl) OneE.enc oneT (if c = k then some ⟨b1, o1, none⟩ else some ⟨b1, o1 + k * 13, none⟩) (c - k) (l.drop k) (l.take k ++ [toOne ⟨kc, kn, km, kr, ko, ki, kd, kt, kw, kg, k10, k11⟩]) (.slice A2 (k + 1) c2) (by rfl) (by rfl) (m := l.length - k) (n := l.length + 1) hdk (by simp only [List.length_append, htk, List.length_singleton] <;> omega) (ho2.later _) (hsrc _) (by omega) (by simp [maxLen]; omega) (by first | (simp; done) | (simp; omega) | omega) ?_
               intro A3 c3 w3 ho3 hm3 hb3 hg3
               have l3 := later_base (W := wd) hb3
               have hz3 : wd.heap.size ≤ w3.heap.size := (l3 wd).below.size
               have l33 : Later w3 w3 := Later.refl
               have pz9 := fun v => (blk_cell ((blk_far (p := ⟨w.heap.size + 1 + 1, 0, none⟩) (show w.heap.size ≠ w.heap.size + 1 + 1 by omega) v).trans (B3 w3).1) 0).trans rfl
               have p0s := fun v i => blk_cell ((blk_far (p := ⟨w.heap.size + 1 + 1, 0, none⟩) (show w.heap.size + 1 ≠ w.heap.size + 1 + 1 by omega) v).trans (B4 w3).1) i
               have pz := blk_cell (B3 w3).1 0
               have p0 := blk_cell (B4 w3).1 0
               have p1 := blk_cell (B4 w3).1 1
               have p2 := blk_cell (B4 w3).1 2
               have p3 := blk_cell (B4 w3).1 3
               have p4 := blk_cell (B4 w3).1 4
               have p5 := blk_cell (B4 w3).1 5
               have p6 := blk_cell (B4 w3).1 6
               have p7 := blk_cell (B4 w3).1 7
               have p8 := blk_cell (B4 w3).1 8
               have p9 := blk_cell (B4 w3).1 9
               have p10 := blk_cell (B4 w3).1 10
               have p11 := blk_cell (B4 w3).1 11
               simp at pz p0 p1 p2 p3 p4 p5 p6 p7 p8 p9 p10 p11)
            | (refine step_app rfl (.tmp 80) (.tmp 84) (by rfl) OneE.enc oneT _ _ [toOne ⟨kc, kn, km, kr, ko, ki, kd, kt, kw, kg, k10, k11⟩] (l.take k) (.slice A1 k c1) (by rfl) (by rfl) (m := 1) (n := k + 1) rfl (by rw [htk]) (ho1.later _) (blk_slAt OneE.enc (fr := (0, 0)) (e := 99) (by (simp only [heap_drew, heap_alloc_if, World.size_alloc]); (repeat (first | rw [if_pos rfl] | rw [if_neg (by omega)] | rw [if_pos (by omega)])); try rfl) [toOne ⟨kc, kn, km, kr, ko, ki, kd, kt, kw, kg, k10, k11⟩] (by rfl)) (by omega) (by simp [maxLen]; omega) (by first | (simp; done) | (simp; omega) | omega) ?_
               intro A2 c2 w2 ho2 hm2 hb2 hg2
               have l2 := later_base (W := wd) hb2
               have hz2 : wd.heap.size ≤ w2.heap.size := (l2 wd).below.size
               have l22 : Later w2 w2 := Later.refl
               have pz := blk_cell (B3 w2).1 0
               have p0 := blk_cell (B4 w2).1 0
               have p1 := blk_cell (B4 w2).1 1
               have p2 := blk_cell (B4 w2).1 2
               have p3 := blk_cell (B4 w2).1 3
               have p4 := blk_cell (B4 w2).1 4
               have p5 := blk_cell (B4 w2).1 5
               have p6 := blk_cell (B4 w2).1 6
               have p7 := blk_cell (B4 w2).1 7
               have p8 := blk_cell (B4 w2).1 8
               have p9 := blk_cell (B4 w2).1 9
               have p10 := blk_cell (B4 w2).1 10
               have p11 := blk_cell (B4 w2).1 11
               simp at pz p0 p1 p2 p3 p4 p5 p6 p7 p8 p9 p10 p11)
            ))
        all_goals go_wp2_with fail
        all_goals
          have hW := blk_set (B6 w3).1 0 (.slice A3 (l.length + 1) c3)
          have r0 := blk_cell hW 0
          simp at r0
          obtain ⟨q, hq⟩ : ∃ q, q = l.take k ++ [toOne ⟨kc, kn, km, kr, ko, ki, kd, kt, kw, kg, k10, k11⟩] ++ (l.drop k) := ⟨_, rfl⟩
          rw [← hq] at ho3
          have hqlen : q.length = l.length + 1 := (ho3.at_ OneE.enc).1.symm
          have hbE : Below w.heap.size w w3 := below_of
          have hat := (ho3.set (p := ⟨w.heap.size + 1 + 1, 0, none⟩) hz6 (.slice A3 (l.length + 1) c3)).mono (show w.heap.size ≤ wd.heap.size by omega)
          have hat2 : Own OneE.cells 13 99 w.heap.size (w3.setCell ⟨w.heap.size + 1 + 1, 0, none⟩ (.slice A3 (l.length + 1) c3)) (.slice A3 q.length c3) q := by rw [hqlen]; exact hat
          refine bodyPost_ret (v := .tuple #[.agg #[.slice A3 q.length c3], .int .i64 0]) (by simp [results, Try.results21, go_sem, r0, hqlen]) rfl ?_
          refine ⟨A3, c3, q, 0, rfl, hide (fun _ => ⟨HV.out, Hno.out, hqlen, fun o ho => ?_, ?_⟩), fun _ => ⟨hat2, hm3⟩, hbE.setCell (p := ⟨w.heap.size + 1 + 1, 0, none⟩) (by simp <;> omega) _⟩
          · have h2 : o ∈ l.take k ++ l.drop k := by rw [List.take_append_drop]; exact ho
            rw [(rfl : l.drop k = l.drop k)] at h2
            rw [hq]
            rcases List.mem_append.1 h2 with h2 | h2
            · exact List.mem_append_left _ (List.mem_append_left _ h2)
            · exact List.mem_append_right _ h2
          · rw [hq]
            exact List.mem_append_left _ (List.mem_append_right _ (List.mem_singleton.2 rfl))
    · have hkk : k = l.length := by omega
      subst hkk
      have hti : decide ((l.length : Int) < (l.length : Int)) = false := by simp
      have hdr : l.drop l.length = [] := List.drop_length
      rcases A with _ | ad
      · go_upto_region 8 with fail
        (refine wp_region_after (by kernel_rfl) (by kernel_rfl) ?_
         repeat (any_goals (first | go_big_quiet_skip | (go_big_quiet_want; go_big_quiet_op; first | go_big_quiet_on | go_big_quiet_call (fail)) | quiet_step (fail) | (refine wpQuiet_step (fun K hK => ?_); go_simp; split <;> (refine hK _ ?_; clear hK K))))
         all_goals (refine wpQuiet_nil ?_; intro _ hw'; obtain ⟨u', hw''⟩ := hw'; subst hw''; obtain ⟨wd, hbd⟩ := u'; simp only [After.val_mk]))
        have ld := later hbd
        have ldd : Later wd wd := Later.refl
        go_upto_region 10 with fail
        have htk : (l.take l.length).length = l.length := by rw [List.length_take]; omega
        have hdk : (l.drop l.length).length = l.length - l.length := by rw [List.length_drop]
        have hk0 : (0 : Int) ≤ (l.length : Int) := by omega
        have hkc : (l.length : Int) ≤ (c : Int) := by omega
        have hkl : (l.length : Int) ≤ (l.length : Int) := by omega
        have hz6 : w.heap.size + 1 + 1 < wd.heap.size := Nat.lt_of_lt_of_le (boxed_lt B6) (inferInstance : Later w0 wd).below.size
        go_upto_region 11 with (at_builtin; refine wpList_appE rfl (.tmp 74) (.tmp 78) rfl OneE.enc oneT _ _ (l.take l.length) rfl (by rw [htk]; rfl) ((HS _).take _) (by omega) (by unfold maxLen; omega) ?_; intro A1 c1 w1 ho1 hm1 hb1; rw [htk] at ho1; have l1 := later hb1; have l11 : Later w1 w1 := Later.refl)
        have qz := blk_cell (B3 w1).1 0
        have q0 := blk_cell (B4 w1).1 0
        have q1 := blk_cell (B4 w1).1 1
        have q2 := blk_cell (B4 w1).1 2
        have q3 := blk_cell (B4 w1).1 3
        have q4 := blk_cell (B4 w1).1 4
        have q5 := blk_cell (B4 w1).1 5
        have q6 := blk_cell (B4 w1).1 6
        have q7 := blk_cell (B4 w1).1 7
        have q8 := blk_cell (B4 w1).1 8
        have q9 := blk_cell (B4 w1).1 9
        have q10 := blk_cell (B4 w1).1 10
        have q11 := blk_cell (B4 w1).1 11
        simp at qz q0 q1 q2 q3 q4 q5 q6 q7 q8 q9 q10 q11
        have hz1 := hb1.size
        have hne3 : ¬ w.heap.size = w.heap.size + 1 + 1 := by omega
        go_region_held3 (fun w' => w'.cell? ⟨w.heap.size, 0, none⟩ = some (.slice none l.length c) ∧ w'.cell? ⟨w.heap.size + 1, 0, none⟩ = some (.int .i64 kc) ∧ w'.cell? ⟨w.heap.size + 1, 1, none⟩ = some (.int .u64 kn) ∧ w'.cell? ⟨w.heap.size + 1, 2, none⟩ = some (.int .i64 km) ∧ w'.cell? ⟨w.heap.size + 1, 3, none⟩ = some (.int .i64 kr) ∧ w'.cell? ⟨w.heap.size + 1, 4, none⟩ = some (.int .i64 ko) ∧ w'.cell? ⟨w.heap.size + 1, 5, none⟩ = some (.int .i64 ki) ∧ w'.cell? ⟨w.heap.size + 1, 6, none⟩ = some (.int .i64 kd) ∧ w'.cell? ⟨w.heap.size + 1, 7, none⟩ = some (.bool kt) ∧ w'.cell? ⟨w.heap.size + 1, 8, none⟩ = some (.bool kw) ∧ w'.cell? ⟨w.heap.size + 1, 9, none⟩ = some (.bool kg) ∧ w'.cell? ⟨w.heap.size + 1, 10, none⟩ = some (.int .i64 k10) ∧ w'.cell? ⟨w.heap.size + 1, 11, none⟩ = some (.int .i64 k11)) (first | go_keep | (refine ⟨pz9 _, ?_, ?_, ?_, ?_, ?_, ?_, ?_, ?_, ?_, ?_, ?_, ?_⟩ <;> first | exact p0s _ 0 | exact p0s _ 1 | exact p0s _ 2 | exact p0s _ 3 | exact p0s _ 4 | exact p0s _ 5 | exact p0s _ 6 | exact p0s _ 7 | exact p0s _ 8 | exact p0s _ 9 | exact p0s _ 10 | exact p0s _ 11))
          ((first
            | (have ho9 := ho2
               refine step_app (P := Try.prog) rfl (.tmp 85) (.tmp 89) (by rfl) OneE.enc oneT _ _ ([] : List OneE) (l.take l.length ++ [toOne ⟨kc, kn, km, kr, ko, ki, kd, kt, kw, kg, k10, k11⟩]) (.slice A2 (l.length + 1) c2) (by rfl) (by rfl) (m := 0) (n := l.length + 1) rfl (by simp only [List.length_append, htk, List.length_singleton] <;> omega) (ho2.later _) SlAt.nil (by omega) (by simp [maxLen]; omega) (by first | (simp; done) | (simp; omega) | omega) ?_
               intro A3 c3 w3 ho3 hm3 hb3 hg3
               have l3 := later_base (W := wd) hb3
               have hz3 : wd.heap.size ≤ w3.heap.size := (l3 wd).below.size
               have l33 : Later w3 w3 := Later.refl
               have pz9 := fun v => (blk_cell ((blk_far (p := ⟨w.heap.size + 1 + 1, 0, none⟩) (show w.heap.size ≠ w.heap.size + 1 + 1 by omega) v).trans (B3 w3).1) 0).trans rfl
               have p0s := fun v i => blk_cell ((blk_far (p := ⟨w.heap.size + 1 + 1, 0, none⟩) (show w.heap.size + 1 ≠ w.heap.size + 1 + 1 by omega) v).trans (B4 w3).1) i
               have pz := blk_cell (B3 w3).1 0
               have p0 := blk_cell (B4 w3).1 0
               have p1 := blk_cell (B4 w3).1 1
               have p2 := blk_cell (B4 w3).1 2
               have p3 := blk_cell (B4 w3).1 3
               have p4 := blk_cell (B4 w3).1 4
               have p5 := blk_cell (B4 w3).1 5
               have p6 := blk_cell (B4 w3).1 6
               have p7 := blk_cell (B4 w3).1 7
               have p8 := blk_cell (B4 w3).1 8
               have p9 := blk_cell (B4 w3).1 9
               have p10 := blk_cell (B4 w3).1 10
               have p11 := blk_cell (B4 w3).1 11
               simp at pz p0 p1 p2 p3 p4 p5 p6 p7 p8 p9 p10 p11)
            | (refine step_app rfl (.tmp 80) (.tmp 84) (by rfl) OneE.enc oneT _ _ [toOne ⟨kc, kn, km, kr, ko, ki, kd, kt, kw, kg, k10, k11⟩] (l.take l.length) (.slice A1 l.length c1) (by rfl) (by rfl) (m := 1) (n := l.length + 1) rfl (by rw [htk]) (ho1.later _) (blk_slAt OneE.enc (fr := (0, 0)) (e := 99) (by (simp only [heap_drew, heap_alloc_if, World.size_alloc]); (repeat (first | rw [if_pos rfl] | rw [if_neg (by omega)] | rw [if_pos (by omega)])); try rfl) [toOne ⟨kc, kn, km, kr, ko, ki, kd, kt, kw, kg, k10, k11⟩] (by rfl)) (by omega) (by simp [maxLen]; omega) (by first | (simp; done) | (simp; omega) | omega) ?_
               intro A2 c2 w2 ho2 hm2 hb2 hg2
               have l2 := later_base (W := wd) hb2
               have hz2 : wd.heap.size ≤ w2.heap.size := (l2 wd).below.size
               have l22 : Later w2 w2 := Later.refl
               have pz := blk_cell (B3 w2).1 0
               have p0 := blk_cell (B4 w2).1 0
               have p1 := blk_cell (B4 w2).1 1
               have p2 := blk_cell (B4 w2).1 2
               have p3 := blk_cell (B4 w2).1 3
               have p4 := blk_cell (B4 w2).1 4
               have p5 := blk_cell (B4 w2).1 5
               have p6 := blk_cell (B4 w2).1 6
               have p7 := blk_cell (B4 w2).1 7
               have p8 := blk_cell (B4 w2).1 8
               have p9 := blk_cell (B4 w2).1 9
               have p10 := blk_cell (B4 w2).1 10
               have p11 := blk_cell (B4 w2).1 11
               simp at pz p0 p1 p2 p3 p4 p5 p6 p7 p8 p9 p10 p11)
            ))
        all_goals go_wp2_with fail
        all_goals
          have hW := blk_set (B6 w3).1 0 (.slice A3 (l.length + 1) c3)
          have r0 := blk_cell hW 0
          simp at r0
          obtain ⟨q, hq⟩ : ∃ q, q = l.take l.length ++ [toOne ⟨kc, kn, km, kr, ko, ki, kd, kt, kw, kg, k10, k11⟩] ++ ([] : List OneE) := ⟨_, rfl⟩
          rw [← hq] at ho3
          have hqlen : q.length = l.length + 1 := (ho3.at_ OneE.enc).1.symm
          have hbE : Below w.heap.size w w3 := below_of
          have hat := (ho3.set (p := ⟨w.heap.size + 1 + 1, 0, none⟩) hz6 (.slice A3 (l.length + 1) c3)).mono (show w.heap.size ≤ wd.heap.size by omega)
          have hat2 : Own OneE.cells 13 99 w.heap.size (w3.setCell ⟨w.heap.size + 1 + 1, 0, none⟩ (.slice A3 (l.length + 1) c3)) (.slice A3 q.length c3) q := by rw [hqlen]; exact hat
          refine bodyPost_ret (v := .tuple #[.agg #[.slice A3 q.length c3], .int .i64 0]) (by simp [results, Try.results21, go_sem, r0, hqlen]) rfl ?_
          refine ⟨A3, c3, q, 0, rfl, hide (fun _ => ⟨HV.out, Hno.out, hqlen, fun o ho => ?_, ?_⟩), fun _ => ⟨hat2, hm3⟩, hbE.setCell (p := ⟨w.heap.size + 1 + 1, 0, none⟩) (by simp <;> omega) _⟩
          · have h2 : o ∈ l.take l.length ++ l.drop l.length := by rw [List.take_append_drop]; exact ho
            rw [hdr] at h2
            rw [hq]
            rcases List.mem_append.1 h2 with h2 | h2
            · exact List.mem_append_left _ (List.mem_append_left _ h2)
            · exact List.mem_append_right _ h2
          · rw [hq]
            exact List.mem_append_left _ (List.mem_append_right _ (List.mem_singleton.2 rfl))
      · go_upto_region 8 with fail
        (refine wp_region_after (by kernel_rfl) (by kernel_rfl) ?_
         repeat (any_goals (first | go_big_quiet_skip | (go_big_quiet_want; go_big_quiet_op; first | go_big_quiet_on | go_big_quiet_call (fail)) | quiet_step (fail) | (refine wpQuiet_step (fun K hK => ?_); go_simp; split <;> (refine hK _ ?_; clear hK K))))
         all_goals (refine wpQuiet_nil ?_; intro _ hw'; obtain ⟨u', hw''⟩ := hw'; subst hw''; obtain ⟨wd, hbd⟩ := u'; simp only [After.val_mk]))
        have ld := later hbd
        have ldd : Later wd wd := Later.refl
        go_upto_region 10 with fail
        have htk : (l.take l.length).length = l.length := by rw [List.length_take]; omega
        have hdk : (l.drop l.length).length = l.length - l.length := by rw [List.length_drop]
        have hk0 : (0 : Int) ≤ (l.length : Int) := by omega
        have hkc : (l.length : Int) ≤ (c : Int) := by omega
        have hkl : (l.length : Int) ≤ (l.length : Int) := by omega
        have hz6 : w.heap.size + 1 + 1 < wd.heap.size := Nat.lt_of_lt_of_le (boxed_lt B6) (inferInstance : Later w0 wd).below.size
        go_upto_region 11 with (at_builtin; refine wpList_appE rfl (.tmp 74) (.tmp 78) rfl OneE.enc oneT _ _ (l.take l.length) rfl (by rw [htk]; rfl) ((HS _).take _) (by omega) (by unfold maxLen; omega) ?_; intro A1 c1 w1 ho1 hm1 hb1; rw [htk] at ho1; have l1 := later hb1; have l11 : Later w1 w1 := Later.refl)
        have qz := blk_cell (B3 w1).1 0
        have q0 := blk_cell (B4 w1).1 0
        have q1 := blk_cell (B4 w1).1 1
        have q2 := blk_cell (B4 w1).1 2
        have q3 := blk_cell (B4 w1).1 3
        have q4 := blk_cell (B4 w1).1 4
        have q5 := blk_cell (B4 w1).1 5
        have q6 := blk_cell (B4 w1).1 6
        have q7 := blk_cell (B4 w1).1 7
        have q8 := blk_cell (B4 w1).1 8
        have q9 := blk_cell (B4 w1).1 9
        have q10 := blk_cell (B4 w1).1 10
        have q11 := blk_cell (B4 w1).1 11
        simp at qz q0 q1 q2 q3 q4 q5 q6 q7 q8 q9 q10 q11
        have hz1 := hb1.size
        have hne3 : ¬ w.heap.size = w.heap.size + 1 + 1 := by omega
        go_region_held3 (fun w' => w'.cell? ⟨w.heap.size, 0, none⟩ = some (.slice (some ad) l.length c) ∧ w'.cell? ⟨w.heap.size + 1, 0, none⟩ = some (.int .i64 kc) ∧ w'.cell? ⟨w.heap.size + 1, 1, none⟩ = some (.int .u64 kn) ∧ w'.cell? ⟨w.heap.size + 1, 2, none⟩ = some (.int .i64 km) ∧ w'.cell? ⟨w.heap.size + 1, 3, none⟩ = some (.int .i64 kr) ∧ w'.cell? ⟨w.heap.size + 1, 4, none⟩ = some (.int .i64 ko) ∧ w'.cell? ⟨w.heap.size + 1, 5, none⟩ = some (.int .i64 ki) ∧ w'.cell? ⟨w.heap.size + 1, 6, none⟩ = some (.int .i64 kd) ∧ w'.cell? ⟨w.heap.size + 1, 7, none⟩ = some (.bool kt) ∧ w'.cell? ⟨w.heap.size + 1, 8, none⟩ = some (.bool kw) ∧ w'.cell? ⟨w.heap.size + 1, 9, none⟩ = some (.bool kg) ∧ w'.cell? ⟨w.heap.size + 1, 10, none⟩ = some (.int .i64 k10) ∧ w'.cell? ⟨w.heap.size + 1, 11, none⟩ = some (.int .i64 k11)) (first | go_keep | (refine ⟨pz9 _, ?_, ?_, ?_, ?_, ?_, ?_, ?_, ?_, ?_, ?_, ?_, ?_⟩ <;> first | exact p0s _ 0 | exact p0s _ 1 | exact p0s _ 2 | exact p0s _ 3 | exact p0s _ 4 | exact p0s _ 5 | exact p0s _ 6 | exact p0s _ 7 | exact p0s _ 8 | exact p0s _ 9 | exact p0s _ 10 | exact p0s _ 11))
          ((first
            | (have ho9 := ho2
               refine step_app (P := Try.prog) rfl (.tmp 85) (.tmp 89) (by rfl) OneE.enc oneT _ _ ([] : List OneE) (l.take l.length ++ [toOne ⟨kc, kn, km, kr, ko, ki, kd, kt, kw, kg, k10, k11⟩]) (.slice A2 (l.length + 1) c2) (by rfl) (by rfl) (m := 0) (n := l.length + 1) rfl (by simp only [List.length_append, htk, List.length_singleton] <;> omega) (ho2.later _) SlAt.nil (by omega) (by simp [maxLen]; omega) (by first | (simp; done) | (simp; omega) | omega) ?_
               intro A3 c3 w3 ho3 hm3 hb3 hg3
               have l3 := later_base (W := wd) hb3
               have hz3 : wd.heap.size ≤ w3.heap.size := (l3 wd).below.size
               have l33 : Later w3 w3 := Later.refl
               have pz9 := fun v => (blk_cell ((blk_far (p := ⟨w.heap.size + 1 + 1, 0, none⟩) (show w.heap.size ≠ w.heap.size + 1 + 1 by omega) v).trans (B3 w3).1) 0).trans rfl
               have p0s := fun v i => blk_cell ((blk_far (p := ⟨w.heap.size + 1 + 1, 0, none⟩) (show w.heap.size + 1 ≠ w.heap.size + 1 + 1 by omega) v).trans (B4 w3).1) i
               have pz := blk_cell (B3 w3).1 0
               have p0 := blk_cell (B4 w3).1 0
               have p1 := blk_cell (B4 w3).1 1
               have p2 := blk_cell (B4 w3).1 2
               have p3 := blk_cell (B4 w3).1 3
               have p4 := blk_cell (B4 w3).1 4
               have p5 := blk_cell (B4 w3).1 5
               have p6 := blk_cell (B4 w3).1 6
               have p7 := blk_cell (B4 w3).1 7
               have p8 := blk_cell (B4 w3).1 8
               have p9 := blk_cell (B4 w3).1 9
               have p10 := blk_cell (B4 w3).1 10
               have p11 := blk_cell (B4 w3).1 11
               simp at pz p0 p1 p2 p3 p4 p5 p6 p7 p8 p9 p10 p11)
            | (refine step_app rfl (.tmp 80) (.tmp 84) (by rfl) OneE.enc oneT _ _ [toOne ⟨kc, kn, km, kr, ko, ki, kd, kt, kw, kg, k10, k11⟩] (l.take l.length) (.slice A1 l.length c1) (by rfl) (by rfl) (m := 1) (n := l.length + 1) rfl (by rw [htk]) (ho1.later _) (blk_slAt OneE.enc (fr := (0, 0)) (e := 99) (by (simp only [heap_drew, heap_alloc_if, World.size_alloc]); (repeat (first | rw [if_pos rfl] | rw [if_neg (by omega)] | rw [if_pos (by omega)])); try rfl) [toOne ⟨kc, kn, km, kr, ko, ki, kd, kt, kw, kg, k10, k11⟩] (by rfl)) (by omega) (by simp [maxLen]; omega) (by first | (simp; done) | (simp; omega) | omega) ?_
               intro A2 c2 w2 ho2 hm2 hb2 hg2
               have l2 := later_base (W := wd) hb2
               have hz2 : wd.heap.size ≤ w2.heap.size := (l2 wd).below.size
               have l22 : Later w2 w2 := Later.refl
               have pz := blk_cell (B3 w2).1 0
               have p0 := blk_cell (B4 w2).1 0
               have p1 := blk_cell (B4 w2).1 1
               have p2 := blk_cell (B4 w2).1 2
               have p3 := blk_cell (B4 w2).1 3
               have p4 := blk_cell (B4 w2).1 4
               have p5 := blk_cell (B4 w2).1 5
               have p6 := blk_cell (B4 w2).1 6
               have p7 := blk_cell (B4 w2).1 7
               have p8 := blk_cell (B4 w2).1 8
               have p9 := blk_cell (B4 w2).1 9
               have p10 := blk_cell (B4 w2).1 10
               have p11 := blk_cell (B4 w2).1 11
               simp at pz p0 p1 p2 p3 p4 p5 p6 p7 p8 p9 p10 p11)
            ))
        all_goals go_wp2_with fail
        all_goals
          have hW := blk_set (B6 w3).1 0 (.slice A3 (l.length + 1) c3)
          have r0 := blk_cell hW 0
          simp at r0
          obtain ⟨q, hq⟩ : ∃ q, q = l.take l.length ++ [toOne ⟨kc, kn, km, kr, ko, ki, kd, kt, kw, kg, k10, k11⟩] ++ ([] : List OneE) := ⟨_, rfl⟩
          rw [← hq] at ho3
          have hqlen : q.length = l.length + 1 := (ho3.at_ OneE.enc).1.symm
          have hbE : Below w.heap.size w w3 := below_of
          have hat := (ho3.set (p := ⟨w.heap.size + 1 + 1, 0, none⟩) hz6 (.slice A3 (l.length + 1) c3)).mono (show w.heap.size ≤ wd.heap.size by omega)
          have hat2 : Own OneE.cells 13 99 w.heap.size (w3.setCell ⟨w.heap.size + 1 + 1, 0, none⟩ (.slice A3 (l.length + 1) c3)) (.slice A3 q.length c3) q := by rw [hqlen]; exact hat
          refine bodyPost_ret (v := .tuple #[.agg #[.slice A3 q.length c3], .int .i64 0]) (by simp [results, Try.results21, go_sem, r0, hqlen]) rfl ?_
          refine ⟨A3, c3, q, 0, rfl, hide (fun _ => ⟨HV.out, Hno.out, hqlen, fun o ho => ?_, ?_⟩), fun _ => ⟨hat2, hm3⟩, hbE.setCell (p := ⟨w.heap.size + 1 + 1, 0, none⟩) (by simp <;> omega) _⟩
          · have h2 : o ∈ l.take l.length ++ l.drop l.length := by rw [List.take_append_drop]; exact ho
            rw [hdr] at h2
            rw [hq]
            rcases List.mem_append.1 h2 with h2 | h2
            · exact List.mem_append_left _ (List.mem_append_left _ h2)
            · exact List.mem_append_right _ h2
          · rw [hq]
            exact List.mem_append_left _ (List.mem_append_right _ (List.mem_singleton.2 rfl))
end Go.Proofs.Ytomgdkfoinojiaa
