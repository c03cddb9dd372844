/-
  Contracts of the functions of this seat that each theorem names: what a call returns, and that it writes nothing that was there before. The conditions stand in each theorem.
-/
import Derived.Test.YtnfpbkimdhhmfaaG30Data
import Derived.Test.YtnfpbkimdhhmfaaOwnLib
namespace Go.Proofs.Ytnfpbkimdhhmfaa
open Go.RowKit
attribute [local go_sem ↓] run_eql_id run_neq_id
attribute [local go_sem] Instr.makeFunc
attribute [local simp] heap_drew
theorem msgT : ElemT Try.prog 33 55 39 448 := ElemT.mk' (z := .agg #[.int .i64 0, .int .u64 0, .int .i64 0, .string ⟨#[]⟩, .int .i64 0, .int .i64 0, .int .i64 0, .int .u64 0, .int .i64 0, .int .i64 0, .int .i64 0, .bool false, .int .i64 0, .int .i64 0, .string ⟨#[]⟩, .slice none 0 0, .int .u64 0, .int .i64 0, .int .i64 0, .int .i64 0, .int .i64 0, .slice none 0 0, .slice none 0 0, .slice none 0 0, .int .i64 0, .int .i64 0, .int .i64 0, .int .i64 0, .int .u64 0, .int .i64 0, .bool false, .bool false, .int .i64 0, .slice none 0 0, .int .i64 0, .int .i64 0, .slice none 0 0, .slice none 0 0, .slice none 0 0]) Try.underlying33 (by kernel_rfl) rfl
@[ext] structure ScionE where
  client : Int
  number : Int
  iDMachine : Int
  iDSerial : Int
  out : Int
  inn : Int
  distance : Int
  touched : Bool
  weak : Bool
  garbage : Bool
  lockMachine : Int
  lockSerial : Int
def ScionE.cells (e : ScionE) : List Value := [.int .i64 e.client, .int .u64 e.number, .int .i64 e.iDMachine, .int .i64 e.iDSerial, .int .i64 e.out, .int .i64 e.inn, .int .i64 e.distance, .bool e.touched, .bool e.weak, .bool e.garbage, .int .i64 e.lockMachine, .int .i64 e.lockSerial]
theorem ScionE.cells_length (e : ScionE) : e.cells.length = 12 := rfl
abbrev ScionE.v (e : ScionE) : Value := .agg #[.int .i64 e.client, .int .u64 e.number, .int .i64 e.iDMachine, .int .i64 e.iDSerial, .int .i64 e.out, .int .i64 e.inn, .int .i64 e.distance, .bool e.touched, .bool e.weak, .bool e.garbage, .int .i64 e.lockMachine, .int .i64 e.lockSerial]
abbrev ScionE.arr (e : ScionE) : Array Value := #[.int .i64 e.client, .int .u64 e.number, .int .i64 e.iDMachine, .int .i64 e.iDSerial, .int .i64 e.out, .int .i64 e.inn, .int .i64 e.distance, .bool e.touched, .bool e.weak, .bool e.garbage, .int .i64 e.lockMachine, .int .i64 e.lockSerial]
theorem ScionE.facts {e : ScionE} {w : World} {b off k : Nat} (h : ∀ j u, e.cells[j]? = some u → w.cell? ⟨b, off + k * 12 + j, none⟩ = some u) : w.cell? ⟨b, off + k * 12, none⟩ = some (.int .i64 e.client) ∧ w.cell? ⟨b, off + k * 12 + 1, none⟩ = some (.int .u64 e.number) ∧ w.cell? ⟨b, off + k * 12 + 2, none⟩ = some (.int .i64 e.iDMachine) ∧ w.cell? ⟨b, off + k * 12 + 3, none⟩ = some (.int .i64 e.iDSerial) ∧ w.cell? ⟨b, off + k * 12 + 4, none⟩ = some (.int .i64 e.out) ∧ w.cell? ⟨b, off + k * 12 + 5, none⟩ = some (.int .i64 e.inn) ∧ w.cell? ⟨b, off + k * 12 + 6, none⟩ = some (.int .i64 e.distance) ∧ w.cell? ⟨b, off + k * 12 + 7, none⟩ = some (.bool e.touched) ∧ w.cell? ⟨b, off + k * 12 + 8, none⟩ = some (.bool e.weak) ∧ w.cell? ⟨b, off + k * 12 + 9, none⟩ = some (.bool e.garbage) ∧ w.cell? ⟨b, off + k * 12 + 10, none⟩ = some (.int .i64 e.lockMachine) ∧ w.cell? ⟨b, off + k * 12 + 11, none⟩ = some (.int .i64 e.lockSerial) :=
  ⟨by simpa using h 0 _ rfl, by simpa using h 1 _ rfl, by simpa using h 2 _ rfl, by simpa using h 3 _ rfl, by simpa using h 4 _ rfl, by simpa using h 5 _ rfl, by simpa using h 6 _ rfl, by simpa using h 7 _ rfl, by simpa using h 8 _ rfl, by simpa using h 9 _ rfl, by simpa using h 10 _ rfl, by simpa using h 11 _ rfl⟩
/-- The element lies there, in each later world. -/
abbrev ScionE.Has (w : World) (b off k : Nat) (e : ScionE) : Prop := ∀ (u : World) [Later w u], u.cell? ⟨b, off + k * 12, none⟩ = some (.int .i64 e.client) ∧ u.cell? ⟨b, off + k * 12 + 1, none⟩ = some (.int .u64 e.number) ∧ u.cell? ⟨b, off + k * 12 + 2, none⟩ = some (.int .i64 e.iDMachine) ∧ u.cell? ⟨b, off + k * 12 + 3, none⟩ = some (.int .i64 e.iDSerial) ∧ u.cell? ⟨b, off + k * 12 + 4, none⟩ = some (.int .i64 e.out) ∧ u.cell? ⟨b, off + k * 12 + 5, none⟩ = some (.int .i64 e.inn) ∧ u.cell? ⟨b, off + k * 12 + 6, none⟩ = some (.int .i64 e.distance) ∧ u.cell? ⟨b, off + k * 12 + 7, none⟩ = some (.bool e.touched) ∧ u.cell? ⟨b, off + k * 12 + 8, none⟩ = some (.bool e.weak) ∧ u.cell? ⟨b, off + k * 12 + 9, none⟩ = some (.bool e.garbage) ∧ u.cell? ⟨b, off + k * 12 + 10, none⟩ = some (.int .i64 e.lockMachine) ∧ u.cell? ⟨b, off + k * 12 + 11, none⟩ = some (.int .i64 e.lockSerial)
theorem ScionE.has {e : ScionE} {w : World} {b off k : Nat} (hb : b < w.heap.size) (h : ∀ j u, e.cells[j]? = some u → w.cell? ⟨b, off + k * 12 + j, none⟩ = some u) : ScionE.Has w b off k e := fun u i => ScionE.facts fun j v hv => (i.below.cell (p := ⟨b, _, none⟩) hb).trans (h j v hv)
theorem ScionE.get {w : World} {A : Option Addr} {l : List ScionE} (h : SlAt ScionE.cells 12 w A l) {k : Nat} (hk : k < l.length) : ∃ b off x, A = some ⟨b, off, none⟩ ∧ l[k]? = some x ∧ ScionE.Has w b off k x := by
  obtain ⟨b, off, x, hA, hb, hx, hc⟩ := h.at_ hk
  exact ⟨b, off, x, hA, hx, ScionE.has hb hc⟩
def ScionE.beq (x y : ScionE) : Bool := x.client == y.client && x.number == y.number && x.iDMachine == y.iDMachine && x.iDSerial == y.iDSerial && x.out == y.out && x.inn == y.inn && x.distance == y.distance && x.touched == y.touched && x.weak == y.weak && x.garbage == y.garbage && x.lockMachine == y.lockMachine && x.lockSerial == y.lockSerial
theorem ScionE.beq_iff {x y : ScionE} : x.beq y = true ↔ x = y := by
  cases x; cases y; simp [ScionE.beq, Bool.and_eq_true, and_assoc]
theorem ScionE.enc : Enc ScionE.cells 12 := ⟨fun _ => rfl, fun x u hu => by simp only [ScionE.cells, List.mem_cons, List.not_mem_nil, or_false] at hu; rcases hu with rfl | rfl | rfl | rfl | rfl | rfl | rfl | rfl | rfl | rfl | rfl | rfl <;> rfl, by decide⟩
def idC (e : ScionE) : IDE := ⟨e.iDMachine, e.iDSerial⟩
/-- A message about a dead object. -/
structure MsgE where
  number : Int
  asker : Int
abbrev MsgE.arr (m : MsgE) : Array Value := #[.int .i64 5, .int .u64 m.number, .int .i64 m.asker, .string ⟨#[]⟩, .int .i64 0, .int .i64 0, .int .i64 0, .int .u64 0, .int .i64 0, .int .i64 0, .int .i64 0, .bool false, .int .i64 0, .int .i64 0, .string ⟨#[]⟩, .slice none 0 0, .int .u64 0, .int .i64 0, .int .i64 0, .int .i64 0, .int .i64 0, .slice none 0 0, .slice none 0 0, .slice none 0 0, .int .i64 0, .int .i64 0, .int .i64 0, .int .i64 0, .int .u64 0, .int .i64 0, .bool false, .bool false, .int .i64 0, .slice none 0 0, .int .i64 0, .int .i64 0, .slice none 0 0, .slice none 0 0, .slice none 0 0]
def MsgE.cells (m : MsgE) : List Value := [.int .i64 5, .int .u64 m.number, .int .i64 m.asker, .string ⟨#[]⟩, .int .i64 0, .int .i64 0, .int .i64 0, .int .u64 0, .int .i64 0, .int .i64 0, .int .i64 0, .bool false, .int .i64 0, .int .i64 0, .string ⟨#[]⟩, .slice none 0 0, .int .u64 0, .int .i64 0, .int .i64 0, .int .i64 0, .int .i64 0, .slice none 0 0, .slice none 0 0, .slice none 0 0, .int .i64 0, .int .i64 0, .int .i64 0, .int .i64 0, .int .u64 0, .int .i64 0, .bool false, .bool false, .int .i64 0, .slice none 0 0, .int .i64 0, .int .i64 0, .slice none 0 0, .slice none 0 0, .slice none 0 0]
theorem MsgE.enc : Enc MsgE.cells 39 := ⟨fun _ => rfl, fun x u hu => by
  simp only [MsgE.cells, List.mem_cons, List.not_mem_nil, or_false] at hu
  rcases hu with rfl | rfl | rfl | rfl | rfl | rfl | rfl | rfl | rfl | rfl | rfl | rfl | rfl | rfl | rfl | rfl | rfl | rfl | rfl | rfl | rfl | rfl | rfl | rfl | rfl | rfl | rfl | rfl | rfl | rfl | rfl | rfl | rfl | rfl | rfl | rfl | rfl | rfl | rfl <;> rfl, by decide⟩
/-- An object is dead: the zero one, or one whose first entry says so. -/
def deadB (es : List StubE) (x : IDE) : Bool := decide (x = ⟨0, 0⟩) || (match es.find? (fun e => decide (idS e = x)) with | some e => e.dead | none => false)
def msgOf (es : List StubE) (s : ScionE) : Option MsgE := if (s.weak || s.garbage) && deadB es (idC s) then some ⟨s.number, s.client⟩ else none
def msgL (es : List StubE) (l : List ScionE) : List MsgE := l.filterMap (msgOf es)
theorem msgL_take {es : List StubE} {l : List ScionE} {k : Nat} {e : ScionE} (h : l[k]? = some e) : msgL es (l.take (k + 1)) = msgL es (l.take k) ++ (msgOf es e).toList := by
  unfold msgL
  rw [take_snoc_get h, List.filterMap_append]
  cases hc : msgOf es e <;> simp [hc]
theorem msgL_len {es : List StubE} {l : List ScionE} {k : Nat} : (msgL es (l.take k)).length ≤ k := Nat.le_trans (List.length_filterMap_le _ _) (by rw [List.length_take]; omega)
def MsgPost (es : List StubE) (l : List ScionE) (w : World) (r : Ending) (w' : World) : Prop := ∃ o A c, Hid (o = msgL es l) ∧ r = .returned (.slice A o.length c) ∧ Own MsgE.cells 39 55 w.heap.size w' (.slice A o.length c) o ∧ Below w.heap.size w w'
theorem findS_hit {es : List StubE} {k : Nat} {e : StubE} {x : IDE} (he : es[k]? = some e) (hp : decide (idS e = x) = true) (hno : NoneTo (fun e : StubE => decide (idS e = x)) es k) : es.find? (fun e => decide (idS e = x)) = some e := by
  rw [List.find?_eq_some_iff_getElem]
  have hk : k < es.length := (List.getElem?_eq_some_iff.1 he).1
  refine ⟨hp, k, hk, (List.getElem?_eq_some_iff.1 he).2, fun j hj => ?_⟩
  have := hno j es[j] hj (List.getElem?_eq_getElem (by omega))
  simpa using this
theorem findS_miss {es : List StubE} {x : IDE} (hno : NoneTo (fun e : StubE => decide (idS e = x)) es es.length) : es.find? (fun e => decide (idS e = x)) = none := by
  rw [List.find?_eq_none]
  intro e he
  obtain ⟨j, hj⟩ := List.getElem?_of_mem he
  simpa using hno j e (List.getElem?_eq_some_iff.1 hj).1 hj
theorem ideqS (e : StubE) (x : IDE) : ideq e.iDMachine e.iDSerial x.machine x.serial = decide (idS e = x) := @ideq_iff (idS e) x
set_option maxHeartbeats 1000000 in
theorem dead11_any (W : World) (bo : Nat) (x : IDE) (HB : Boxed W bo x.arr 37) (e : StubE) (w : World) [Later W w] : Calls Try.prog 31 #[e.v, .pointer (some ⟨bo, 0, none⟩)] w fun r w' => r = .returned (.bool (decide (idS e = x))) ∧ Below w.heap.size w w' := by
  have hq := ideqS e x
  go_enter Try.func31, Try.ntmps31
  go_wp2_with fail
  go_ret
  exact ⟨ret_bool (by simp [hq]), below_of⟩
set_option maxRecDepth 100000 in
set_option maxHeartbeats 2000000 in
theorem idxDead_any (W : World) (bo : Nat) (x : IDE) (HB : Boxed W bo x.arr 37) (A : Option Addr) (c : Nat) (xs : List StubE) (w : World) [kW : Later W w] (hs : SlAt StubE.cells 12 w A xs) (hl : xs.length ≤ 1000000000) :
    Calls Try.prog 30 #[.slice A xs.length c, .func (.func 31) #[] #[.pointer (some ⟨bo, 0, none⟩)]] w fun r w' => r = .returned (.int .i64 (idxOf (fun e : StubE => decide (idS e = x)) xs)) ∧ Below w.heap.size w w' := by
  have Hs : ∀ u [Later w u], SlAt StubE.cells 12 u A xs := fun u i => hs.below i.below
  have hl' : xs.length ≤ 9223372036854775807 := by omega
  obtain ⟨p, hp⟩ : ∃ p, p = (fun e : StubE => decide (idS e = x)) := ⟨_, rfl⟩
  rw [← hp]
  have HCx : ∀ u [Later W u] (n : StubE), Calls Try.prog 31 #[n.v, .pointer (some ⟨bo, 0, none⟩)] u fun r w' => r = .returned (.bool (p n)) ∧ Below u.heap.size u w' := fun u i n => by rw [hp]; exact dead11_any W bo x HB n u
  clear hp
  go_enter Try.func30, Try.ntmps30
  go_wp2_with fail
  go_loopw [5, 8] (fun _ i wr => ∃ k : Nat, k ≤ xs.length ∧ i = .int .i64 k ∧ NoneTo p xs k ∧ Below w.heap.size w wr) (fun _ i _ => xs.length - (intOf i).toNat)
  case atStart => exact ⟨0, by omega, rfl, NoneTo.zero, Below.refl _ _⟩
  case round =>
    obtain ⟨k, hk, rfl, hno, hbr⟩ := hrel
    have lr := later hbr
    have Hno := hide hno
    clear hno
    by_cases hlt : k < xs.length
    · obtain ⟨g, o, n, rfl, hx, C1⟩ := StubE.get (Hs wr) hlt
      have Hx := hide hx
      clear hx
      have HCn := fun u (i : Later W u) => HCx u n
      clear HCx
      cases hp : p n <;> simp only [hp] at HCn
      · go_wp2_with (go_at_call 31; refine (HCn _ inferInstance).mono ?_; rintro r w1 ⟨rfl, hb1⟩; have l1 := later hb1)
        go_roundw
        case rel => exact ⟨k + 1, by omega, by go_num, Hno.out.succ Hx.out hp, below_of⟩
        case measure => simp [intOf]; omega
      · have HI := hide (idxOf_hit Hx.out hp Hno.out)
        go_wp2_with (go_at_call 31; refine (HCn _ inferInstance).mono ?_; rintro r w1 ⟨rfl, hb1⟩; have l1 := later hb1)
        go_ret
        exact ⟨ret_int HI.out.symm, below_of⟩
    · have hk' : k = xs.length := by omega
      subst hk'
      have HI := hide (idxOf_miss Hno.out)
      go_wp2_with fail
      go_ret
      exact ⟨ret_int HI.out.symm, below_of⟩
set_option maxRecDepth 100000 in
set_option maxHeartbeats 2000000 in
theorem dead1_any (W : World) (bo : Nat) (EA : Option Addr) (ec : Nat) (es : List StubE) (HB : Boxed W bo #[.slice EA es.length ec] 26) (hs : SlAt StubE.cells 12 W EA es) (hl : es.length ≤ 1000000000) (x : IDE) (w : World) [kW : Later W w] :
    Calls Try.prog 29 #[x.v, .pointer (some ⟨bo, 0, none⟩)] w fun r w' => r = .returned (.bool (deadB es x)) ∧ Below w.heap.size w w' := by
  have Hs : ∀ u [Later W u], SlAt StubE.cells 12 u EA es := fun u i => hs.below i.below
  obtain ⟨V, hV⟩ : ∃ V, V = deadB es x := ⟨_, rfl⟩
  rw [← hV]
  have HV := hide hV
  clear hV
  have hz : ideq x.machine x.serial 0 0 = decide (x = ⟨0, 0⟩) := @ideq_iff x ⟨0, 0⟩
  have Hz := hide hz
  go_enter Try.func29, Try.ntmps29
  go_upto_region 1 with fail
  refine wp_name ?_
  intro w0 hw0
  obtain ⟨B0, l0⟩ := box1 hw0
  clear hw0 hz
  have HI : ∀ u [Later w0 u], Calls Try.prog 30 #[.slice EA es.length ec, .func (.func 31) #[] #[.pointer (some ⟨w.heap.size, 0, none⟩)]] u fun r w' => r = .returned (.int .i64 (idxOf (fun e : StubE => decide (idS e = x)) es)) ∧ Below u.heap.size u w' := fun u i => by haveI := (l0 W).trans i; exact idxDead_any w0 _ x B0 EA ec es u (Hs u) hl
  rcases idxOf_cases (fun e : StubE => decide (idS e = x)) es with ⟨hi, hno⟩ | ⟨k, e, hi, hx, hp, hno⟩
  · rw [hi] at HI
    have hv := hide (show V = decide (x = ⟨0, 0⟩) by rw [HV.out]; unfold deadB; rw [findS_miss hno]; simp)
    clear hi hno
    cases hzz : ideq x.machine x.serial 0 0
    all_goals
      go_wp2_with (go_at_call 30; refine (HI _).mono ?_; rintro r w1 ⟨rfl, hb1⟩; have l1 := later hb1)
      go_ret
      exact ⟨ret_bool (by rw [hv.out, ← Hz.out, hzz]), below_of⟩
  · rw [hi] at HI
    have hv := hide (show V = (decide (x = ⟨0, 0⟩) || e.dead) by rw [HV.out]; unfold deadB; rw [findS_hit hx hp hno])
    have hk : k < es.length := (List.getElem?_eq_some_iff.1 hx).1
    have hki : (k : Int) < (es.length : Int) := by omega
    have hk0 : (0 : Int) ≤ (k : Int) := by omega
    obtain ⟨b1, o1, e', rfl, hx', C1⟩ := StubE.get (Hs w) hk
    rw [hx] at hx'
    injection hx' with hx'
    subst hx'
    clear hi hno hx hp
    cases hzz : ideq x.machine x.serial 0 0
    all_goals
      go_wp2_with (go_at_call 30; refine (HI _).mono ?_; rintro r w1 ⟨rfl, hb1⟩; have l1 := later hb1)
      go_ret
      exact ⟨ret_bool (by rw [hv.out, ← Hz.out, hzz]; simp), below_of⟩
end Go.Proofs.Ytnfpbkimdhhmfaa
