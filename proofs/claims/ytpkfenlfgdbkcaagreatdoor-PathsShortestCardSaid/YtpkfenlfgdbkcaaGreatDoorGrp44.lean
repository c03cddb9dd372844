/-
  Small texts of this seat, put into one. Conditions stand in each theorem.
-/
import Derived.Test.YtpkfenlfgdbkcaaGreatDoorP59Step
import Derived.Test.YtpkfenlfgdbkcaaGreatDoorGrp43
import Derived.Deep.RegionHeld3
set_option linter.unusedSimpArgs false
set_option linter.unusedVariables false
namespace Go.Proofs.YtpkfenlfgdbkcaaGreatDoor
open Go.RowKit
set_option maxHeartbeats 800000 in
theorem run_eql_StepE (x y : StepE) (w : World) : (binOp .eql 44 x.v y.v).run Tryz.prog w = .ok (.bool (StepE.beq x y)) w := by
  have ht : Tryz.prog.underlying 44 = some (.struct (Tryz.prog.fieldsOf 44)) := by kernel_rfl
  have hp : Tryz.prog.stoodInHeld 44 = false := by kernel_rfl
  have hu := Tryz.underlying44
  rw [run_eql_struct, run_equalIn_struct w 9999 44 _ _ ht hp]
  obtain ⟨fs, hfs⟩ : ∃ fs, Tryz.prog.fieldsOf 44 = fs := ⟨_, rfl⟩
  rw [hfs] at ht ⊢
  rw [hu] at ht
  have ht2 := TypeDesc.struct.inj (Option.some.inj ht)
  subst ht2
  simp only [Op.eqFields, ne_eq]
  simp [go_sem, StepE.beq]
  clear hfs hu ht hp
  by_cases h0 : x.machine = y.machine
  rotate_left
  · rw [if_neg h0]
    simp [beq_eq_false_iff_ne.2 h0]
  rw [if_pos h0]
  have e0 := beq_iff_eq.2 h0
  by_cases h1 : x.iDMachine = y.iDMachine
  rotate_left
  · rw [if_neg h1]
    simp [beq_eq_false_iff_ne.2 h1]
  rw [if_pos h1]
  have e1 := beq_iff_eq.2 h1
  by_cases h2 : x.iDSerial = y.iDSerial
  rotate_left
  · rw [if_neg h2]
    simp [beq_eq_false_iff_ne.2 h2]
  rw [if_pos h2]
  have e2 := beq_iff_eq.2 h2
  by_cases h3 : x.field = y.field
  rotate_left
  · rw [if_neg h3]
    simp [beq_eq_false_iff_ne.2 h3]
  rw [if_pos h3]
  have e3 := beq_iff_eq.2 h3
  simp only [e0, e1, e2, e3]
  rfl
set_option maxHeartbeats 800000 in
theorem run_neq_StepE (x y : StepE) (w : World) : (binOp .neq 44 x.v y.v).run Tryz.prog w = .ok (.bool (!StepE.beq x y)) w := by
  have ht : Tryz.prog.underlying 44 = some (.struct (Tryz.prog.fieldsOf 44)) := by kernel_rfl
  have hp : Tryz.prog.stoodInHeld 44 = false := by kernel_rfl
  have hu := Tryz.underlying44
  rw [run_neq_struct, run_equalIn_struct w 9999 44 _ _ ht hp]
  obtain ⟨fs, hfs⟩ : ∃ fs, Tryz.prog.fieldsOf 44 = fs := ⟨_, rfl⟩
  rw [hfs] at ht ⊢
  rw [hu] at ht
  have ht2 := TypeDesc.struct.inj (Option.some.inj ht)
  subst ht2
  simp only [Op.eqFields, ne_eq]
  simp [go_sem, StepE.beq]
  clear hfs hu ht hp
  by_cases h0 : x.machine = y.machine
  rotate_left
  · rw [if_neg h0]
    simp [beq_eq_false_iff_ne.2 h0]
  rw [if_pos h0]
  have e0 := beq_iff_eq.2 h0
  by_cases h1 : x.iDMachine = y.iDMachine
  rotate_left
  · rw [if_neg h1]
    simp [beq_eq_false_iff_ne.2 h1]
  rw [if_pos h1]
  have e1 := beq_iff_eq.2 h1
  by_cases h2 : x.iDSerial = y.iDSerial
  rotate_left
  · rw [if_neg h2]
    simp [beq_eq_false_iff_ne.2 h2]
  rw [if_pos h2]
  have e2 := beq_iff_eq.2 h2
  by_cases h3 : x.field = y.field
  rotate_left
  · rw [if_neg h3]
    simp [beq_eq_false_iff_ne.2 h3]
  rw [if_pos h3]
  have e3 := beq_iff_eq.2 h3
  simp only [e0, e1, e2, e3]
  rfl
instance : DecidableEq StepE := fun a b => decidable_of_iff (a.beq b = true) StepE.beq_iff
attribute [local go_sem ↓] run_eql_id run_neq_id run_neq_StepE run_eql_StepE
attribute [local simp] heap_drew
set_option maxRecDepth 100000 in
set_option maxHeartbeats 4000000 in
theorem same59_any (aA : Option Addr) (ap : Nat) (af : List StepE) (bA : Option Addr) (bp : Nat) (bf : List StepE) (w : World) (ha : SlAt StepE.cells 4 w aA af) (hb : SlAt StepE.cells 4 w bA bf) (hal : af.length ≤ 1000000000) (hbl : bf.length ≤ 1000000000) :
    Calls Tryz.prog 13 #[.slice aA af.length ap, .slice bA bf.length bp] w fun r w' => r = .returned (.bool (decide (af = bf))) ∧ Below w.heap.size w w' := by
  have HA : ∀ u [Later w u], SlAt StepE.cells 4 u aA af := fun u i => ha.below i.below
  have HB : ∀ u [Later w u], SlAt StepE.cells 4 u bA bf := fun u i => hb.below i.below
  have hal' : af.length ≤ 9223372036854775807 := by omega
  have hbl' : bf.length ≤ 9223372036854775807 := by omega
  obtain ⟨R, hR⟩ : ∃ R, R = decide (af = bf) := ⟨_, rfl⟩
  rw [← hR]
  have HR := hide hR
  clear hR
  have lww : Later w w := Later.refl
  go_enter Tryz.func13, Tryz.ntmps13
  by_cases hl : af.length = bf.length
  rotate_left
  · have q4 : ((af.length : Int) != (bf.length : Int)) = true := by simp; omega
    have hr := hide (show R = false by rw [HR.out]; exact decide_eq_false fun h => hl (by rw [h]))
    clear hl
    go_wp2_with fail
    go_ret
    exact ⟨ret_bool hr.out.symm, below_of⟩
  have Hl := hide hl
  have q4 : ((af.length : Int) != (bf.length : Int)) = false := by simp [hl]
  clear hl
  go_wp2_with fail
  go_loopw [5] (fun i wr => ∃ k : Nat, k ≤ af.length ∧ i = .int .i64 k ∧ Hid (∀ (j : Nat) (x y : StepE), j < k → af[j]? = some x → bf[j]? = some y → x = y) ∧ Below w.heap.size w wr) (fun i _ => af.length - (intOf i).toNat)
  case atStart => exact ⟨0, by omega, rfl, hide fun j _ _ h => absurd h (by omega), Below.refl _ _⟩
  case round =>
    obtain ⟨k, hk, rfl, Hall, hbw⟩ := hrel
    have lr := later hbw
    by_cases hlt : k < af.length
    · have hlt2 : k < bf.length := by rw [← Hl.out]; exact hlt
      have hki : (k : Int) < (af.length : Int) := by omega
      have hki2 : (k : Int) < (bf.length : Int) := by omega
      obtain ⟨g1, o1, x, rfl, hx, C1⟩ := StepE.get (HA wr) hlt
      obtain ⟨g2, o2, y, rfl, hy, C2⟩ := StepE.get (HB wr) hlt2
      have Hx := hide hx
      have Hy := hide hy
      clear hx hy
      go_upto_region 6 with fail
      (refine wp_region_after (by kernel_rfl) (by kernel_rfl) ?_
       repeat (any_goals (first | go_big_quiet_skip | (go_big_quiet_want; go_big_quiet_op; first | go_big_quiet_on | go_big_quiet_call (fail)) | quiet_step (fail) | (refine wpQuiet_step (fun K hK => ?_); go_simp; split <;> (refine hK _ ?_; clear hK K))))
       all_goals (refine wpQuiet_nil ?_; intro _ hw'; obtain ⟨u', hw''⟩ := hw'; subst hw''; obtain ⟨wd, hbd⟩ := u'; simp only [After.val_mk]))
      have ld := later hbd
      cases hxy : StepE.beq x y
      · have hr := hide (show R = false by
          rw [HR.out]
          refine decide_eq_false fun h1 => ?_
          have h2 := Hx.out
          rw [h1, Hy.out] at h2
          injection h2 with h2
          rw [StepE.beq_iff.2 h2.symm] at hxy
          cases hxy)
        go_wp2_with fail
        go_ret
        exact ⟨ret_bool hr.out.symm, below_of⟩
      · go_wp2_with fail
        go_roundw
        case rel => exact ⟨k + 1, by omega, by go_num, hide fun j x' y' hj hx' hy' => by
          rcases Nat.lt_or_ge j k with h | h
          · exact Hall.out j x' y' h hx' hy'
          · have : j = k := by omega
            subst this
            rw [Hx.out] at hx'; injection hx' with hx'
            rw [Hy.out] at hy'; injection hy' with hy'
            rw [← hx', ← hy']; exact StepE.beq_iff.1 hxy, below_of⟩
        case measure => simp [intOf]; omega
    · have hk' : k = af.length := by omega
      subst hk'
      have hr := hide (show R = true by
        rw [HR.out]
        refine decide_eq_true (List.ext_getElem? fun j => ?_)
        rcases Nat.lt_or_ge j af.length with h | h
        · have h2 : j < bf.length := by rw [← Hl.out]; exact h
          rw [List.getElem?_eq_getElem h, List.getElem?_eq_getElem h2]
          congr 1
          exact Hall.out j _ _ h (List.getElem?_eq_getElem h) (List.getElem?_eq_getElem h2)
        · rw [List.getElem?_eq_none h, List.getElem?_eq_none (by rw [← Hl.out]; exact h)])
      go_wp2_with fail
      go_ret
      exact ⟨ret_bool hr.out.symm, below_of⟩
end Go.Proofs.YtpkfenlfgdbkcaaGreatDoor

namespace Go.Proofs.YtpkfenlfgdbkcaaGreatDoor
open Go.RowKit
attribute [local go_sem] Oper.semAt_some Instr.makeFunc
attribute [local simp] heap_drew
attribute [local go_sem ↓] load_view_pre load_flight_pre load_msg_pre store_view_pre store_flight_pre store_msg_pre load_scion_pre store_scion_pre
attribute [local go_sem] load_view load_flight load_msg store_view store_flight store_msg load_scion store_scion view_isRow zero_isRow scion_isRow zeroS_isRow rowFree_new setRow_new view_arr0 view_arr2 view_arr3 view_arr4 view_arr5 view_arr6 view_arr9 view_arr10 flight_arr0 flight_arr1 flight_arr2 flight_arr3 flight_arr6 flight_arr7 flight_arr8 flight_arr9 flight_arr10 flight_arr11 flight_arr12 flight_arr13 flight_arr17 flight_arr18 flight_arr19 flight_arr20 flight_arr21 flight_arr22 flight_arr23 flight_arr24 flight_arr25 msg_arr0 msg_arr1 msg_arr4 msg_arr5 msg_arr6 msg_arr7 msg_arr8 msg_arr9 msg_arr10 msg_arr11 msg_arr15 msg_arr16 msg_arr17 msg_arr18 msg_arr19 msg_arr20 msg_arr21 msg_arr22 msg_arr23
attribute [local go_sem ↓] run_eql_id run_neq_id
theorem NamedE.enc : Enc NamedE.cells 3 := ⟨fun _ => rfl, fun x u hu => by simp only [NamedE.cells, List.mem_cons, List.not_mem_nil, or_false] at hu; rcases hu with rfl | rfl | rfl <;> rfl, by decide⟩
theorem ViewE.enc : Enc ViewE.cells 13 := ⟨fun _ => rfl, fun x u hu => by simp only [ViewE.cells, List.mem_cons, List.not_mem_nil, or_false] at hu; rcases hu with rfl | rfl | rfl | rfl | rfl | rfl | rfl | rfl | rfl | rfl | rfl | rfl | rfl <;> rfl, by decide⟩
/-- The example's views: where their lists lie is left open. -/
def exV (o1 f1 t1 n1 o2 s2 : Nat) : List ViewE :=
  [⟨1, 0, some ⟨o1, 0, none⟩, 2, [⟨1, 1, 1, 2, some ⟨f1, 0, none⟩, 1, [⟨2, 0, 2, 1⟩]⟩, ⟨2, 1, 3, 1, none, 0, []⟩], some ⟨t1, 0, none⟩, 1, 1, none, 0, [], some ⟨n1, 0, none⟩, 1, [⟨⟨#[109, 49, 58, 49]⟩, 1, 1⟩], none, 0, [], none, 0, 0, none, 0, 0, none, 0, [], none, 0, [], 0, 0⟩,
   ⟨2, 0, some ⟨o2, 0, none⟩, 2, [⟨2, 1, 0, 1, none, 0, []⟩, ⟨2, 2, 0, 1, none, 0, []⟩], none, 0, 0, some ⟨s2, 0, none⟩, 1, [⟨1, 7, 2, 1, 0, 0, 0, false, false, false, 0, 0⟩], none, 0, [], none, 0, [], none, 0, 0, none, 0, 0, none, 0, [], none, 0, [], 0, 0⟩]
def iA : IDE := ⟨1, 1⟩
def iB : IDE := ⟨2, 1⟩
def stA : StepE := ⟨1, 1, 1, 0⟩
def stB : StepE := ⟨2, 2, 1, -1⟩
section
variable (o1 f1 t1 n1 o2 s2 : Nat)
theorem ex_graph : graphV (exV o1 f1 t1 n1 o2 s2) = ([⟨1, 1, 1, 2, [⟨2, 0, 2, 1⟩]⟩, ⟨2, 1, 0, 1, []⟩, ⟨2, 2, 0, 1, []⟩], 0) := by rfl
theorem ex_roots : rootsV (exV o1 f1 t1 n1 o2 s2) = [iA] := by rfl
theorem ex_home (x : IDE) : homeV (exV o1 f1 t1 n1 o2 s2) iA = (1, true) ∧ homeV (exV o1 f1 t1 n1 o2 s2) iB = (2, true) := ⟨by rfl, by rfl⟩
theorem ex_path : pathV (exV o1 f1 t1 n1 o2 s2) iB = ([stA, stB], 0) := by kernel_rfl
theorem ex_hold : holdersV (exV o1 f1 t1 n1 o2 s2) iB = [stA] := by kernel_rfl
theorem ex_check : checkB (exV o1 f1 t1 n1 o2 s2) [stA, stB] = true := by kernel_rfl
theorem ex_few : FewV (exV o1 f1 t1 n1 o2 s2) := by
  refine ⟨by simp [exV], fun v hv => ?_⟩
  simp only [exV, List.mem_cons, List.not_mem_nil, or_false] at hv
  rcases hv with rfl | rfl <;> exact ⟨by simp, by simp, by simp, by simp, by simp, by simp, by simp, by simp, by simp⟩
theorem ex_ok : ∀ v ∈ exV o1 f1 t1 n1 o2 s2, I64ok v.machine := fun v hv => by
  simp only [exV, List.mem_cons, List.not_mem_nil, or_false] at hv
  rcases hv with rfl | rfl <;> simp [I64ok]
theorem itoa_d (i : Nat) (h : i < 10) : Lib.itoa (i : Int) = [UInt8.ofNat (48 + i)] := by
  unfold Lib.itoa
  rw [if_neg (by omega), Int.toNat_natCast, Lib.decDigits_one h]
abbrev xl1 : List UInt8 := [114, 111, 111, 116, 32, 109, 49, 32, 109, 49, 58, 49, 32, 102, 105, 101, 108, 100, 32, 48]
abbrev xl2 : List UInt8 := [116, 104, 101, 110, 32, 109, 50, 32, 109, 50, 58, 49]
theorem ex_format : formatV (exV o1 f1 t1 n1 o2 s2) [stA, stB] = [xl1, xl2] := by
  have i0 : Lib.itoa 0 = [48] := itoa_d 0 (by decide)
  have i1 : Lib.itoa 1 = [49] := itoa_d 1 (by decide)
  have i2 : Lib.itoa 2 = [50] := itoa_d 2 (by decide)
  have p1 : placeV (exV o1 f1 t1 n1 o2 s2) stA = 109 :: Lib.itoa 1 := by unfold placeV; rw [if_pos (by kernel_rfl)]; rfl
  have p2 : placeV (exV o1 f1 t1 n1 o2 s2) stB = 109 :: Lib.itoa 2 := by unfold placeV; rw [if_pos (by kernel_rfl)]; rfl
  unfold formatV
  rw [if_pos (ex_check ..), show List.zipIdx [stA, stB] = [(stA, 0), (stB, 1)] from rfl, List.map_cons, List.map_cons, List.map_nil]
  unfold lineV
  simp only [p1, p2]
  simp [rootB, thenB, fieldB, nameB, stA, stB, StepE.id, i0, i1, i2]
end
def ExPost (w : World) (r : Ending) (w' : World) : Prop := ∃ g o1 f1 t1 n1 o2 s2 : Nat, r = .returned (.slice (some ⟨g, 0, none⟩) 2 2) ∧ ViewsAt w' (some ⟨g, 0, none⟩) (exV o1 f1 t1 n1 o2 s2) ∧ Below w.heap.size w w'
theorem ex_name {w W : World} {r : Ending} (h : ∀ w0, W = w0 → ExPost w r w0) : ExPost w r W := h W rfl
set_option maxRecDepth 100000 in
set_option maxHeartbeats 4000000 in
theorem exampleV_any (w : World) : Calls Tryz.prog 24 #[] w (ExPost w) := by
  go_enter Tryz.func24, Tryz.ntmps24
  go_upto_region 2 with fail
  refine wp_name ?_
  intro w1 hw1
  have b1 : w1.heap[w.heap.size]? = some (.cells #[.int .i64 1, .int .i64 1] 24 (0, 0)) := (by rw [← hw1]; simp only [heap_alloc_if, World.size_alloc]; repeat (first | rw [if_pos trivial] | rw [if_neg (by omega)] | rw [if_pos (by omega)]); try rfl)
  have b2 : w1.heap[w.heap.size + 1]? = some (.cells #[.int .i64 2, .int .i64 1] 24 (0, 0)) := (by rw [← hw1]; simp only [heap_alloc_if, World.size_alloc]; repeat (first | rw [if_pos trivial] | rw [if_neg (by omega)] | rw [if_pos (by omega)]); try rfl)
  have b3 : w1.heap[w.heap.size + 1 + 1]? = some (.cells #[.int .i64 2, .int .i64 2] 24 (0, 0)) := (by rw [← hw1]; simp only [heap_alloc_if, World.size_alloc]; repeat (first | rw [if_pos trivial] | rw [if_neg (by omega)] | rw [if_pos (by omega)]); try rfl)
  have hb1 : Below w.heap.size w w1 := by rw [← hw1]; exact (by repeat (first | with_reducible exact Below.refl _ _ | (with_reducible refine Below.drew ?_) | (with_reducible refine below_drewN ?_ _) | (with_reducible refine Below.alloc ?_ ?_ _; rotate_left; (first | omega | (simp <;> omega))) | (with_reducible refine Below.setCell ?_ ?_ _; rotate_left; (first | omega | (simp <;> omega)))))
  have hz1 : w1.heap.size = w.heap.size + 1 + 1 + 1 := by rw [← hw1]; simp
  clear hw1
  have l1 := later hb1
  have l11 : Later w1 w1 := Later.refl
  have B1 := boxed b1
  have B2 := boxed b2
  have B3 := boxed b3
  go_wp2_with fail
  go_ret
  refine ex_name ?_
  intro w9 hw9
  have q3 : w9.heap[w.heap.size + 1 + 1 + 1]? = some (.cells #[.int .i64 2, .int .i64 0, .int .i64 2, .int .i64 1] 100 (0, 0)) := (by rw [← hw9]; simp only [heap_alloc_if, World.size_alloc]; repeat (first | rw [if_pos trivial] | rw [if_neg (by omega)] | rw [if_pos (by omega)]); try rfl)
  have q4 : w9.heap[w.heap.size + 1 + 1 + 1 + 1]? = some (.cells #[.int .i64 1, .int .i64 1, .int .i64 1, .int .i64 2, .slice (some ⟨w.heap.size + 1 + 1 + 1, 0, none⟩) 1 1, .int .i64 2, .int .i64 1, .int .i64 3, .int .i64 1, .slice none 0 0] 41 (0, 0)) := (by rw [← hw9]; simp only [heap_alloc_if, World.size_alloc]; repeat (first | rw [if_pos trivial] | rw [if_neg (by omega)] | rw [if_pos (by omega)]); try rfl)
  have q6 : w9.heap[w.heap.size + 1 + 1 + 1 + 1 + 1 + 1]? = some (.cells #[.string ⟨#[109, 49, 58, 49]⟩, .int .i64 1, .int .i64 1] 107 (0, 0)) := (by rw [← hw9]; simp only [heap_alloc_if, World.size_alloc]; repeat (first | rw [if_pos trivial] | rw [if_neg (by omega)] | rw [if_pos (by omega)]); try rfl)
  have q7 : w9.heap[w.heap.size + 1 + 1 + 1 + 1 + 1 + 1 + 1]? = some (.cells #[.int .i64 2, .int .i64 1, .int .i64 0, .int .i64 1, .slice none 0 0, .int .i64 2, .int .i64 2, .int .i64 0, .int .i64 1, .slice none 0 0] 41 (0, 0)) := (by rw [← hw9]; simp only [heap_alloc_if, World.size_alloc]; repeat (first | rw [if_pos trivial] | rw [if_neg (by omega)] | rw [if_pos (by omega)]); try rfl)
  have q8 : w9.heap[w.heap.size + 1 + 1 + 1 + 1 + 1 + 1 + 1 + 1]? = some (.cells #[.int .i64 1, .int .u64 7, .int .i64 2, .int .i64 1, .int .i64 0, .int .i64 0, .int .i64 0, .bool false, .bool false, .bool false, .int .i64 0, .int .i64 0] 122 (0, 0)) := (by rw [← hw9]; simp only [heap_alloc_if, World.size_alloc]; repeat (first | rw [if_pos trivial] | rw [if_neg (by omega)] | rw [if_pos (by omega)]); try rfl)
  have q9 : w9.heap[w.heap.size + 1 + 1 + 1 + 1 + 1 + 1 + 1 + 1 + 1]? = some (.cells #[.int .i64 1, .int .i64 0, .slice (some ⟨w.heap.size + 1 + 1 + 1 + 1, 0, none⟩) 2 2, .slice (some ⟨w.heap.size + 1 + 1 + 1 + 1 + 1, 0, none⟩) 1 1, .slice none 0 0, .slice (some ⟨w.heap.size + 1 + 1 + 1 + 1 + 1 + 1, 0, none⟩) 1 1, .slice none 0 0, .slice none 0 0, .slice none 0 0, .slice none 0 0, .slice none 0 0, .int .i64 0, .int .i64 0,
      .int .i64 2, .int .i64 0, .slice (some ⟨w.heap.size + 1 + 1 + 1 + 1 + 1 + 1 + 1, 0, none⟩) 2 2, .slice none 0 0, .slice (some ⟨w.heap.size + 1 + 1 + 1 + 1 + 1 + 1 + 1 + 1, 0, none⟩) 1 1, .slice none 0 0, .slice none 0 0, .slice none 0 0, .slice none 0 0, .slice none 0 0, .slice none 0 0, .int .i64 0, .int .i64 0] 64 (0, 0)) := (by rw [← hw9]; simp only [heap_alloc_if, World.size_alloc]; repeat (first | rw [if_pos trivial] | rw [if_neg (by omega)] | rw [if_pos (by omega)]); try rfl)
  have hb9 : Below w1.heap.size w1 w9 := by rw [← hw9]; exact (by repeat (first | with_reducible exact Below.refl _ _ | (with_reducible refine Below.drew ?_) | (with_reducible refine below_drewN ?_ _) | (with_reducible refine Below.alloc ?_ ?_ _; rotate_left; (first | omega | (simp <;> omega))) | (with_reducible refine Below.setCell ?_ ?_ _; rotate_left; (first | omega | (simp <;> omega)))))
  clear hw9
  refine ⟨_, w.heap.size + 1 + 1 + 1 + 1, w.heap.size + 1 + 1 + 1, w.heap.size + 1 + 1 + 1 + 1 + 1, w.heap.size + 1 + 1 + 1 + 1 + 1 + 1, w.heap.size + 1 + 1 + 1 + 1 + 1 + 1 + 1, w.heap.size + 1 + 1 + 1 + 1 + 1 + 1 + 1 + 1, rfl, ⟨blk_slAt ViewE.enc (fr := (0, 0)) (e := 64) q9 _ rfl, fun x hx => ?_⟩, hb1.trans (hb9.mono hb1.size)⟩
  simp only [exV, List.mem_cons, List.not_mem_nil, or_false] at hx
  rcases hx with rfl | rfl
  · refine ⟨⟨blk_slAt NodeE.enc (fr := (0, 0)) (e := 41) q4 _ rfl, fun n hn => ?_, fun n hn => ?_⟩, SlAt.nil, blk_slAt NamedE.enc (fr := (0, 0)) (e := 107) q6 _ rfl, SlAt.nil, fun n hn => (by cases hn), SlAt.nil, fun n hn => (by cases hn), SlAt.nil⟩
    · simp only [List.mem_cons, List.not_mem_nil, or_false] at hn
      rcases hn with rfl | rfl
      · exact blk_slAt ValE.enc (fr := (0, 0)) (e := 100) q3 _ rfl
      · exact SlAt.nil
    · simp only [List.mem_cons, List.not_mem_nil, or_false] at hn
      rcases hn with rfl | rfl <;> simp [maxLen]
  · refine ⟨⟨blk_slAt NodeE.enc (fr := (0, 0)) (e := 41) q7 _ rfl, fun n hn => ?_, fun n hn => ?_⟩, blk_slAt ScionE.enc (fr := (0, 0)) (e := 122) q8 _ rfl, SlAt.nil, SlAt.nil, fun n hn => (by cases hn), SlAt.nil, fun n hn => (by cases hn), SlAt.nil⟩
    · simp only [List.mem_cons, List.not_mem_nil, or_false] at hn
      rcases hn with rfl | rfl <;> exact SlAt.nil
    · simp only [List.mem_cons, List.not_mem_nil, or_false] at hn
      rcases hn with rfl | rfl <;> simp [maxLen]
abbrev slv (g n c : Nat) : Value := .slice (some ⟨g, 0, none⟩) n c
def IsEx (g : Nat) (u : World) : Prop := ∃ o1 f1 t1 n1 o2 s2 : Nat, ViewsAt u (some ⟨g, 0, none⟩) (exV o1 f1 t1 n1 o2 s2)
theorem IsEx.later {g : Nat} {u : World} (h : IsEx g u) : ∀ w [Later u w], IsEx g w := fun w i => by
  obtain ⟨o1, f1, t1, n1, o2, s2, H⟩ := h
  exact ⟨o1, f1, t1, n1, o2, s2, H.below i.below⟩
theorem exPath {g : Nat} {u : World} (h : IsEx g u) : Calls Tryz.prog 11 #[slv g 2 2, .agg #[.int .i64 2, .int .i64 1]] u fun r u' => ∃ A c, r = .returned (.tuple #[.slice A 2 c, .int .i64 0]) ∧ SlAt StepE.cells 4 u' A [stA, stB] ∧ Below u.heap.size u u' := by
  obtain ⟨o1, f1, t1, n1, o2, s2, H⟩ := h
  refine (path_any (some ⟨g, 0, none⟩) 2 (exV o1 f1 t1 n1 o2 s2) iB u H (ex_few ..)).mono ?_
  rintro r w' ⟨q, A, c, hq, rfl, ho, hb⟩
  have e := hq.out
  rw [ex_path] at e
  subst e
  exact ⟨A, c, by rw [ex_path]; rfl, (ho.at_ StepE.enc).2.2, hb⟩
theorem exHold {g : Nat} {u : World} (h : IsEx g u) : Calls Tryz.prog 14 #[slv g 2 2, .agg #[.int .i64 2, .int .i64 1]] u fun r u' => ∃ A c, r = .returned (.slice A 1 c) ∧ SlAt StepE.cells 4 u' A [stA] ∧ Below u.heap.size u u' := by
  obtain ⟨o1, f1, t1, n1, o2, s2, H⟩ := h
  refine (holders_any (some ⟨g, 0, none⟩) 2 (exV o1 f1 t1 n1 o2 s2) iB u H (ex_few ..)).mono ?_
  rintro r w' ⟨q, A, c, hq, rfl, ho, hb⟩
  have e := hq.out
  rw [ex_hold] at e
  subst e
  exact ⟨A, c, rfl, (ho.at_ StepE.enc).2.2, hb⟩
theorem exFormat {g : Nat} {u : World} {PA : Option Addr} {pc : Nat} (h : IsEx g u) (hT : Tab10 u) (hP : SlAt StepE.cells 4 u PA [stA, stB]) : Calls Tryz.prog 22 #[slv g 2 2, .slice PA 2 pc] u fun r u' => ∃ A c, r = .returned (.slice A 2 c) ∧ SlAt strC 1 u' A [xl1, xl2] ∧ Below u.heap.size u u' := by
  obtain ⟨o1, f1, t1, n1, o2, s2, H⟩ := h
  refine (format_any (some ⟨g, 0, none⟩) 2 (exV o1 f1 t1 n1 o2 s2) PA pc [stA, stB] u H (ex_few ..) hP (by decide) hT (ex_ok o1 f1 t1 n1 o2 s2)).mono ?_
  rintro r w' ⟨q, A, c, hq, rfl, ho, hb⟩
  have e := hq.out
  rw [ex_format] at e
  subst e
  exact ⟨A, c, rfl, (ho.at_ strC.enc).2.2, hb⟩
theorem exSame {n : Nat} {a : List StepE} {A B : Option Addr} {c d : Nat} {u : World} (hn : a.length = n) (ha : SlAt StepE.cells 4 u A a) (hb : SlAt StepE.cells 4 u B a) (hl : n ≤ 1000) : Calls Tryz.prog 13 #[.slice A n c, .slice B n d] u fun r u' => r = .returned (.bool true) ∧ Below u.heap.size u u' := by
  subst hn
  have := same59_any A c a B d a u ha hb (by omega) (by omega)
  rw [decide_eq_true rfl] at this
  exact this
theorem exLines {A B : Option Addr} {c d : Nat} {u : World} (ha : SlAt strC 1 u A [xl1, xl2]) (hb : SlAt strC 1 u B [xl1, xl2]) : Calls Tryz.prog 25 #[.slice A 2 c, .slice B 2 d] u fun r u' => r = .returned (.bool true) ∧ Below u.heap.size u u' := by
  have := sameLines_any A c [xl1, xl2] B d [xl1, xl2] u ha hb (by decide) (by decide)
  rw [decide_eq_true rfl] at this
  exact this
end Go.Proofs.YtpkfenlfgdbkcaaGreatDoor

namespace Go.Proofs.YtpkfenlfgdbkcaaGreatDoor
open Go.RowKit
attribute [local go_sem] Oper.semAt_some Instr.makeFunc
attribute [local simp] heap_drew
attribute [local go_sem ↓] load_view_pre load_flight_pre load_msg_pre store_view_pre store_flight_pre store_msg_pre load_scion_pre store_scion_pre
attribute [local go_sem] load_view load_flight load_msg store_view store_flight store_msg load_scion store_scion view_isRow zero_isRow scion_isRow zeroS_isRow rowFree_new setRow_new view_arr0 view_arr2 view_arr3 view_arr4 view_arr5 view_arr6 view_arr9 view_arr10 flight_arr0 flight_arr1 flight_arr2 flight_arr3 flight_arr6 flight_arr7 flight_arr8 flight_arr9 flight_arr10 flight_arr11 flight_arr12 flight_arr13 flight_arr17 flight_arr18 flight_arr19 flight_arr20 flight_arr21 flight_arr22 flight_arr23 flight_arr24 flight_arr25 msg_arr0 msg_arr1 msg_arr4 msg_arr5 msg_arr6 msg_arr7 msg_arr8 msg_arr9 msg_arr10 msg_arr11 msg_arr15 msg_arr16 msg_arr17 msg_arr18 msg_arr19 msg_arr20 msg_arr21 msg_arr22 msg_arr23
attribute [local go_sem ↓] run_eql_id run_neq_id
set_option maxRecDepth 200000 in
set_option maxHeartbeats 8000000 in
theorem awake_any (w : World) (hT : Tab10 w) : Calls Tryz.prog 9 #[] w fun r w' => r = .returned (.bool true) ∧ Below w.heap.size w w' := by
  have HT := hT.later
  have lww : Later w w := Later.refl
  go_enter Tryz.func9, Tryz.ntmps9
  go_upto_region 2 with (go_at_call 24; refine (exampleV_any _).mono ?_; rintro r w1 ⟨g, o1, f1, t1, n1, o2, s2, rfl, hV, hb1⟩; have l1 := later hb1)
  have lw1 : Later w w1 := ⟨below_of⟩
  have l11 : Later w1 w1 := Later.refl
  have HX : ∀ u [Later w1 u], IsEx g u := IsEx.later ⟨o1, f1, t1, n1, o2, s2, hV⟩
  clear hV
  go_upto_region 3 with fail
  refine wp_name ?_
  intro w2 hw2
  have b2 : w2.heap[w1.heap.size]? = some (.cells #[.int .i64 1, .int .i64 1] 24 (0, 0)) := (by rw [← hw2]; simp only [heap_alloc_if, World.size_alloc]; repeat (first | rw [if_pos trivial] | rw [if_neg (by omega)] | rw [if_pos (by omega)]); try rfl)
  have b3 : w2.heap[w1.heap.size + 1]? = some (.cells #[.int .i64 2, .int .i64 1] 24 (0, 0)) := (by rw [← hw2]; simp only [heap_alloc_if, World.size_alloc]; repeat (first | rw [if_pos trivial] | rw [if_neg (by omega)] | rw [if_pos (by omega)]); try rfl)
  have hb2 : Below w1.heap.size w1 w2 := by rw [← hw2]; exact (by repeat (first | with_reducible exact Below.refl _ _ | (with_reducible refine Below.drew ?_) | (with_reducible refine below_drewN ?_ _) | (with_reducible refine Below.alloc ?_ ?_ _; rotate_left; (first | omega | (simp <;> omega))) | (with_reducible refine Below.setCell ?_ ?_ _; rotate_left; (first | omega | (simp <;> omega)))))
  clear hw2
  have l12 : Later w1 w2 := ⟨hb2⟩
  have lw2 : Later w w2 := lw1.trans l12
  have B2 := boxed b2
  have B3 := boxed b3
  have l22 : Later w2 w2 := Later.refl
  have HPt : ∀ u [Later w2 u], Calls Tryz.prog 11 #[slv g 2 2, .agg #[.int .i64 2, .int .i64 1]] u fun r u' => ∃ A c, r = .returned (.tuple #[.slice A 2 c, .int .i64 0]) ∧ SlAt StepE.cells 4 u' A [stA, stB] ∧ Below u.heap.size u u' := fun u i => by haveI := l12.trans i; exact exPath (HX u)
  go_upto_region 5 with (go_at_call 11; refine (HPt _).mono ?_; rintro r w3 ⟨LA, LC, rfl, hLs, hb3⟩; have l3 := later hb3)
  refine wp_name ?_
  intro w4 hw4
  have b4 : w4.heap[w3.heap.size]? = some (.cells #[.int .i64 1, .int .i64 1, .int .i64 1, .int .i64 0, .int .i64 2, .int .i64 2, .int .i64 1, .int .i64 (-1)] 44 (0, 0)) := (by rw [← hw4]; simp only [heap_alloc_if, World.size_alloc]; repeat (first | rw [if_pos trivial] | rw [if_neg (by omega)] | rw [if_pos (by omega)]); try rfl)
  have hb34 : Below w3.heap.size w3 w4 := by rw [← hw4]; exact (by repeat (first | with_reducible exact Below.refl _ _ | (with_reducible refine Below.drew ?_) | (with_reducible refine below_drewN ?_ _) | (with_reducible refine Below.alloc ?_ ?_ _; rotate_left; (first | omega | (simp <;> omega))) | (with_reducible refine Below.setCell ?_ ?_ _; rotate_left; (first | omega | (simp <;> omega)))))
  clear hw4
  have l23 : Later w2 w3 := ⟨below_of⟩
  have l24 : Later w2 w4 := ⟨l23.below.trans (hb34.mono l23.below.size)⟩
  have lw4 : Later w w4 := lw2.trans l24
  have l14 : Later w1 w4 := l12.trans l24
  have B34 : Boxed w4 (w1.heap.size + 1) #[.int .i64 2, .int .i64 1] 24 := fun u i => by haveI := l24.trans i; exact B3 u
  have l44 : Later w4 w4 := Later.refl
  have hLs4 := (hLs.below hb34).later
  have hW2 : ∀ u [Later w4 u], SlAt StepE.cells 4 u (some ⟨w3.heap.size, 0, none⟩) [stA, stB] := (blk_slAt StepE.enc (fr := (0, 0)) (e := 44) b4 [stA, stB] rfl).later
  have hW1 : ∀ u [Later w4 u], SlAt StepE.cells 4 u (some ⟨w3.heap.size, 0, none⟩) [stA] := fun u i hn => by
    obtain ⟨b, o, hA, hb, hc⟩ := hW2 u (by simp)
    exact ⟨b, o, hA, hb, fun k x hk j v hj => hc k x (by
      cases k with
      | zero => exact hk
      | succ k => simp at hk) j v hj⟩
  have HS1 : ∀ u [Later w4 u], Calls Tryz.prog 13 #[.slice LA 2 LC, .slice (some ⟨w3.heap.size, 0, none⟩) 2 2] u fun r u' => r = .returned (.bool true) ∧ Below u.heap.size u u' := fun u i => exSame rfl (hLs4 u) (hW2 u) (by omega)
  have HHo : ∀ u [Later w4 u], Calls Tryz.prog 14 #[slv g 2 2, .agg #[.int .i64 2, .int .i64 1]] u fun r u' => ∃ A c, r = .returned (.slice A 1 c) ∧ SlAt StepE.cells 4 u' A [stA] ∧ Below u.heap.size u u' := fun u i => by haveI := l14.trans i; exact exHold (HX u)
  have HFm : ∀ u [Later w4 u], Calls Tryz.prog 22 #[slv g 2 2, .slice LA 2 LC] u fun r u' => ∃ A c, r = .returned (.slice A 2 c) ∧ SlAt strC 1 u' A [xl1, xl2] ∧ Below u.heap.size u u' := fun u i => by haveI := l14.trans i; haveI := lw4.trans i; exact exFormat (HX u) (HT u) (hLs4 u)
  clear hLs b4 HX HPt B2 B3
  obtain ⟨g3, hg3⟩ : ∃ x, x = w1.heap.size + 1 := ⟨_, rfl⟩
  rw [← hg3] at B34 ⊢
  obtain ⟨g4, hg4⟩ : ∃ x, x = w3.heap.size := ⟨_, rfl⟩
  rw [← hg4] at HS1 ⊢
  simp only [← hg4] at hW1
  clear hg3 hg4 hW2 hLs4
  have hLB : ∀ (u : World) (b : Nat), u.heap[b]? = some (.cells #[.string ⟨#[114, 111, 111, 116, 32, 109, 49, 32, 109, 49, 58, 49, 32, 102, 105, 101, 108, 100, 32, 48]⟩, .string ⟨#[116, 104, 101, 110, 32, 109, 50, 32, 109, 50, 58, 49]⟩] 9 (0, 0)) → SlAt strC 1 u (some ⟨b, 0, none⟩) [xl1, xl2] := fun u b hb => blk_slAt strC.enc (fr := (0, 0)) (e := 9) hb [xl1, xl2] rfl
  obtain ⟨x1, hx1⟩ : ∃ x : List UInt8, x = xl1 := ⟨_, rfl⟩
  obtain ⟨x2, hx2⟩ : ∃ x : List UInt8, x = xl2 := ⟨_, rfl⟩
  have hXL : ∀ (A B : Option Addr) (c d : Nat) (u : World), SlAt strC 1 u A [x1, x2] → SlAt strC 1 u B [x1, x2] → Calls Tryz.prog 25 #[.slice A 2 c, .slice B 2 d] u fun r u' => r = .returned (.bool true) ∧ Below u.heap.size u u' := fun A B c d u ha hb => by rw [hx1, hx2] at ha hb; exact exLines ha hb
  rw [← hx1, ← hx2] at HFm hLB
  clear hx1 hx2
  have HSl : ∀ u : World, (Instr.sliceAt 27 (.slice (some ⟨g4, 0, none⟩) 2 2) none (some (.int .i64 1)) none).run Tryz.prog u = .ok (.slice (some ⟨g4, 0, none⟩) 1 2) u := fun u => by kernel_rfl
  go_region_held3 (fun w' => ∀ b [Later b w4], Later b w') ((intro b _; infer_instance))
    ((first
      | (go_at_call_has 13 (Value.slice LA 2 LC); refine (HS1 _).mono ?_; rintro r w5 ⟨rfl, hb5⟩; have l5 := later hb5)
      | (go_at_call 14; refine (HHo _).mono ?_; rintro r w6 ⟨HA, HC, rfl, hHs, hb6⟩; have l6 := later hb6; have hHs2 := hHs.later)
      | (go_at_call 13; refine (exSame (n := 1) (a := [stA]) rfl (hHs2 _) (hW1 _) (by decide)).mono ?_; rintro r w7 ⟨rfl, hb7⟩; have l7 := later hb7)
      | (go_at_call 22; refine (HFm _).mono ?_; rintro r w8 ⟨FA, FC, rfl, hFs, hb8⟩; have l8 := later hb8; have hFs2 := hFs.later)
      | (go_at_call 25; refine (hXL _ _ _ _ _ (hFs2 _) (hLB _ _ (by first | exact (by (simp only [heap_drew, heap_alloc_if, World.size_alloc]); (repeat (first | rw [if_pos rfl] | rw [if_neg (by omega)] | rw [if_pos (by omega)])); try rfl) | exact blk_below (heap_alloc_new _ _) below_of))).mono ?_; rintro r w9 ⟨rfl, hb9⟩; have l9 := later hb9)))
  all_goals go_wp2_with fail
  all_goals go_ret
  all_goals exact ⟨rfl, below_of⟩
end Go.Proofs.YtpkfenlfgdbkcaaGreatDoor
