/-
  Contracts of the functions of this seat that each theorem names: what a call returns, and that it writes nothing that was there before. The conditions stand in each theorem.
-/
import Derived.Test.YtpkfenlfgdbkcaaGreatDoorGrp31
set_option linter.unusedSimpArgs false
set_option linter.unusedVariables false
namespace Go.Proofs.YtpkfenlfgdbkcaaGreatDoor
open Go.RowKit
attribute [local go_sem] Oper.semAt_some Instr.makeFunc
attribute [local simp] heap_drew
attribute [local go_sem ↓] load_view_pre load_flight_pre load_msg_pre store_view_pre store_flight_pre store_msg_pre load_scion_pre store_scion_pre
attribute [local go_sem] load_view load_flight load_msg store_view store_flight store_msg load_scion store_scion view_isRow zero_isRow scion_isRow zeroS_isRow rowFree_new setRow_new view_arr0 view_arr2 view_arr3 view_arr4 view_arr5 view_arr6 view_arr9 view_arr10 flight_arr0 flight_arr1 flight_arr2 flight_arr3 flight_arr6 flight_arr7 flight_arr8 flight_arr9 flight_arr10 flight_arr11 flight_arr12 flight_arr13 flight_arr17 flight_arr18 flight_arr19 flight_arr20 flight_arr21 flight_arr22 flight_arr23 flight_arr24 flight_arr25 msg_arr0 msg_arr1 msg_arr4 msg_arr5 msg_arr6 msg_arr7 msg_arr8 msg_arr9 msg_arr10 msg_arr11 msg_arr15 msg_arr16 msg_arr17 msg_arr18 msg_arr19 msg_arr20 msg_arr21 msg_arr22 msg_arr23
/-- An element of the scions: its struct read whole, its cells. -/
theorem scions_get {w : World} {A : Option Addr} {l : List ScionE} (h : SlAt ScionE.cells 12 w A l) {k : Nat} (hk : k < l.length) : ∃ b o e, A = some ⟨b, o, none⟩ ∧ l[k]? = some e ∧ (∀ u [Later w u], rowOf u b (o + k * 12) 12 = some e.row) ∧ (∀ u [Later w u], u.cell? ⟨b, o + k * 12, none⟩ = some (.int .i64 e.client)) ∧ (∀ u [Later w u], u.cell? ⟨b, o + k * 12 + 1, none⟩ = some (.int .u64 e.number)) ∧ (∀ u [Later w u], u.cell? ⟨b, o + k * 12 + 2, none⟩ = some (.int .i64 e.iDMachine)) ∧ (∀ u [Later w u], u.cell? ⟨b, o + k * 12 + 3, none⟩ = some (.int .i64 e.iDSerial)) := by
  obtain ⟨b, o, e, hA, hb, hv, hc⟩ := h.at_ hk
  refine ⟨b, o, e, hA, hv, fun u i => ?_, fun u i => ?_, fun u i => ?_, fun u i => ?_, fun u i => ?_⟩
  · exact rowOf_eq e.row_size fun j x hj => cell_below (hc j x (by simpa [ScionE.row, ScionE.cells] using hj)) i.below
  · exact cell_below (hc 0 _ rfl) i.below
  · exact cell_below (hc 1 _ rfl) i.below
  · exact cell_below (hc 2 _ rfl) i.below
  · exact cell_below (hc 3 _ rfl) i.below
theorem ScionE.box {w0 : World} {g : Nat} {e : ScionE} (h : Boxed w0 g e.row 122) : (∀ u [Later w0 u], u.cell? ⟨g, 0, none⟩ = some (.int .i64 e.client)) ∧ (∀ u [Later w0 u], u.cell? ⟨g, 1, none⟩ = some (.int .u64 e.number)) ∧ (∀ u [Later w0 u], u.cell? ⟨g, 2, none⟩ = some (.int .i64 e.iDMachine)) ∧ (∀ u [Later w0 u], u.cell? ⟨g, 3, none⟩ = some (.int .i64 e.iDSerial)) :=
  ⟨fun u i => ((h u).2 0).1, fun u i => ((h u).2 1).1, fun u i => ((h u).2 2).1, fun u i => ((h u).2 3).1⟩
theorem flights_get {w : World} {A : Option Addr} {l : List FlightE} (h : SlAt FlightE.cells 41 w A l) (hx : ∀ y ∈ l, FlightOk w y) {k : Nat} (hk : k < l.length) : ∃ b o x, A = some ⟨b, o, none⟩ ∧ l[k]? = some x ∧ x ∈ l ∧ (∀ u [Later w u], FlightOk u x) ∧ isRow x.arr 41 = true ∧ (∀ u [Later w u], rowOf u b (o + k * 41) 41 = some x.arr) ∧ (∀ u [Later w u], rowOf u b (o + k * 41 + 2) 39 = some x.msg.arr) ∧ (∀ u [Later w u], u.cell? ⟨b, o + k * 41 + 19, none⟩ = some (.int .i64 x.msg.parcel.iM)) ∧ (∀ u [Later w u], u.cell? ⟨b, o + k * 41 + 20, none⟩ = some (.int .i64 x.msg.parcel.iS)) := by
  obtain ⟨b, o, x, hA, hb, hv, hc⟩ := h.at_ hk
  have hm := List.mem_of_getElem? hv
  have hxo := hx x hm
  refine ⟨b, o, x, hA, hv, hm, fun u i => hxo.below i.below, flight_isRow hxo, fun u i => ?_, fun u i => ?_, fun u i => ?_, fun u i => ?_⟩
  · exact rowOf_eq (FlightE.arr_size hxo) fun j y hj => cell_below (hc j y (by simpa [FlightE.arr] using hj)) i.below
  · refine rowOf_eq (MsgE.arr_size hxo) fun j y hj => cell_below (w := w) ?_ i.below
    have := hc (j + 2) y (by simpa [FlightE.cells, MsgE.arr] using hj)
    rw [show o + k * 41 + 2 + j = o + k * 41 + (j + 2) by omega]
    exact this
  · exact cell_below (hc 19 _ rfl) i.below
  · exact cell_below (hc 20 _ rfl) i.below
theorem idRow : Tryz.prog.underlying 24 = some (.struct (Tryz.prog.fieldsOf 24)) := by kernel_rfl
theorem idN : (Tryz.prog.info? 24).map (·.size) = some 2 := by kernel_rfl
set_option maxHeartbeats 1000000 in
theorem scion1_any (W : World) (b1 b2 : Nat) (client number : Int) (h1 : ∀ u [Later W u], u.cell? ⟨b1, 0, none⟩ = some (.int .i64 client)) (h2 : ∀ u [Later W u], u.cell? ⟨b2, 0, none⟩ = some (.int .u64 number)) (e : ScionE) (w : World) [Later W w] :
    Calls Tryz.prog 102 #[e.w, .pointer (some ⟨b1, 0, none⟩), .pointer (some ⟨b2, 0, none⟩)] w fun r w' => r = .returned (.bool (isScion client number e)) ∧ Below w.heap.size w w' := by
  obtain ⟨q1, hq1⟩ : ∃ q, (e.client == client) = q := ⟨_, rfl⟩
  have Hr := hide (show isScion client number e = (q1 && e.number == number) by unfold isScion; rw [hq1])
  go_enter Tryz.func102, Tryz.ntmps102
  go_upto_region 1 with fail
  refine wp_name ?_
  intro w0 hw0
  obtain ⟨B0, l0⟩ := box1 hw0
  have l00 : Later w0 w0 := Later.refl
  clear hw0
  obtain ⟨e0, e1, -⟩ := ScionE.box B0
  clear B0
  cases q1
  all_goals go_wp2_with fail
  all_goals go_ret
  all_goals exact ⟨ret_bool (by rw [Hr.out]; simp), below_of⟩
set_option maxRecDepth 100000 in
set_option maxHeartbeats 2000000 in
theorem idxScion_any (b1 b2 : Nat) (p : ScionE → Bool) (A : Option Addr) (c : Nat) (xs : List ScionE) (W w : World) [kW : Later W w] (hl : xs.length ≤ 1000000000) (hs : SlAt ScionE.cells 12 w A xs) (HC : ∀ (u : World) [Later W u] (x : ScionE), x ∈ xs → Calls Tryz.prog 102 #[x.w, .pointer (some ⟨b1, 0, none⟩), .pointer (some ⟨b2, 0, none⟩)] u fun r w' => r = .returned (.bool (p x)) ∧ Below u.heap.size u w') :
    Calls Tryz.prog 101 #[.slice A xs.length c, .func (.func 102) #[] #[.pointer (some ⟨b1, 0, none⟩), .pointer (some ⟨b2, 0, none⟩)]] w fun r w' => r = .returned (.int .i64 (idxOf p xs)) ∧ Below w.heap.size w w' := by
  have hl' : xs.length ≤ 9223372036854775807 := by omega
  go_enter Tryz.func101, Tryz.ntmps101
  go_wp2_with fail
  go_loopw [5, 8] (fun _ i wr => ∃ k : Nat, k ≤ xs.length ∧ i = .int .i64 k ∧ NoneTo p xs k ∧ Below w.heap.size w wr) (fun _ i _ => xs.length - (intOf i).toNat)
  case atStart => exact ⟨0, by omega, rfl, NoneTo.zero, Below.refl _ _⟩
  case round =>
    obtain ⟨k, hk, rfl, hno, hbr⟩ := hrel
    have lr := later hbr
    have Hno := hide hno
    clear hno
    by_cases hlt : k < xs.length
    · obtain ⟨g, o, x, rfl, hx, R1, -, -, -, -⟩ := scions_get (hs.below hbr) hlt
      have Hx := hide hx
      have HCn := fun (u : World) (i : Later W u) => HC u x (List.mem_of_getElem? hx)
      clear HC hx
      cases hp : p x <;> simp only [hp] at HCn
      · go_wp2_with (go_at_call 102; refine (HCn _ inferInstance).mono ?_; rintro r w1 ⟨rfl, hb1⟩; have l1 := later hb1)
        go_roundw
        case rel => exact ⟨k + 1, by omega, by go_num, Hno.out.succ Hx.out hp, below_of⟩
        case measure => simp [intOf]; omega
      · have HI := hide (idxOf_hit Hx.out hp Hno.out)
        go_wp2_with (go_at_call 102; refine (HCn _ inferInstance).mono ?_; rintro r w1 ⟨rfl, hb1⟩; have l1 := later hb1)
        go_ret
        exact ⟨ret_int HI.out.symm, below_of⟩
    · have hk' : k = xs.length := by omega
      subst hk'
      have HI := hide (idxOf_miss Hno.out)
      go_wp2_with fail
      go_ret
      exact ⟨ret_int HI.out.symm, below_of⟩
def ScionPost (V : List ViewE) (m client number : Int) (w : World) (r : Ending) (w' : World) : Prop := ∃ e, Hid (e = (scionOf V m client number).getD zeroScion) ∧ r = .returned (.tuple #[e.w, .bool (scionOf V m client number).isSome]) ∧ Below w.heap.size w w'
set_option maxRecDepth 100000 in
set_option maxHeartbeats 4000000 in
theorem scion_any (A : Option Addr) (c : Nat) (V : List ViewE) (g : Nat) (m client number : Int) (w : World) (H : ViewsAt w A V) (hM : FleetM w g V) (hf : FewV V) :
    Calls Tryz.prog 71 #[fleetV A c V g, .int .i64 m, .int .i64 client, .int .u64 number] w (ScionPost V m client number w) := by
  have hl := hf.l
  have HV := H.later
  have HM := hM.later
  have HX : ∀ u [Later w u], Calls Tryz.prog 72 #[fleetV A c V g, .int .i64 m] u (ViewPost V m u) := fun u i => view_any A c V g m u (HV u) (HM u) hf
  have hto := viewG_ok (w := w) H.v m
  have hfw := viewG_few hf m
  obtain ⟨t, ht⟩ : ∃ t, viewG V m = t := ⟨_, rfl⟩
  obtain ⟨ok, hok⟩ : ∃ ok, (viewOf V m).isSome = ok := ⟨_, rfl⟩
  have Hs := hide (show scionOf V m client number = t.scions.find? (isScion client number) by unfold scionOf; rw [ht])
  unfold ViewPost at HX
  rw [ht] at hto hfw
  rw [ht, hok] at HX
  clear ht hok
  have hsl := hfw.s
  go_enter Tryz.func71, Tryz.ntmps71
  go_upto_region 1 with fail
  refine wp_name ?_
  intro w0 hw0
  have hz0 : w0.heap.size = w.heap.size + 1 + 1 + 1 + 1 := by rw [← hw0]; simp
  obtain ⟨B0, B1, B2, B3, l0⟩ := box4 hw0
  have l00 : Later w0 w0 := Later.refl
  clear hw0
  have c1 : ∀ u [Later w0 u], u.cell? ⟨w.heap.size + 1, 0, none⟩ = some (.int .i64 client) := fun u i => ((B1 u).2 0).1
  have c2 : ∀ u [Later w0 u], u.cell? ⟨w.heap.size + 1 + 1, 0, none⟩ = some (.int .u64 number) := fun u i => ((B2 u).2 0).1
  go_upto_region 2 with (go_at_call 72; refine (HX _).mono ?_; rintro r w1 ⟨rfl, hb1⟩; have l1 := later hb1)
  refine wp_name ?_
  intro w2 hw2
  obtain ⟨B4, l2⟩ := box1 hw2
  have l22 : Later w2 w2 := Later.refl
  clear hw2
  have l02 : Later w0 w2 := by infer_instance
  have lw2 : Later w w2 := by infer_instance
  obtain ⟨-, -, t4, -⟩ := ViewE.box B4
  clear B4
  have HI : ∀ u [Later w2 u], Calls Tryz.prog 101 #[.slice t.sA t.scions.length t.sc, .func (.func 102) #[] #[.pointer (some ⟨w.heap.size + 1, 0, none⟩), .pointer (some ⟨w.heap.size + 1 + 1, 0, none⟩)]] u fun r w' => r = .returned (.int .i64 (idxOf (isScion client number) t.scions)) ∧ Below u.heap.size u w' := fun u i => by
    haveI : Later w u := lw2.trans i
    haveI : Later w0 u := l02.trans i
    exact idxScion_any _ _ (isScion client number) t.sA t.sc t.scions w0 u (by omega) ((hto.later u).s) fun v j x _ => scion1_any w0 _ _ client number c1 c2 x v
  have HF := rowFree_box B3 (n := 12) rfl
  rcases idxOf_cases (isScion client number) t.scions with ⟨hi, hno⟩ | ⟨k, e, hi, hx, hp, hno⟩
  · have hn := hide (show scionOf V m client number = none by rw [Hs.out]; exact find_miss hno)
    rw [hi] at HI
    clear hi hno
    go_wp2_with (go_at_call 101; refine (HI _).mono ?_; rintro r w3 ⟨rfl, hb3⟩; have l3 := later hb3)
    refine bodyPost_ret (results_cell_tmp rfl rfl rfl (loadVar_row scionRow scionN (ScionE.row_size zeroScion) (setRow_heap _ _ _ _ _ _ (B3 _).1))) rfl ⟨zeroScion, hide (by rw [hn.out]; rfl), by rw [hn.out]; rfl, below_setRow below_of (by omega)⟩
  · have hn := hide (show scionOf V m client number = some e by rw [Hs.out]; exact find_hit hx hp hno)
    rw [hi] at HI
    have hk : k < t.scions.length := (List.getElem?_eq_some_iff.1 hx).1
    have hkc : decide ((k : Int) < 0) = false := by simp
    obtain ⟨sb, so, e', hA, hx', R1, -, -, -, -⟩ := scions_get (hto.later w2).s hk
    rw [hx] at hx'
    injection hx' with hx'
    subst hx'
    rw [hA] at t4 HI
    have hki : (k : Int) < (t.scions.length : Int) := by omega
    clear hi hno hx hp
    go_wp2_with (go_at_call 101; refine (HI _).mono ?_; rintro r w3 ⟨rfl, hb3⟩; have l3 := later hb3)
    refine bodyPost_ret (results_cell_tmp rfl rfl rfl (loadVar_row scionRow scionN (ScionE.row_size e) (setRow_heap _ _ _ _ _ _ (B3 _).1))) rfl ⟨e, hide (by rw [hn.out]; rfl), by rw [hn.out]; rfl, below_setRow below_of (by omega)⟩
set_option maxRecDepth 100000 in
set_option maxHeartbeats 4000000 in
theorem numbered1_any (A : Option Addr) (c : Nat) (V : List ViewE) (g : Nat) (t : ViewE) (dst number : Int) (W : World) (H : ViewsAt W A V) (hM : FleetM W g V) (hf : FewV V) (b1 b2 b3 b4 : Nat) (h1 : ∀ u [Later W u], u.cell? ⟨b1, 0, none⟩ = some (.int .i64 dst)) (h2 : ∀ u [Later W u], u.cell? ⟨b2, 0, none⟩ = some (.int .u64 number)) (h3 : Boxed W b3 #[.slice A V.length c, .map (some g)] 93) (h4 : ∀ u [Later W u], rowOf u b4 0 13 = some t.arr)
    (x : FlightE) (w : World) [kW : Later W w] (hx : FlightOk w x) : Calls Tryz.prog 74 #[x.v, .pointer (some ⟨b1, 0, none⟩), .pointer (some ⟨b2, 0, none⟩), .pointer (some ⟨b3, 0, none⟩), .pointer (some ⟨b4, 0, none⟩)] w fun r w' => r = .returned (.bool (isMove V t dst number x)) ∧ Below w.heap.size w w' := by
  have HX : ∀ u [Later w u], Calls Tryz.prog 65 #[fleetV A c V g, t.v, x.v] u fun r w' => r = .returned (.bool (flyB V t x)) ∧ Below u.heap.size u w' := fun u i => by
    haveI : Later W u := kW.trans i
    exact flying_any A c V g t x u (H.later u) (hM.later u) hf (hx.later u)
  have hfl : ∀ u [Later w u], FlightOk u x := hx.later
  obtain ⟨q1, hq1⟩ : ∃ q, (x.dst == dst) = q := ⟨_, rfl⟩
  obtain ⟨q2, hq2⟩ : ∃ q, (x.msg.kind == 1) = q := ⟨_, rfl⟩
  obtain ⟨q3, hq3⟩ : ∃ q, (x.msg.parcel.number == number) = q := ⟨_, rfl⟩
  obtain ⟨q4, hq4⟩ : ∃ q, flyB V t x = q := ⟨_, rfl⟩
  have Hr := hide (show isMove V t dst number x = (q1 && (q2 && (q3 && q4))) by unfold isMove; rw [hq1, hq2, hq3, hq4])
  rw [hq4] at HX
  clear hq4 H hM
  have hR := flight_isRow hx
  go_enter Tryz.func74, Tryz.ntmps74
  go_upto_region 1 with fail
  refine wp_name ?_
  intro w0 hw0
  obtain ⟨B0, l0⟩ := box1 hw0
  have l00 : Later w0 w0 := Later.refl
  clear hw0
  have hx0 : FlightOk w0 x := hfl w0
  have R0 := FlightE.row B0 hx0
  obtain ⟨x0, -, x2, x18, -, -⟩ := FlightE.box B0
  clear B0
  cases q1
  · go_wp2_with fail
    go_ret
    exact ⟨ret_bool (by rw [Hr.out]; simp), below_of⟩
  cases q2
  · go_wp2_with fail
    go_ret
    exact ⟨ret_bool (by rw [Hr.out]; simp), below_of⟩
  cases q3
  · go_wp2_with fail
    go_ret
    exact ⟨ret_bool (by rw [Hr.out]; simp), below_of⟩
  go_wp2_with (go_at_call 65; refine (HX _).mono ?_; rintro r w3 ⟨rfl, hb3⟩; have l3 := later hb3)
  go_ret
  exact ⟨ret_bool (by rw [Hr.out]; simp), below_of⟩
set_option maxRecDepth 100000 in
set_option maxHeartbeats 2000000 in
theorem idxFlight_any (b1 b2 b3 b4 : Nat) (p : FlightE → Bool) (A : Option Addr) (c : Nat) (xs : List FlightE) (W w : World) [kW : Later W w] (hl : xs.length ≤ 1000000000) (hs : SlAt FlightE.cells 41 w A xs) (hok : ∀ y ∈ xs, FlightOk w y) (HC : ∀ (u : World) [Later W u] (x : FlightE), x ∈ xs → Calls Tryz.prog 74 #[x.v, .pointer (some ⟨b1, 0, none⟩), .pointer (some ⟨b2, 0, none⟩), .pointer (some ⟨b3, 0, none⟩), .pointer (some ⟨b4, 0, none⟩)] u fun r w' => r = .returned (.bool (p x)) ∧ Below u.heap.size u w') :
    Calls Tryz.prog 73 #[.slice A xs.length c, .func (.func 74) #[] #[.pointer (some ⟨b1, 0, none⟩), .pointer (some ⟨b2, 0, none⟩), .pointer (some ⟨b3, 0, none⟩), .pointer (some ⟨b4, 0, none⟩)]] w fun r w' => r = .returned (.int .i64 (idxOf p xs)) ∧ Below w.heap.size w w' := by
  have hl' : xs.length ≤ 9223372036854775807 := by omega
  go_enter Tryz.func73, Tryz.ntmps73
  go_wp2_with fail
  go_loopw [5, 8] (fun _ i wr => ∃ k : Nat, k ≤ xs.length ∧ i = .int .i64 k ∧ NoneTo p xs k ∧ Below w.heap.size w wr) (fun _ i _ => xs.length - (intOf i).toNat)
  case atStart => exact ⟨0, by omega, rfl, NoneTo.zero, Below.refl _ _⟩
  case round =>
    obtain ⟨k, hk, rfl, hno, hbr⟩ := hrel
    have lr := later hbr
    have Hno := hide hno
    clear hno
    by_cases hlt : k < xs.length
    · obtain ⟨g, o, x, rfl, hx, hxm, -, -, R1, -, -, -⟩ := flights_get (hs.below hbr) (fun y hy => (hok y hy).below hbr) hlt
      have Hx := hide hx
      have HCn := fun (u : World) (i : Later W u) => HC u x (List.mem_of_getElem? hx)
      clear HC hx
      cases hp : p x <;> simp only [hp] at HCn
      · go_wp2_with (go_at_call 74; refine (HCn _ inferInstance).mono ?_; rintro r w1 ⟨rfl, hb1⟩; have l1 := later hb1)
        go_roundw
        case rel => exact ⟨k + 1, by omega, by go_num, Hno.out.succ Hx.out hp, below_of⟩
        case measure => simp [intOf]; omega
      · have HI := hide (idxOf_hit Hx.out hp Hno.out)
        go_wp2_with (go_at_call 74; refine (HCn _ inferInstance).mono ?_; rintro r w1 ⟨rfl, hb1⟩; have l1 := later hb1)
        go_ret
        exact ⟨ret_int HI.out.symm, below_of⟩
    · have hk' : k = xs.length := by omega
      subst hk'
      have HI := hide (idxOf_miss Hno.out)
      go_wp2_with fail
      go_ret
      exact ⟨ret_int HI.out.symm, below_of⟩
def NumPost (V : List ViewE) (frm dst number : Int) (w : World) (r : Ending) (w' : World) : Prop := r = .returned (numId V frm dst number).v ∧ Below w.heap.size w w'
set_option maxRecDepth 100000 in
set_option maxHeartbeats 4000000 in
theorem numbered_any (A : Option Addr) (c : Nat) (V : List ViewE) (g : Nat) (frm dst number : Int) (w : World) (H : ViewsAt w A V) (hM : FleetM w g V) (hf : FewV V) :
    Calls Tryz.prog 43 #[fleetV A c V g, .int .i64 frm, .int .i64 dst, .int .u64 number] w (NumPost V frm dst number w) := by
  have hl := hf.l
  have HV := H.later
  have HM := hM.later
  have HS : ∀ u [Later w u], Calls Tryz.prog 71 #[fleetV A c V g, .int .i64 dst, .int .i64 frm, .int .u64 number] u (ScionPost V dst frm number u) := fun u i => scion_any A c V g dst frm number u (HV u) (HM u) hf
  have HX : ∀ u [Later w u], Calls Tryz.prog 72 #[fleetV A c V g, .int .i64 frm] u (ViewPost V frm u) := fun u i => view_any A c V g frm u (HV u) (HM u) hf
  have hto := viewG_ok (w := w) H.v frm
  have hfw := viewG_few hf frm
  obtain ⟨t, ht⟩ : ∃ t, viewG V frm = t := ⟨_, rfl⟩
  obtain ⟨ok, hok⟩ : ∃ ok, (viewOf V frm).isSome = ok := ⟨_, rfl⟩
  have Hn := hide (show numId V frm dst number = match scionOf V dst frm number with | some e => e.id | none => match t.flights.find? (isMove V t dst number) with | some x => x.msg.parcel.id | none => zeroI by unfold numId; rw [ht]; rfl)
  unfold ViewPost at HX
  rw [ht] at hto hfw
  rw [ht, hok] at HX
  clear ht hok
  have hfl := hfw.f
  cases hs : scionOf V dst frm number with
  | some e =>
    have HS' : ∀ u [Later w u], Calls Tryz.prog 71 #[fleetV A c V g, .int .i64 dst, .int .i64 frm, .int .u64 number] u fun r w' => r = .returned (.tuple #[e.w, .bool true]) ∧ Below u.heap.size u w' := fun u i => (HS u).mono fun r w' hp => by
      obtain ⟨e', h1, h2, h3⟩ := hp
      have h1' := h1.out
      rw [hs] at h1' h2
      rw [h2]
      exact ⟨by rw [h1']; rfl, h3⟩
    have HN := hide (show numId V frm dst number = e.id by rw [Hn.out, hs])
    clear HS hs
    go_enter Tryz.func43, Tryz.ntmps43
    go_upto_region 1 with fail
    refine wp_name ?_
    intro w0 hw0
    obtain ⟨B0, B1, B2, B3, l0⟩ := box4 hw0
    have hz0 : w0.heap.size = w.heap.size + 1 + 1 + 1 + 1 := by rw [← hw0]; simp
    have l00 : Later w0 w0 := Later.refl
    clear hw0
    go_upto_region 2 with (go_at_call 71; refine (HS' _).mono ?_; rintro r w1 ⟨rfl, hb1⟩; have l1 := later hb1)
    refine wp_name ?_
    intro w2 hw2
    obtain ⟨B4, l2⟩ := box1 hw2
    have l22 : Later w2 w2 := Later.refl
    clear hw2
    have l02 : Later w0 w2 := by infer_instance
    obtain ⟨-, -, e2, e3⟩ := ScionE.box B4
    clear B4
    go_wp2_with fail
    have q := blk_set (blk_set (B3 w2).1 0 (.int .i64 e.iDMachine)) 1 (.int .i64 e.iDSerial)
    refine bodyPost_ret (results_cell rfl rfl (loadVar_row idRow idN rfl q)) rfl ⟨by rw [HN.out]; rfl, ?_⟩
    exact ((show Below w.heap.size w w2 from below_of).setCell (p := ⟨_, 0, none⟩) (by simp; omega) _).setCell (p := ⟨_, 1, none⟩) (by simp; omega) _
  | none =>
    have HS' : ∀ u [Later w u], Calls Tryz.prog 71 #[fleetV A c V g, .int .i64 dst, .int .i64 frm, .int .u64 number] u fun r w' => r = .returned (.tuple #[zeroScion.w, .bool false]) ∧ Below u.heap.size u w' := fun u i => (HS u).mono fun r w' hp => by
      obtain ⟨e', h1, h2, h3⟩ := hp
      have h1' := h1.out
      rw [hs] at h1' h2
      rw [h2]
      exact ⟨by rw [h1']; rfl, h3⟩
    have HN := hide (show numId V frm dst number = match t.flights.find? (isMove V t dst number) with | some x => x.msg.parcel.id | none => zeroI by rw [Hn.out, hs])
    clear HS hs
    go_enter Tryz.func43, Tryz.ntmps43
    go_upto_region 1 with fail
    refine wp_name ?_
    intro w0 hw0
    obtain ⟨B0, B1, B2, B3, l0⟩ := box4 hw0
    have hz0 : w0.heap.size = w.heap.size + 1 + 1 + 1 + 1 := by rw [← hw0]; simp
    have l00 : Later w0 w0 := Later.refl
    clear hw0
    have c1 : ∀ u [Later w0 u], u.cell? ⟨w.heap.size + 1, 0, none⟩ = some (.int .i64 dst) := fun u i => ((B1 u).2 0).1
    have c2 : ∀ u [Later w0 u], u.cell? ⟨w.heap.size + 1 + 1, 0, none⟩ = some (.int .u64 number) := fun u i => ((B2 u).2 0).1
    go_upto_region 4 with (go_at_call 71; refine (HS' _).mono ?_; rintro r w1 ⟨rfl, hb1⟩; have l1 := later hb1)
    go_upto_region 5 with (go_at_call 72; refine (HX _).mono ?_; rintro r w2 ⟨rfl, hb2⟩; have l2 := later hb2)
    refine wp_name ?_
    intro w4 hw4
    obtain ⟨B4, l4⟩ := box1 hw4
    have l44 : Later w4 w4 := Later.refl
    clear hw4
    have l04 : Later w0 w4 := by infer_instance
    have lw4 : Later w w4 := by infer_instance
    obtain ⟨-, -, -, -, -, t9, -, R4⟩ := ViewE.box B4
    clear B4
    have HI : ∀ u [Later w4 u], Calls Tryz.prog 73 #[.slice t.fA t.flights.length t.fc, .func (.func 74) #[] #[.pointer (some ⟨w.heap.size + 1, 0, none⟩), .pointer (some ⟨w.heap.size + 1 + 1, 0, none⟩), .pointer (some ⟨w.heap.size, 0, none⟩), .pointer (some ⟨w2.heap.size, 0, none⟩)]] u fun r w' => r = .returned (.int .i64 (idxOf (isMove V t dst number) t.flights)) ∧ Below u.heap.size u w' := fun u i => by
      haveI : Later w u := lw4.trans i
      haveI : Later w0 u := l04.trans i
      exact idxFlight_any _ _ _ _ (isMove V t dst number) t.fA t.fc t.flights w4 u (by omega) ((hto.later u).f) (hto.later u).g fun v j x hx => by
        haveI : Later w v := lw4.trans j
        exact numbered1_any A c V g t dst number w4 (HV w4) (HM w4) hf _ _ _ _ (fun z k => by haveI := l04.trans k; exact c1 z) (fun z k => by haveI := l04.trans k; exact c2 z) (fun z k => by haveI := l04.trans k; exact B0 z) R4 x v ((hto.later v).g x hx)
    have HZ := (B3 w4).1
    rcases idxOf_cases (isMove V t dst number) t.flights with ⟨hi, hno⟩ | ⟨k, x, hi, hx, hp, hno⟩
    · have hn := hide (show numId V frm dst number = zeroI by rw [HN.out, find_miss hno])
      rw [hi] at HI
      clear hi hno
      go_wp2_with (go_at_call 73; refine (HI _).mono ?_; rintro r w5 ⟨rfl, hb5⟩; have l5 := later hb5)
      have q := blk_set (blk_set (B3 w5).1 0 (.int .i64 0)) 1 (.int .i64 0)
      refine bodyPost_ret (results_cell rfl rfl (loadVar_row idRow idN rfl q)) rfl ⟨by rw [hn.out]; rfl, ?_⟩
      exact ((show Below w.heap.size w w5 from below_of).setCell (p := ⟨_, 0, none⟩) (by simp; omega) _).setCell (p := ⟨_, 1, none⟩) (by simp; omega) _
    · have hn := hide (show numId V frm dst number = x.msg.parcel.id by rw [HN.out, find_hit hx hp hno])
      rw [hi] at HI
      have hk : k < t.flights.length := (List.getElem?_eq_some_iff.1 hx).1
      have hkc : decide ((k : Int) < 0) = false := by simp
      obtain ⟨sb, so, x', hA, hx', hm, -, -, -, -, X19, X20⟩ := flights_get (hto.later w4).f (hto.later w4).g hk
      rw [hx] at hx'
      injection hx' with hx'
      subst hx'
      rw [hA] at t9 HI
      have hki : (k : Int) < (t.flights.length : Int) := by omega
      clear hi hno hx hp
      go_wp2_with (go_at_call 73; refine (HI _).mono ?_; rintro r w5 ⟨rfl, hb5⟩; have l5 := later hb5)
      have q := blk_set (blk_set (B3 w5).1 0 (.int .i64 x.msg.parcel.iM)) 1 (.int .i64 x.msg.parcel.iS)
      refine bodyPost_ret (results_cell rfl rfl (loadVar_row idRow idN rfl q)) rfl ⟨by rw [hn.out]; rfl, ?_⟩
      exact ((show Below w.heap.size w w5 from below_of).setCell (p := ⟨_, 0, none⟩) (by simp; omega) _).setCell (p := ⟨_, 1, none⟩) (by simp; omega) _
def IdPost (V : List ViewE) (frm dst : Int) (x : RefE) (w : World) (r : Ending) (w' : World) : Prop := r = .returned (refId V frm dst x).v ∧ Below w.heap.size w w'
set_option maxRecDepth 100000 in
set_option maxHeartbeats 4000000 in
theorem id_any (A : Option Addr) (c : Nat) (V : List ViewE) (g : Nat) (frm dst : Int) (x : RefE) (w : World) (H : ViewsAt w A V) (hM : FleetM w g V) (hf : FewV V) :
    Calls Tryz.prog 42 #[fleetV A c V g, .int .i64 frm, .int .i64 dst, x.v] w (IdPost V frm dst x w) := by
  have hl := hf.l
  have HV := H.later
  have HM := hM.later
  have HN : ∀ u [Later w u], Calls Tryz.prog 43 #[fleetV A c V g, .int .i64 frm, .int .i64 dst, .int .u64 x.number] u (NumPost V frm dst x.number u) := fun u i => numbered_any A c V g frm dst x.number u (HV u) (HM u) hf
  unfold NumPost at HN
  unfold IdPost
  have Hr := hide (show refId V frm dst x = if x.kind = 3 then x.id else if x.kind = 2 then numId V frm dst x.number else zeroI from rfl)
  generalize refId V frm dst x = R at Hr ⊢
  generalize numId V frm dst x.number = N at Hr HN
  have hres : ∀ (a b : Int) (w0 u : World), Later w w0 → Later w0 u → Boxed w0 (w.heap.size + 1 + 1) #[.int .i64 0, .int .i64 0] 24 → (loadVar 24 ⟨w.heap.size + 1 + 1, 0, none⟩).run Tryz.prog ((u.setCell ⟨w.heap.size + 1 + 1, 0, none⟩ (.int .i64 a)).setCell ⟨w.heap.size + 1 + 1, 1, none⟩ (.int .i64 b)) = .ok (IDE.v ⟨a, b⟩) ((u.setCell ⟨w.heap.size + 1 + 1, 0, none⟩ (.int .i64 a)).setCell ⟨w.heap.size + 1 + 1, 1, none⟩ (.int .i64 b)) ∧ Below w.heap.size w ((u.setCell ⟨w.heap.size + 1 + 1, 0, none⟩ (.int .i64 a)).setCell ⟨w.heap.size + 1 + 1, 1, none⟩ (.int .i64 b)) := fun a b w0 u i j B => by
    have q := blk_set (blk_set (B u).1 0 (.int .i64 a)) 1 (.int .i64 b)
    exact ⟨loadVar_row idRow idN rfl q, ((i.trans j).below.setCell (p := ⟨_, 0, none⟩) (by simp; omega) _).setCell (p := ⟨_, 1, none⟩) (by simp; omega) _⟩
  obtain ⟨q3, hq3⟩ : ∃ q, (x.kind == 3) = q := ⟨_, rfl⟩
  obtain ⟨q2, hq2⟩ : ∃ q, (x.kind == 2) = q := ⟨_, rfl⟩
  have H3 : Hid (x.kind = 3 ↔ q3 = true) := hide (by rw [← hq3]; simp)
  have H2 : Hid (x.kind = 2 ↔ q2 = true) := hide (by rw [← hq2]; simp)
  cases q3
  · cases q2
    · have hR := hide (show R = zeroI by rw [Hr.out, if_neg (by rw [H3.out]; simp), if_neg (by rw [H2.out]; simp)])
      go_enter Tryz.func42, Tryz.ntmps42
      go_upto_region 1 with fail
      refine wp_name ?_
      intro w0 hw0
      obtain ⟨B0, B1, B2, l0⟩ := box3 hw0
      clear hw0
      go_wp2_with fail
      obtain ⟨h1, h2⟩ := hres 0 0 w0 w0 (l0 w) Later.refl B2
      exact bodyPost_ret (results_cell rfl rfl h1) rfl ⟨by rw [hR.out]; rfl, h2⟩
    · have hR := hide (show R = N by rw [Hr.out, if_neg (by rw [H3.out]; simp), if_pos (by rw [H2.out])])
      go_enter Tryz.func42, Tryz.ntmps42
      go_upto_region 1 with fail
      refine wp_name ?_
      intro w0 hw0
      obtain ⟨B0, B1, B2, l0⟩ := box3 hw0
      have l00 : Later w0 w0 := Later.refl
      clear hw0
      go_wp2_with (go_at_call 43; refine (HN _).mono ?_; rintro r w1 ⟨rfl, hb1⟩; have l1 := later hb1)
      obtain ⟨h1, h2⟩ := hres N.machine N.serial w0 w1 (l0 w) (by infer_instance) B2
      exact bodyPost_ret (results_cell rfl rfl h1) rfl ⟨by rw [hR.out], h2⟩
  · have hR := hide (show R = x.id by rw [Hr.out, if_pos (by rw [H3.out])])
    go_enter Tryz.func42, Tryz.ntmps42
    go_upto_region 1 with fail
    refine wp_name ?_
    intro w0 hw0
    obtain ⟨B0, B1, B2, l0⟩ := box3 hw0
    clear hw0
    go_wp2_with fail
    obtain ⟨h1, h2⟩ := hres x.iDMachine x.iDSerial w0 w0 (l0 w) Later.refl B2
    exact bodyPost_ret (results_cell rfl rfl h1) rfl ⟨by rw [hR.out]; rfl, h2⟩
end Go.Proofs.YtpkfenlfgdbkcaaGreatDoor
