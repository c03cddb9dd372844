/-
  Contracts of the functions of this seat that each theorem names: what a call returns, and that it writes nothing that was there before. The conditions stand in each theorem.
-/
import Derived.Test.YtpkfenlfgdbkcaaGreatDoorP59Num
set_option linter.unusedSimpArgs false
set_option linter.unusedVariables false
namespace Go.Proofs.YtpkfenlfgdbkcaaGreatDoor
open Go.RowKit
attribute [local go_sem] Oper.semAt_some Instr.makeFunc
attribute [local simp] heap_drew
attribute [local go_sem ↓] load_view_pre load_flight_pre load_msg_pre store_view_pre store_flight_pre store_msg_pre load_scion_pre store_scion_pre
attribute [local go_sem] load_view load_flight load_msg store_view store_flight store_msg load_scion store_scion view_isRow zero_isRow scion_isRow zeroS_isRow rowFree_new setRow_new view_arr0 view_arr2 view_arr3 view_arr4 view_arr5 view_arr6 view_arr9 view_arr10 flight_arr0 flight_arr1 flight_arr2 flight_arr3 flight_arr6 flight_arr7 flight_arr8 flight_arr9 flight_arr10 flight_arr11 flight_arr12 flight_arr13 flight_arr17 flight_arr18 flight_arr19 flight_arr20 flight_arr21 flight_arr22 flight_arr23 flight_arr24 flight_arr25 msg_arr0 msg_arr1 msg_arr4 msg_arr5 msg_arr6 msg_arr7 msg_arr8 msg_arr9 msg_arr10 msg_arr11 msg_arr15 msg_arr16 msg_arr17 msg_arr18 msg_arr19 msg_arr20 msg_arr21 msg_arr22 msg_arr23
attribute [local go_sem ↓] run_eql_id run_neq_id
set_option maxRecDepth 100000 in
set_option maxHeartbeats 4000000 in
theorem refView_any (A : Option Addr) (c : Nat) (V : List ViewE) (m : Int) (w : World) (H : ViewsAt w A V) (hf : FewV V) :
    Calls Tryz.prog 87 #[.slice A V.length c, .int .i64 m] w (ViewPost V m w) := by
  have hl := hf.l
  have HV := H.later
  go_enter Tryz.func87, Tryz.ntmps87
  go_upto_region 1 with fail
  refine wp_name ?_
  intro w0 hw0
  obtain ⟨B0, l0⟩ := box1 hw0
  have l00 : Later w0 w0 := Later.refl
  clear hw0
  have HF := rowFree_box B0 (n := 13) rfl
  go_wp2_with fail
  go_loopw [6] (fun i wr => ∃ k : Nat, k ≤ V.length ∧ i = .int .i64 k ∧ NoneTo (fun v => v.machine == m) V k ∧ Below w0.heap.size w0 wr) (fun i _ => V.length - (intOf i).toNat)
  case atStart => exact ⟨0, by omega, rfl, NoneTo.zero, Below.refl _ _⟩
  case round =>
    obtain ⟨k, hk, rfl, hno, hbr⟩ := hrel
    have lr := later hbr
    have lrr : Later wr wr := Later.refl
    have Hno := hide hno
    clear hno
    by_cases hlt : k < V.length
    · obtain ⟨b, o, v, rfl, hv, hmem, LV, C0, -, -, -⟩ := (HV wr).get hlt
      have hki : (k : Int) < (V.length : Int) := by omega
      have Hv := hide hv
      clear hv
      cases hq : v.machine == m with
      | false =>
        have hno2 := hide (Hno.out.succ Hv.out hq)
        go_wp2_with fail
        go_roundw
        case rel => exact ⟨k + 1, by omega, by go_num, hno2.out, below_of⟩
        case measure => simp [intOf]; omega
      | true =>
        have hn := hide (show viewOf V m = some v by unfold viewOf; exact find_hit Hv.out hq Hno.out)
        go_wp2_with fail
        refine bodyPost_ret (v := .tuple #[v.v, .bool true]) (results_cell_tmp rfl rfl rfl (loadVar_row viewRow viewN (ViewE.arr_size _) (setRow_heap _ _ _ _ _ _ (B0 _).1))) rfl ⟨by unfold viewG; rw [hn.out]; rfl, below_setRow below_of (by omega)⟩
    · have hk' : k = V.length := by omega
      subst hk'
      have hn := hide (show viewOf V m = none by unfold viewOf; exact find_miss Hno.out)
      go_wp2_with fail
      refine bodyPost_ret (v := .tuple #[zeroView.v, .bool false]) (results_cell_tmp rfl rfl rfl (loadVar_row viewRow viewN (ViewE.arr_size _) (setRow_heap _ _ _ _ _ _ (B0 _).1))) rfl ⟨by unfold viewG; rw [hn.out]; rfl, below_setRow below_of (by omega)⟩
set_option maxRecDepth 100000 in
set_option maxHeartbeats 4000000 in
theorem refFlying_any (A : Option Addr) (c : Nat) (V : List ViewE) (v : ViewE) (x : FlightE) (w : World) (H : ViewsAt w A V) (hf : FewV V) (hx : FlightOk w x) :
    Calls Tryz.prog 55 #[.slice A V.length c, v.v, x.v] w fun r w' => r = .returned (.bool (flyB V v x)) ∧ Below w.heap.size w w' := by
  have HV := H.later
  have HX : ∀ u [Later w u], Calls Tryz.prog 87 #[.slice A V.length c, .int .i64 x.dst] u (ViewPost V x.dst u) := fun u i => refView_any A c V x.dst u (HV u) hf
  obtain ⟨t, ht⟩ : ∃ t, viewG V x.dst = t := ⟨_, rfl⟩
  obtain ⟨ok, hok⟩ : ∃ ok, (viewOf V x.dst).isSome = ok := ⟨_, rfl⟩
  obtain ⟨i, hi⟩ : ∃ i, IntKind.i64.wrap (v.machine - 1) = i := ⟨_, rfl⟩
  have Hr := hide (show flyB V v x = (ok && decide ((if 0 ≤ i ∧ i < (t.received.length : Int) then t.received.getD i.toNat 0 else 0) < x.seq)) by unfold flyB gotN; rw [ht, hok, hi])
  have hto := ht ▸ viewG_ok (w := w) H.v x.dst
  unfold ViewPost at HX
  rw [ht, hok] at HX
  clear ht hok
  go_enter Tryz.func55, Tryz.ntmps55
  go_upto_region 1 with fail
  refine wp_name ?_
  intro w0 hw0
  obtain ⟨B1, B2, l0⟩ := box2 hw0
  have l00 : Later w0 w0 := Later.refl
  clear hw0
  obtain ⟨v0, -⟩ := ViewE.box B1
  obtain ⟨x0, x1, -⟩ := FlightE.box B2
  clear B1 B2
  go_upto_region 2 with (go_at_call 87; refine (HX _).mono ?_; rintro r w1 ⟨rfl, hb1⟩; have l1 := later hb1)
  refine wp_name ?_
  intro w2 hw2
  obtain ⟨B3, l2⟩ := box1 hw2
  have l22 : Later w2 w2 := Later.refl
  clear hw2
  obtain ⟨-, -, -, -, -, -, t10, -⟩ := ViewE.box B3
  clear B3
  by_cases h0 : 0 ≤ i
  · by_cases h1 : i < t.received.length
    · have hr := recv_at hto.r h0 h1
      obtain ⟨rb, ro, hA, hrc⟩ := hr
      rw [hA] at t10
      obtain ⟨k, rfl⟩ : ∃ k : Nat, i = k := ⟨i.toNat, by omega⟩
      simp only [Int.toNat_natCast] at hrc Hr
      obtain ⟨y, hy⟩ : ∃ y, t.received.getD k 0 = y := ⟨_, rfl⟩
      rw [hy] at hrc Hr
      rw [if_pos ⟨h0, h1⟩] at Hr
      clear hy
      have h1' : k < t.received.length := by omega
      cases ok
      all_goals go_wp2_with fail
      all_goals go_ret
      all_goals exact ⟨ret_bool (by rw [Hr.out]; simp), below_of⟩
    · rw [if_neg (by omega)] at Hr
      cases ok
      all_goals go_wp2_with fail
      all_goals go_ret
      all_goals exact ⟨ret_bool (by rw [Hr.out]; simp), below_of⟩
  · rw [if_neg (by omega)] at Hr
    cases ok
    all_goals go_wp2_with fail
    all_goals go_ret
    all_goals exact ⟨ret_bool (by rw [Hr.out]; simp), below_of⟩
set_option maxRecDepth 100000 in
set_option maxHeartbeats 4000000 in
theorem refKnown_any (A : Option Addr) (c : Nat) (V : List ViewE) (m client number : Int) (w : World) (H : ViewsAt w A V) (hf : FewV V) :
    Calls Tryz.prog 113 #[.slice A V.length c, .int .i64 m, .int .i64 client, .int .u64 number] w fun r w' => r = .returned (.bool (scionOf V m client number).isSome) ∧ Below w.heap.size w w' := by
  have HV := H.later
  have HX : ∀ u [Later w u], Calls Tryz.prog 87 #[.slice A V.length c, .int .i64 m] u (ViewPost V m u) := fun u i => refView_any A c V m u (HV u) hf
  have hto := viewG_ok (w := w) H.v m
  have hfw := viewG_few hf m
  obtain ⟨t, ht⟩ : ∃ t, viewG V m = t := ⟨_, rfl⟩
  obtain ⟨ok, hok⟩ : ∃ ok, (viewOf V m).isSome = ok := ⟨_, rfl⟩
  have Hs := hide (show scionOf V m client number = t.scions.find? (isScion client number) by unfold scionOf; rw [ht])
  unfold ViewPost at HX
  rw [ht] at hto hfw
  rw [ht, hok] at HX
  clear ht hok
  have hsl := hfw.s
  have hts := hto.s.later
  go_enter Tryz.func113, Tryz.ntmps113
  go_upto_region 2 with (go_at_call 87; refine (HX _).mono ?_; rintro r w1 ⟨rfl, hb1⟩; have l1 := later hb1)
  refine wp_name ?_
  intro w2 hw2
  obtain ⟨B4, l2⟩ := box1 hw2
  have l22 : Later w2 w2 := Later.refl
  clear hw2
  have lw2 : Later w w2 := by infer_instance
  obtain ⟨-, -, t4, -⟩ := ViewE.box B4
  clear B4
  go_wp2_with fail
  go_loopw [11] (fun i wr => ∃ k : Nat, k ≤ t.scions.length ∧ i = .int .i64 k ∧ NoneTo (isScion client number) t.scions k ∧ Below w2.heap.size w2 wr) (fun i _ => t.scions.length - (intOf i).toNat)
  case atStart => exact ⟨0, by omega, rfl, NoneTo.zero, Below.refl _ _⟩
  case round =>
    obtain ⟨k, hk, rfl, hno, hbr⟩ := hrel
    have lr := later hbr
    have lrr : Later wr wr := Later.refl
    have l2r : Later w2 wr := ⟨hbr⟩
    have lwr : Later w wr := lw2.trans l2r
    have Hno := hide hno
    clear hno
    by_cases hlt : k < t.scions.length
    rotate_left
    · have hk' : k = t.scions.length := by omega
      subst hk'
      have hn := hide (show scionOf V m client number = none by rw [Hs.out]; exact find_miss Hno.out)
      clear Hno
      go_wp2_with fail
      go_ret
      exact ⟨ret_bool (by rw [hn.out]; rfl), below_of⟩
    obtain ⟨sb, so, e, hA, hx, R1, e0, e1, e2, e3⟩ := scions_get (hts wr) hlt
    have hki : (k : Int) < (t.scions.length : Int) := by omega
    rw [hA] at t4
    have Hx := hide hx
    clear hx
    obtain ⟨q1, hq1⟩ : ∃ q, (e.client == client) = q := ⟨_, rfl⟩
    obtain ⟨q2, hq2⟩ : ∃ q, (e.number == number) = q := ⟨_, rfl⟩
    have hq := hide (show isScion client number e = (q1 && q2) by unfold isScion; rw [hq1, hq2])
    cases q1
    · have hno2 := hide (Hno.out.succ Hx.out (by rw [hq.out]; rfl))
      go_wp2_with fail
      go_roundw
      case rel => exact ⟨k + 1, by omega, by go_num, hno2.out, below_of⟩
      case measure => simp [intOf]; omega
    cases q2
    · have hno2 := hide (Hno.out.succ Hx.out (by rw [hq.out]; rfl))
      go_wp2_with fail
      go_roundw
      case rel => exact ⟨k + 1, by omega, by go_num, hno2.out, below_of⟩
      case measure => simp [intOf]; omega
    have hn := hide (show scionOf V m client number = some e by rw [Hs.out]; exact find_hit Hx.out (by rw [hq.out]; rfl) Hno.out)
    go_wp2_with fail
    go_ret
    exact ⟨ret_bool (by rw [hn.out]; rfl), below_of⟩
def scId (V : List ViewE) (m client number : Int) : IDE := match scionOf V m client number with | some e => e.id | none => zeroI
set_option maxRecDepth 100000 in
set_option maxHeartbeats 4000000 in
theorem refScion_any (A : Option Addr) (c : Nat) (V : List ViewE) (m client number : Int) (w : World) (H : ViewsAt w A V) (hf : FewV V) :
    Calls Tryz.prog 114 #[.slice A V.length c, .int .i64 m, .int .i64 client, .int .u64 number] w fun r w' => r = .returned (scId V m client number).v ∧ Below w.heap.size w w' := by
  have HV := H.later
  have HX : ∀ u [Later w u], Calls Tryz.prog 87 #[.slice A V.length c, .int .i64 m] u (ViewPost V m u) := fun u i => refView_any A c V m u (HV u) hf
  have hto := viewG_ok (w := w) H.v m
  have hfw := viewG_few hf m
  obtain ⟨t, ht⟩ : ∃ t, viewG V m = t := ⟨_, rfl⟩
  obtain ⟨ok, hok⟩ : ∃ ok, (viewOf V m).isSome = ok := ⟨_, rfl⟩
  have Hs := hide (show scionOf V m client number = t.scions.find? (isScion client number) by unfold scionOf; rw [ht])
  unfold ViewPost at HX
  rw [ht] at hto hfw
  rw [ht, hok] at HX
  clear ht hok
  have hsl := hfw.s
  have hts := hto.s.later
  go_enter Tryz.func114, Tryz.ntmps114
  go_upto_region 1 with fail
  refine wp_name ?_
  intro w0 hw0
  obtain ⟨B3, l0⟩ := box1 hw0
  have l00 : Later w0 w0 := Later.refl
  clear hw0
  go_upto_region 2 with (go_at_call 87; refine (HX _).mono ?_; rintro r w1 ⟨rfl, hb1⟩; have l1 := later hb1)
  refine wp_name ?_
  intro w2 hw2
  obtain ⟨B4, l2⟩ := box1 hw2
  have l22 : Later w2 w2 := Later.refl
  clear hw2
  have lw2 : Later w w2 := by infer_instance
  have l02 : Later w0 w2 := by infer_instance
  obtain ⟨-, -, t4, -⟩ := ViewE.box B4
  clear B4
  go_wp2_with fail
  go_loopw [11] (fun i wr => ∃ k : Nat, k ≤ t.scions.length ∧ i = .int .i64 k ∧ NoneTo (isScion client number) t.scions k ∧ Below w2.heap.size w2 wr) (fun i _ => t.scions.length - (intOf i).toNat)
  case atStart => exact ⟨0, by omega, rfl, NoneTo.zero, Below.refl _ _⟩
  case round =>
    obtain ⟨k, hk, rfl, hno, hbr⟩ := hrel
    have lr := later hbr
    have lrr : Later wr wr := Later.refl
    have l2r : Later w2 wr := ⟨hbr⟩
    have lwr : Later w wr := lw2.trans l2r
    have Hno := hide hno
    clear hno
    by_cases hlt : k < t.scions.length
    rotate_left
    · have hk' : k = t.scions.length := by omega
      subst hk'
      have hn := hide (show scionOf V m client number = none by rw [Hs.out]; exact find_miss Hno.out)
      clear Hno
      go_wp2_with fail
      have q := blk_set (blk_set (B3 wr).1 0 (.int .i64 0)) 1 (.int .i64 0)
      refine bodyPost_ret (results_cell rfl rfl (loadVar_row idRow idN rfl q)) rfl ⟨by unfold scId; rw [hn.out]; rfl, ?_⟩
      exact (lwr.below.setCell (p := ⟨_, 0, none⟩) (by simp) _).setCell (p := ⟨_, 1, none⟩) (by simp) _
    obtain ⟨sb, so, e, hA, hx, R1, e0, e1, e2, e3⟩ := scions_get (hts wr) hlt
    have hki : (k : Int) < (t.scions.length : Int) := by omega
    rw [hA] at t4
    have Hx := hide hx
    clear hx
    obtain ⟨q1, hq1⟩ : ∃ q, (e.client == client) = q := ⟨_, rfl⟩
    obtain ⟨q2, hq2⟩ : ∃ q, (e.number == number) = q := ⟨_, rfl⟩
    have hq := hide (show isScion client number e = (q1 && q2) by unfold isScion; rw [hq1, hq2])
    cases q1
    · have hno2 := hide (Hno.out.succ Hx.out (by rw [hq.out]; rfl))
      go_wp2_with fail
      go_roundw
      case rel => exact ⟨k + 1, by omega, by go_num, hno2.out, below_of⟩
      case measure => simp [intOf]; omega
    cases q2
    · have hno2 := hide (Hno.out.succ Hx.out (by rw [hq.out]; rfl))
      go_wp2_with fail
      go_roundw
      case rel => exact ⟨k + 1, by omega, by go_num, hno2.out, below_of⟩
      case measure => simp [intOf]; omega
    have hn := hide (show scionOf V m client number = some e by rw [Hs.out]; exact find_hit Hx.out (by rw [hq.out]; rfl) Hno.out)
    go_wp2_with fail
    have q := blk_set (blk_set (B3 wr).1 0 (.int .i64 e.iDMachine)) 1 (.int .i64 e.iDSerial)
    refine bodyPost_ret (results_cell rfl rfl (loadVar_row idRow idN rfl q)) rfl ⟨by unfold scId; rw [hn.out]; rfl, ?_⟩
    exact (lwr.below.setCell (p := ⟨_, 0, none⟩) (by simp) _).setCell (p := ⟨_, 1, none⟩) (by simp) _
end Go.Proofs.YtpkfenlfgdbkcaaGreatDoor
