/-
  Contracts of the functions of this seat that each theorem names: what a call returns, and that it writes nothing that was there before. The conditions stand in each theorem.
-/
import Derived.Test.YtpkfenlfgdbkcaaGreatDoorP59R1
import Derived.Test.YtpkfenlfgdbkcaaGreatDoorGrp35
set_option linter.unusedSimpArgs false
set_option linter.unusedVariables false
namespace Go.Proofs.YtpkfenlfgdbkcaaGreatDoor
open Go.RowKit
attribute [local go_sem] Oper.semAt_some Instr.makeFunc
attribute [local simp] heap_drew
attribute [local go_sem ↓] load_view_pre load_flight_pre load_msg_pre store_view_pre store_flight_pre store_msg_pre load_scion_pre store_scion_pre
attribute [local go_sem] load_view load_flight load_msg store_view store_flight store_msg load_scion store_scion view_isRow zero_isRow scion_isRow zeroS_isRow rowFree_new setRow_new view_arr0 view_arr2 view_arr3 view_arr4 view_arr5 view_arr6 view_arr9 view_arr10 flight_arr0 flight_arr1 flight_arr2 flight_arr3 flight_arr6 flight_arr7 flight_arr8 flight_arr9 flight_arr10 flight_arr11 flight_arr12 flight_arr13 flight_arr17 flight_arr18 flight_arr19 flight_arr20 flight_arr21 flight_arr22 flight_arr23 flight_arr24 flight_arr25 msg_arr0 msg_arr1 msg_arr4 msg_arr5 msg_arr6 msg_arr7 msg_arr8 msg_arr9 msg_arr10 msg_arr11 msg_arr15 msg_arr16 msg_arr17 msg_arr18 msg_arr19 msg_arr20 msg_arr21 msg_arr22 msg_arr23
attribute [local go_sem ↓] run_eql_id run_neq_id
theorem id_res {w0 w u : World} {g : Nat} (hg : w.heap.size ≤ g) (i : Later w w0) (j : Later w0 u) (B : Boxed w0 g #[.int .i64 0, .int .i64 0] 24) (a b : Int) :
    (loadVar 24 ⟨g, 0, none⟩).run Tryz.prog ((u.setCell ⟨g, 0, none⟩ (.int .i64 a)).setCell ⟨g, 1, none⟩ (.int .i64 b)) = .ok (.agg #[.int .i64 a, .int .i64 b]) ((u.setCell ⟨g, 0, none⟩ (.int .i64 a)).setCell ⟨g, 1, none⟩ (.int .i64 b)) ∧ Below w.heap.size w ((u.setCell ⟨g, 0, none⟩ (.int .i64 a)).setCell ⟨g, 1, none⟩ (.int .i64 b)) := by
  have q := blk_set (blk_set (B u).1 0 (.int .i64 a)) 1 (.int .i64 b)
  exact ⟨loadVar_row idRow idN rfl q, ((i.trans j).below.setCell (p := ⟨_, 0, none⟩) hg _).setCell (p := ⟨_, 1, none⟩) hg _⟩
set_option maxRecDepth 100000 in
set_option maxHeartbeats 8000000 in
theorem refNumbered_any (A : Option Addr) (c : Nat) (V : List ViewE) (frm dst number : Int) (w : World) (H : ViewsAt w A V) (hf : FewV V) :
    Calls Tryz.prog 93 #[.slice A V.length c, .int .i64 frm, .int .i64 dst, .int .u64 number] w (NumPost V frm dst number w) := by
  have HV := H.later
  have HK : ∀ u [Later w u], Calls Tryz.prog 113 #[.slice A V.length c, .int .i64 dst, .int .i64 frm, .int .u64 number] u fun r w' => r = .returned (.bool (scionOf V dst frm number).isSome) ∧ Below u.heap.size u w' := fun u i => refKnown_any A c V dst frm number u (HV u) hf
  have HX : ∀ u [Later w u], Calls Tryz.prog 87 #[.slice A V.length c, .int .i64 frm] u (ViewPost V frm u) := fun u i => refView_any A c V frm u (HV u) hf
  have HS : ∀ u [Later w u], Calls Tryz.prog 114 #[.slice A V.length c, .int .i64 dst, .int .i64 frm, .int .u64 number] u fun r w' => r = .returned (scId V dst frm number).v ∧ Below u.heap.size u w' := fun u i => refScion_any A c V dst frm number u (HV u) hf
  have hto := viewG_ok (w := w) H.v frm
  have hfw := viewG_few hf frm
  obtain ⟨t, ht⟩ : ∃ t, viewG V frm = t := ⟨_, rfl⟩
  obtain ⟨ok, hok⟩ : ∃ ok, (viewOf V frm).isSome = ok := ⟨_, rfl⟩
  have Hn := hide (show numId V frm dst number = match scionOf V dst frm number with | some e => e.id | none => match t.flights.find? (isMove V t dst number) with | some x => x.msg.parcel.id | none => zeroI by unfold numId; rw [ht]; rfl)
  unfold ViewPost at HX
  rw [ht] at hto hfw
  rw [ht, hok] at HX
  clear ht hok
  have hfl := hfw.f
  have htf := hto.f.later
  have htg := fun (u : World) (i : Later w u) => (hto.later u).g
  unfold NumPost
  cases hs : scionOf V dst frm number with
  | some e =>
    have HN := hide (show scId V dst frm number = numId V frm dst number by rw [Hn.out, hs]; unfold scId; rw [hs])
    rw [hs] at HK
    generalize scId V dst frm number = N at HS HN
    clear hs Hn HX
    go_enter Tryz.func93, Tryz.ntmps93
    go_upto_region 1 with fail
    refine wp_name ?_
    intro w0 hw0
    obtain ⟨B3, l0⟩ := box1 hw0
    have l00 : Later w0 w0 := Later.refl
    clear hw0
    go_wp2_with (first | (go_at_call 113; refine (HK _).mono ?_; rintro r w1 ⟨rfl, hb1⟩; have l1 := later hb1) | (go_at_call 114; refine (HS _).mono ?_; rintro r w2 ⟨rfl, hb2⟩; have l2 := later hb2))
    obtain ⟨h1, h2⟩ := id_res (Nat.le_refl _) (l0 w) (show Later w0 w2 by infer_instance) B3 N.machine N.serial
    exact bodyPost_ret (results_cell rfl rfl h1) rfl ⟨by rw [← HN.out], h2⟩
  | none =>
    have HN := hide (show numId V frm dst number = match t.flights.find? (isMove V t dst number) with | some x => x.msg.parcel.id | none => zeroI by rw [Hn.out, hs])
    rw [hs] at HK
    generalize numId V frm dst number = N at HN
    clear hs Hn HS
    go_enter Tryz.func93, Tryz.ntmps93
    go_upto_region 1 with fail
    refine wp_name ?_
    intro w0 hw0
    obtain ⟨B3, l0⟩ := box1 hw0
    have l00 : Later w0 w0 := Later.refl
    have lw0 : Later w w0 := l0 w
    clear hw0
    go_upto_region 4 with (first | (go_at_call 113; refine (HK _).mono ?_; rintro r w1 ⟨rfl, hb1⟩; have l1 := later hb1) | (go_at_call 87; refine (HX _).mono ?_; rintro r w2 ⟨rfl, hb2⟩; have l2 := later hb2))
    refine wp_name ?_
    intro w4 hw4
    obtain ⟨B4, l4⟩ := box1 hw4
    have l44 : Later w4 w4 := Later.refl
    clear hw4
    have l04 : Later w0 w4 := by infer_instance
    have lw4 : Later w w4 := by infer_instance
    obtain ⟨-, -, -, -, -, t9, -, R4⟩ := ViewE.box B4
    clear B4
    go_wp2_with fail
    go_loopw [11] (fun i wr => ∃ k : Nat, k ≤ t.flights.length ∧ i = .int .i64 k ∧ NoneTo (isMove V t dst number) t.flights k ∧ Below w4.heap.size w4 wr) (fun i _ => t.flights.length - (intOf i).toNat)
    case atStart => exact ⟨0, by omega, rfl, NoneTo.zero, Below.refl _ _⟩
    case round =>
      obtain ⟨k, hk, rfl, hno, hbr⟩ := hrel
      have lr := later hbr
      have lrr : Later wr wr := Later.refl
      have l4r : Later w4 wr := ⟨hbr⟩
      have l0r : Later w0 wr := l04.trans l4r
      have lwr : Later w wr := lw4.trans l4r
      have Hno := hide hno
      clear hno
      by_cases hlt : k < t.flights.length
      rotate_left
      · have hk' : k = t.flights.length := by omega
        subst hk'
        have hn := hide (show N = zeroI by rw [HN.out, find_miss Hno.out])
        go_wp2_with fail
        obtain ⟨h1, h2⟩ := id_res (Nat.le_refl _) lw0 l0r B3 0 0
        exact bodyPost_ret (results_cell rfl rfl h1) rfl ⟨by rw [hn.out]; rfl, h2⟩
      obtain ⟨sb, so, x, hA, hx, hm, hxo, hR, LX, -, -, -⟩ := flights_get (htf wr) (htg wr lwr) hlt
      have hki : (k : Int) < (t.flights.length : Int) := by omega
      rw [hA] at t9
      have Hx := hide hx
      clear hx
      have HFl : ∀ u [Later wr u], Calls Tryz.prog 55 #[.slice A V.length c, t.v, x.v] u fun r w' => r = .returned (.bool (flyB V t x)) ∧ Below u.heap.size u w' := fun u i => by
        haveI := lwr.trans i
        exact refFlying_any A c V t x u (HV u) hf (hxo u)
      obtain ⟨q1, hq1⟩ : ∃ q, (x.dst == dst) = q := ⟨_, rfl⟩
      obtain ⟨q2, hq2⟩ : ∃ q, (x.msg.kind == 1) = q := ⟨_, rfl⟩
      obtain ⟨q3, hq3⟩ : ∃ q, (x.msg.parcel.number == number) = q := ⟨_, rfl⟩
      obtain ⟨q4, hq4⟩ : ∃ q, flyB V t x = q := ⟨_, rfl⟩
      have Hr := hide (show isMove V t dst number x = (q1 && (q2 && (q3 && q4))) by unfold isMove; rw [hq1, hq2, hq3, hq4])
      rw [hq4] at HFl
      have hx0 := hxo wr
      clear hq4
      go_upto_region 8 with fail
      refine wp_name ?_
      intro w5 hw5
      have b5 : w5.heap[wr.heap.size]? = some (.cells x.arr 87 (0, 0)) := (by rw [← hw5]; simp only [heap_alloc_if, World.size_alloc]; repeat (first | rw [if_pos trivial] | rw [if_neg (by omega)] | rw [if_pos (by omega)]); try rfl)
      have hb5 : Below wr.heap.size wr w5 := by rw [← hw5]; exact (by repeat (first | with_reducible exact Below.refl _ _ | (with_reducible refine Below.drew ?_) | (with_reducible refine below_drewN ?_ _) | (with_reducible refine Below.alloc ?_ ?_ _; rotate_left; (first | omega | (simp <;> omega))) | (with_reducible refine Below.setCell ?_ ?_ _; rotate_left; (first | omega | (simp <;> omega)))))
      clear hw5
      have lr5 : Later wr w5 := ⟨hb5⟩
      have l05 : Later w0 w5 := l0r.trans lr5
      have lw5 : Later w w5 := lwr.trans lr5
      have l45 : Later w4 w5 := l4r.trans lr5
      have B5 := boxed b5
      have l55 : Later w5 w5 := Later.refl
      have R5 := FlightE.row B5 hx0
      obtain ⟨x0, -, x2, x18, x19, x20⟩ := FlightE.box B5
      clear B5 b5
      cases q1
      · have hno2 := hide (Hno.out.succ Hx.out (by rw [Hr.out]; rfl))
        go_wp2_with fail
        go_roundw
        case rel => exact ⟨k + 1, by omega, by go_num, hno2.out, below_of⟩
        case measure => simp [intOf]; omega
      cases q2
      · have hno2 := hide (Hno.out.succ Hx.out (by rw [Hr.out]; rfl))
        go_wp2_with fail
        go_roundw
        case rel => exact ⟨k + 1, by omega, by go_num, hno2.out, below_of⟩
        case measure => simp [intOf]; omega
      cases q3
      · have hno2 := hide (Hno.out.succ Hx.out (by rw [Hr.out]; rfl))
        go_wp2_with fail
        go_roundw
        case rel => exact ⟨k + 1, by omega, by go_num, hno2.out, below_of⟩
        case measure => simp [intOf]; omega
      cases q4
      · have hno2 := hide (Hno.out.succ Hx.out (by rw [Hr.out]; rfl))
        go_wp2_with (go_at_call 55; refine (HFl _).mono ?_; rintro r w6 ⟨rfl, hb6⟩; have l6 := later hb6)
        go_roundw
        case rel => exact ⟨k + 1, by omega, by go_num, hno2.out, below_of⟩
        case measure => simp [intOf]; omega
      have hn := hide (show N = x.msg.parcel.id by rw [HN.out, find_hit Hx.out (by rw [Hr.out]; rfl) Hno.out])
      go_wp2_with (go_at_call 55; refine (HFl _).mono ?_; rintro r w6 ⟨rfl, hb6⟩; have l6 := later hb6)
      obtain ⟨h1, h2⟩ := id_res (Nat.le_refl _) lw0 (show Later w0 w6 by infer_instance) B3 x.msg.parcel.iM x.msg.parcel.iS
      exact bodyPost_ret (results_cell rfl rfl h1) rfl ⟨by rw [hn.out]; rfl, h2⟩
set_option maxRecDepth 100000 in
set_option maxHeartbeats 4000000 in
theorem refRefID_any (A : Option Addr) (c : Nat) (V : List ViewE) (frm dst : Int) (x : RefE) (w : World) (H : ViewsAt w A V) (hf : FewV V) :
    Calls Tryz.prog 94 #[.slice A V.length c, .int .i64 frm, .int .i64 dst, x.v] w (IdPost V frm dst x w) := by
  have HV := H.later
  have HN : ∀ u [Later w u], Calls Tryz.prog 93 #[.slice A V.length c, .int .i64 frm, .int .i64 dst, .int .u64 x.number] u (NumPost V frm dst x.number u) := fun u i => refNumbered_any A c V frm dst x.number u (HV u) hf
  unfold NumPost at HN
  unfold IdPost
  have Hr := hide (show refId V frm dst x = if x.kind = 3 then x.id else if x.kind = 2 then numId V frm dst x.number else zeroI from rfl)
  generalize refId V frm dst x = R at Hr ⊢
  generalize numId V frm dst x.number = N at Hr HN
  obtain ⟨q3, hq3⟩ : ∃ q, (x.kind == 3) = q := ⟨_, rfl⟩
  obtain ⟨q2, hq2⟩ : ∃ q, (x.kind == 2) = q := ⟨_, rfl⟩
  have H3 : Hid (x.kind = 3 ↔ q3 = true) := hide (by rw [← hq3]; simp)
  have H2 : Hid (x.kind = 2 ↔ q2 = true) := hide (by rw [← hq2]; simp)
  go_enter Tryz.func94, Tryz.ntmps94
  go_upto_region 1 with fail
  refine wp_name ?_
  intro w0 hw0
  obtain ⟨B0, B1, l0⟩ := box2 hw0
  have l00 : Later w0 w0 := Later.refl
  clear hw0
  cases q3
  · cases q2
    · have hR := hide (show R = zeroI by rw [Hr.out, if_neg (by rw [H3.out]; simp), if_neg (by rw [H2.out]; simp)])
      go_wp2_with fail
      obtain ⟨h1, h2⟩ := id_res (show w.heap.size ≤ w.heap.size + 1 by omega) (l0 w) Later.refl B1 0 0
      exact bodyPost_ret (results_cell rfl rfl h1) rfl ⟨by rw [hR.out]; rfl, h2⟩
    · have hR := hide (show R = N by rw [Hr.out, if_neg (by rw [H3.out]; simp), if_pos (by rw [H2.out])])
      go_wp2_with (go_at_call 93; refine (HN _).mono ?_; rintro r w1 ⟨rfl, hb1⟩; have l1 := later hb1)
      obtain ⟨h1, h2⟩ := id_res (show w.heap.size ≤ w.heap.size + 1 by omega) (l0 w) (show Later w0 w1 by infer_instance) B1 N.machine N.serial
      exact bodyPost_ret (results_cell rfl rfl h1) rfl ⟨by rw [hR.out], h2⟩
  · have hR := hide (show R = x.id by rw [Hr.out, if_pos (by rw [H3.out])])
    go_wp2_with fail
    obtain ⟨h1, h2⟩ := id_res (show w.heap.size ≤ w.heap.size + 1 by omega) (l0 w) Later.refl B1 x.iDMachine x.iDSerial
    exact bodyPost_ret (results_cell rfl rfl h1) rfl ⟨by rw [hR.out]; rfl, h2⟩
set_option maxRecDepth 100000 in
set_option maxHeartbeats 4000000 in
theorem refValue_any (A : Option Addr) (c : Nat) (V : List ViewE) (frm dst : Int) (x : RefE) (w : World) (H : ViewsAt w A V) (hf : FewV V) :
    Calls Tryz.prog 88 #[.slice A V.length c, .int .i64 frm, .int .i64 dst, x.v] w (ValPost V frm dst x w) := by
  have HV := H.later
  have HN : ∀ u [Later w u], Calls Tryz.prog 94 #[.slice A V.length c, .int .i64 frm, .int .i64 dst, x.v] u (IdPost V frm dst x u) := fun u i => refRefID_any A c V frm dst x u (HV u) hf
  unfold IdPost at HN
  unfold ValPost
  have Hr := hide (show refVal V frm dst x = if x.kind = 1 then ⟨1, x.int, 0, 0⟩ else if refId V frm dst x = zeroI then ⟨0, 0, 0, 0⟩ else ⟨2, 0, (refId V frm dst x).machine, (refId V frm dst x).serial⟩ from rfl)
  generalize refVal V frm dst x = R at Hr ⊢
  generalize refId V frm dst x = N at Hr HN
  obtain ⟨q1, hq1⟩ : ∃ q, (x.kind == 1) = q := ⟨_, rfl⟩
  obtain ⟨q0, hq0⟩ : ∃ q, ideq N.machine N.serial 0 0 = q := ⟨_, rfl⟩
  have H1 : Hid (x.kind = 1 ↔ q1 = true) := hide (by rw [← hq1]; simp)
  have H0 : Hid (N = zeroI ↔ q0 = true) := hide (by rw [← hq0, show ideq N.machine N.serial 0 0 = decide (N = zeroI) from @ideq_iff N zeroI]; simp)
  go_enter Tryz.func88, Tryz.ntmps88
  go_upto_region 1 with fail
  refine wp_name ?_
  intro w0 hw0
  obtain ⟨B0, B2, l0⟩ := box2 hw0
  have l00 : Later w0 w0 := Later.refl
  clear hw0
  cases q1
  rotate_left
  · go_wp2_with fail
    obtain ⟨h1, h2⟩ := val_res (show w.heap.size ≤ w.heap.size + 1 by omega) (l0 w) B2 ⟨1, x.int, 0, 0⟩ rfl
    exact bodyPost_ret (results_cell rfl rfl h1) rfl ⟨by rw [Hr.out, if_pos (H1.out.2 (by first | trivial | rfl))], h2⟩
  go_upto_region 4 with (go_at_call 94; refine (HN _).mono ?_; rintro r w1 ⟨rfl, hb1⟩; have l1 := later hb1)
  refine wp_name ?_
  intro w2 hw2
  obtain ⟨B3, l2⟩ := box1 hw2
  have l22 : Later w2 w2 := Later.refl
  clear hw2
  have lw2 : Later w w2 := by infer_instance
  have l02 : Later w0 w2 := by infer_instance
  cases q0
  · go_wp2_with fail
    obtain ⟨h1, h2⟩ := val_res (show w.heap.size ≤ w.heap.size + 1 by omega) lw2 B2 ⟨2, 0, N.machine, N.serial⟩ rfl
    exact bodyPost_ret (results_cell rfl rfl h1) rfl ⟨by rw [Hr.out, if_neg (by rw [H1.out]; simp), if_neg (by rw [H0.out]; simp)], h2⟩
  · go_wp2_with fail
    obtain ⟨h1, h2⟩ := val_res (show w.heap.size ≤ w.heap.size + 1 by omega) lw2 B2 ⟨0, 0, 0, 0⟩ rfl
    exact bodyPost_ret (results_cell rfl rfl h1) rfl ⟨by rw [Hr.out, if_neg (by rw [H1.out]; simp), if_pos (H0.out.2 (by first | trivial | rfl))], h2⟩
end Go.Proofs.YtpkfenlfgdbkcaaGreatDoor
