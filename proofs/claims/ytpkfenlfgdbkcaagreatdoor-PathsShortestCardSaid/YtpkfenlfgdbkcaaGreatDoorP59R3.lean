/-
  Contracts of the functions of this seat that each theorem names: what a call returns, and that it writes nothing that was there before. The conditions stand in each theorem.
-/
import Derived.Test.YtpkfenlfgdbkcaaGreatDoorP59R2
import Derived.Test.YtpkfenlfgdbkcaaGreatDoorP59Home
set_option linter.unusedSimpArgs false
set_option linter.unusedVariables false
namespace Go.Proofs.YtpkfenlfgdbkcaaGreatDoor
open Go.RowKit
attribute [local go_sem] Oper.semAt_some Instr.makeFunc
attribute [local simp] heap_drew
attribute [local go_sem ↓] load_view_pre load_flight_pre load_msg_pre store_view_pre store_flight_pre store_msg_pre load_scion_pre store_scion_pre
attribute [local go_sem] load_view load_flight load_msg store_view store_flight store_msg load_scion store_scion view_isRow zero_isRow scion_isRow zeroS_isRow rowFree_new setRow_new view_arr0 view_arr2 view_arr3 view_arr4 view_arr5 view_arr6 view_arr9 view_arr10 flight_arr0 flight_arr1 flight_arr2 flight_arr3 flight_arr6 flight_arr7 flight_arr8 flight_arr9 flight_arr10 flight_arr11 flight_arr12 flight_arr13 flight_arr17 flight_arr18 flight_arr19 flight_arr20 flight_arr21 flight_arr22 flight_arr23 flight_arr24 flight_arr25 msg_arr0 msg_arr1 msg_arr4 msg_arr5 msg_arr6 msg_arr7 msg_arr8 msg_arr9 msg_arr10 msg_arr11 msg_arr15 msg_arr16 msg_arr17 msg_arr18 msg_arr19 msg_arr20 msg_arr21 msg_arr22 msg_arr23
attribute [local go_sem ↓] run_eql_id run_neq_id
set_option maxRecDepth 100000 in
set_option maxHeartbeats 4000000 in
theorem refLocal_any (v : ViewE) (x : IDE) (w : World) (hv : ViewOk w v) (hf : FewW v) :
    Calls Tryz.prog 96 #[v.v, x.v] w fun r w' => r = .returned (.bool (localB x v)) ∧ Below w.heap.size w w' := by
  have HV := hv.later
  have hol := hf.o
  have HF : ∀ u [Later w u], Calls Tryz.prog 29 #[.agg #[.slice v.oA v.objects.length v.oc], x.v] u (Find16Post v.objects x u) := fun u i => find16_any v.oA v.oc v.objects x u (HV u).o (by omega)
  unfold Find16Post at HF
  obtain ⟨m, hm⟩ : ∃ m, (firstE v.objects x).getD zeroN = m := ⟨_, rfl⟩
  obtain ⟨ok, hok⟩ : ∃ b, (firstE v.objects x).isSome = b := ⟨_, rfl⟩
  rw [hm, hok] at HF
  obtain ⟨kd, hkd⟩ : ∃ b, (m.kind != 3) = b := ⟨_, rfl⟩
  have Hr := hide (show localB x v = (ok && kd) by
    unfold localB
    rw [firstE_N, ← hok, ← hkd, ← hm]
    cases firstE v.objects x <;> rfl)
  clear hm hok
  go_enter Tryz.func96, Tryz.ntmps96
  go_upto_region 1 with fail
  refine wp_name ?_
  intro w0 hw0
  obtain ⟨B0, B1, l0⟩ := box2 hw0
  have l00 : Later w0 w0 := Later.refl
  have lw0 : Later w w0 := l0 w
  clear hw0
  obtain ⟨-, O0, -, -, -, -, -, -⟩ := ViewE.box B0
  clear B0
  go_upto_region 2 with (go_at_call 29; refine (HF _).mono ?_; rintro r w1 ⟨rfl, hb1⟩; have l1 := later hb1)
  refine wp_name ?_
  intro w2 hw2
  have b5 : w2.heap[w1.heap.size]? = some (.cells #[.int .i64 m.iDMachine, .int .i64 m.iDSerial, .int .i64 m.kind, .int .i64 m.clas, .slice m.A m.fields.length m.c] 41 (0, 0)) := (by rw [← hw2]; simp only [heap_alloc_if, World.size_alloc]; repeat (first | rw [if_pos trivial] | rw [if_neg (by omega)] | rw [if_pos (by omega)]); try rfl)
  have hb12 : Below w1.heap.size w1 w2 := by rw [← hw2]; exact (by repeat (first | with_reducible exact Below.refl _ _ | (with_reducible refine Below.drew ?_) | (with_reducible refine below_drewN ?_ _) | (with_reducible refine Below.alloc ?_ ?_ _; rotate_left; (first | omega | (simp <;> omega))) | (with_reducible refine Below.setCell ?_ ?_ _; rotate_left; (first | omega | (simp <;> omega)))))
  clear hw2
  have lw1 : Later w w1 := ⟨below_of⟩
  have lw2 : Later w w2 := ⟨lw1.below.trans (hb12.mono lw1.below.size)⟩
  have B5 := boxed b5
  have l22 : Later w2 w2 := Later.refl
  cases ok
  · go_wp2_with fail
    go_ret
    exact ⟨ret_bool (by rw [Hr.out]; rfl), below_of⟩
  cases kd
  · go_wp2_with fail
    go_ret
    exact ⟨ret_bool (by rw [Hr.out]; rfl), below_of⟩
  · go_wp2_with fail
    go_ret
    exact ⟨ret_bool (by rw [Hr.out]; rfl), below_of⟩
/-! ### The flights, those that are not on their way too -/
def pairsV (V : List ViewE) : List (ViewE × FlightE) := V.flatMap fun v => v.flights.map fun x => (v, x)
def hitV (V : List ViewE) (id : IDE) (p : ViewE × FlightE) : Bool := p.2.msg.kind == 1 && (decide (p.2.msg.parcel.id = id) && flyB V p.1 p.2)
theorem flights_pairs (V : List ViewE) : flightsOf V = (pairsV V).filter fun p => flyB V p.1 p.2 := by
  unfold flightsOf pairsV
  have : ∀ l : List ViewE, (l.flatMap fun v => (v.flights.filter (flyB V v)).map fun x => (v, x)) = (l.flatMap fun v => v.flights.map fun x => (v, x)).filter fun p => flyB V p.1 p.2 := by
    intro l
    induction l with
    | nil => rfl
    | cons v l ih =>
      rw [List.flatMap_cons, List.flatMap_cons, List.filter_append, ih]
      congr 1
      rw [List.filter_map]
      rfl
  exact this V
theorem home_pairs (V : List ViewE) (id : IDE) : (flightsOf V).find? (movesId id) = (pairsV V).find? (hitV V id) := by
  rw [flights_pairs, List.find?_filter]
  congr 1
  funext p
  unfold hitV movesId
  cases p.2.msg.kind == 1 <;> cases decide (p.2.msg.parcel.id = id) <;> cases flyB V p.1 p.2 <;> rfl
theorem pairs_take {V : List ViewE} {i : Nat} {v : ViewE} (h : V[i]? = some v) : pairsV (V.take (i + 1)) = pairsV (V.take i) ++ v.flights.map fun x => (v, x) := by
  unfold pairsV
  rw [List.take_add_one, h, List.flatMap_append]
  simp
theorem pairs_prefix {V : List ViewE} {i : Nat} : pairsV (V.take i) <+: pairsV V := by
  unfold pairsV
  conv => rhs; rw [← List.take_append_drop i V]
  rw [List.flatMap_append]
  exact List.prefix_append _ _
theorem pairs_at {V : List ViewE} {i k : Nat} {v : ViewE} {x : FlightE} (h : V[i]? = some v) (hx : v.flights[k]? = some x) : (pairsV (V.take i) ++ (v.flights.take k).map fun x => (v, x)) ++ [(v, x)] <+: pairsV V := by
  refine List.IsPrefix.trans ?_ (pairs_prefix (i := i + 1))
  rw [pairs_take h, List.append_assoc, List.prefix_append_right_inj]
  refine ⟨(v.flights.drop (k + 1)).map fun x => (v, x), ?_⟩
  conv => rhs; rw [← List.take_append_drop (k + 1) v.flights]
  rw [List.map_append, List.take_add_one, hx]
  simp
set_option maxRecDepth 100000 in
set_option maxHeartbeats 8000000 in
theorem refHome_any (A : Option Addr) (c : Nat) (V : List ViewE) (x : IDE) (w : World) (H : ViewsAt w A V) (hf : FewV V) :
    Calls Tryz.prog 62 #[.slice A V.length c, x.v] w (HomePost V x w) := by
  have hl := hf.l
  have HV := H.later
  have hl' : V.length ≤ 9223372036854775807 := by omega
  unfold HomePost
  go_enter Tryz.func62, Tryz.ntmps62
  go_upto_region 1 with fail
  refine wp_name ?_
  intro w0 hw0
  obtain ⟨B0, l0⟩ := box1 hw0
  have l00 : Later w0 w0 := Later.refl
  have lw0 : Later w w0 := l0 w
  clear hw0
  go_wp2_with fail
  go_loopw [6] (fun i wr => ∃ k : Nat, k ≤ V.length ∧ i = .int .i64 k ∧ NoneTo (localB x) V k ∧ Below w0.heap.size w0 wr) (fun i _ => V.length - (intOf i).toNat)
  case atStart => exact ⟨0, by omega, rfl, NoneTo.zero, Below.refl _ _⟩
  case round =>
    obtain ⟨k, hk, rfl, hno, hbr⟩ := hrel
    have lr := later hbr
    have lrr : Later wr wr := Later.refl
    have l0r : Later w0 wr := ⟨hbr⟩
    have lwr : Later w wr := lw0.trans l0r
    have Hno := hide hno
    clear hno
    by_cases hlt : k < V.length
    · obtain ⟨b, o, v, rfl, hv, hmem, LV, C0, -, -, hvo⟩ := (HV wr).get hlt
      have hki : (k : Int) < (V.length : Int) := by omega
      have Hv := hide hv
      clear hv
      have HL : ∀ u [Later wr u], Calls Tryz.prog 96 #[v.v, x.v] u fun r w' => r = .returned (.bool (localB x v)) ∧ Below u.heap.size u w' := fun u i => refLocal_any v x u (hvo u) (hf.v v hmem)
      cases hq : localB x v with
      | false =>
        simp only [hq] at HL
        have hno2 := hide (Hno.out.succ Hv.out hq)
        go_upto_region 4 with fail
        (refine wp_region_after (by kernel_rfl) (by kernel_rfl) ?_
         repeat (any_goals (first | go_big_quiet_skip | (go_big_quiet_want; go_big_quiet_op; first | go_big_quiet_on | go_big_quiet_call ((go_at_call 96; exact Calls.after (HL _)))) | quiet_step ((go_at_call 96; exact Calls.after (HL _))) | (refine wpQuiet_step (fun K hK => ?_); go_simp; split <;> (refine hK _ ?_; clear hK K))))
         all_goals (refine wpQuiet_nil ?_; intro _ hw'; obtain ⟨u', hw''⟩ := hw'; subst hw''; obtain ⟨wd, hbd⟩ := u'; simp only [After.val_mk]))
        have ld := later hbd
        go_wp2_with fail
        go_roundw
        case rel => exact ⟨k + 1, by omega, by go_num, hno2.out, below_of⟩
        case measure => simp [intOf]; omega
      | true =>
        simp only [hq] at HL
        have HR := hide (show homeV V x = (v.machine, true) by unfold homeV; rw [find_hit Hv.out hq Hno.out])
        go_upto_region 4 with fail
        (refine wp_region_after (by kernel_rfl) (by kernel_rfl) ?_
         repeat (any_goals (first | go_big_quiet_skip | (go_big_quiet_want; go_big_quiet_op; first | go_big_quiet_on | go_big_quiet_call ((go_at_call 96; exact Calls.after (HL _)))) | quiet_step ((go_at_call 96; exact Calls.after (HL _))) | (refine wpQuiet_step (fun K hK => ?_); go_simp; split <;> (refine hK _ ?_; clear hK K))))
         all_goals (refine wpQuiet_nil ?_; intro _ hw'; obtain ⟨u', hw''⟩ := hw'; subst hw''; obtain ⟨wd, hbd⟩ := u'; simp only [After.val_mk]))
        have ld := later hbd
        go_wp2_with fail
        exact bodyPost_ret (results_tmp2 rfl _ _ _) rfl ⟨by rw [HR.out]; rfl, below_of⟩
    · have hk' : k = V.length := by omega
      subst hk'
      have HN := hide (show homeV V x = match (pairsV V).find? (hitV V x) with | some p => (p.2.dst, true) | none => (0, false) by
        unfold homeV
        rw [find_miss Hno.out, ← home_pairs]
        rfl)
      clear Hno
      go_wp2_with fail
      go_loopw [7] (fun iv w' => ∃ i : Nat, i ≤ V.length ∧ iv = .int .i64 i ∧ Hid (∀ p ∈ pairsV (V.take i), hitV V x p = false) ∧ Below w0.heap.size w0 w') (fun iv _ => V.length - (intOf iv).toNat)
      case atStart => exact ⟨0, by omega, rfl, hide (by simp [pairsV]), hbr⟩
      clear lr lrr l0r lwr hbr
      case round =>
        obtain ⟨i, hi, rfl, hno, hbr⟩ := hrel
        have lr := later hbr
        have lrr : Later wr wr := Later.refl
        have l0r : Later w0 wr := ⟨hbr⟩
        have lwr : Later w wr := lw0.trans l0r
        by_cases hlt : i < V.length
        rotate_left
        · have hk' : i = V.length := by omega
          subst hk'
          have hn := hide (show homeV V x = (0, false) by
            rw [HN.out]
            have : (pairsV V).find? (hitV V x) = none := by
              rw [List.find?_eq_none]
              intro p hp
              rw [hno.out p (by rw [List.take_length]; exact hp)]
              simp
            rw [this])
          go_wp2_with fail
          exact bodyPost_ret (results_tmp2 rfl _ _ _) rfl ⟨by rw [hn.out]; rfl, below_of⟩
        obtain ⟨b, o, v, rfl, hv, hmem, LV, C0, -, C9, hvo⟩ := (HV wr).get hlt
        have hii : (i : Int) < (V.length : Int) := by omega
        have Hv := hide hv
        have hfl := (hf.v v hmem).f
        clear hv
        go_wp2_with fail
        go_loopw [8] (fun kv w' => ∃ k : Nat, k ≤ v.flights.length ∧ kv = .int .i64 k ∧ Hid (∀ y ∈ v.flights.take k, hitV V x (v, y) = false) ∧ Below w0.heap.size w0 w' ∧ Later wr w') (fun kv _ => v.flights.length - (intOf kv).toNat)
        case atStart => exact ⟨0, by omega, rfl, hide (by simp), hbr, lrr⟩
        case round =>
          obtain ⟨k, hk, rfl, hnk, hbk, lork⟩ := hrel
          have lk := later hbk
          have lkk : Later wr wr := Later.refl
          have l0k : Later w0 wr := ⟨hbk⟩
          have lwk : Later w wr := lw0.trans l0k
          by_cases hltk : k < v.flights.length
          rotate_left
          · have hk' : k = v.flights.length := by omega
            subst hk'
            have hno2 := hide (show ∀ p ∈ pairsV (V.take (i + 1)), hitV V x p = false from fun p hp => by
              rw [pairs_take Hv.out] at hp
              rcases List.mem_append.1 hp with hp | hp
              · exact hno.out p hp
              · obtain ⟨y, hy, rfl⟩ := List.mem_map.1 hp
                exact hnk.out y (by rw [List.take_length]; exact hy))
            go_wp2_with fail
            go_roundw
            case rel => exact ⟨i + 1, by omega, by go_num, hno2, hbk⟩
            case measure => simp [intOf]; omega
          obtain ⟨sb, so, y, hA, hy, hym, hyo, hR, LX, -, -, -⟩ := flights_get (hvo wr).f (hvo wr).g hltk
          have hki : (k : Int) < (v.flights.length : Int) := by omega
          rw [hA] at C9
          have Hy := hide hy
          have htk := hide (take_snoc_get hy)
          clear hy
          have HFl : ∀ u [Later wr u], Calls Tryz.prog 55 #[.slice (some ⟨b, o, none⟩) V.length c, v.v, y.v] u fun r w' => r = .returned (.bool (flyB V v y)) ∧ Below u.heap.size u w' := fun u i => by
            haveI := lwk.trans i
            exact refFlying_any (some ⟨b, o, none⟩) c V v y u (HV u) hf (hyo u)
          obtain ⟨q1, hq1⟩ : ∃ q, (y.msg.kind == 1) = q := ⟨_, rfl⟩
          obtain ⟨q2, hq2⟩ : ∃ q, ideq y.msg.parcel.iM y.msg.parcel.iS x.machine x.serial = q := ⟨_, rfl⟩
          obtain ⟨q3, hq3⟩ : ∃ q, flyB V v y = q := ⟨_, rfl⟩
          have Hr := hide (show hitV V x (v, y) = (q1 && (q2 && q3)) by
            unfold hitV
            show (y.msg.kind == 1 && (decide (y.msg.parcel.id = x) && flyB V v y)) = _
            rw [hq1, hq3, ← hq2, show ideq y.msg.parcel.iM y.msg.parcel.iS x.machine x.serial = decide (y.msg.parcel.id = x) from @ideq_iff y.msg.parcel.id x])
          rw [hq3] at HFl
          have hno3 := hide (show hitV V x (v, y) = false → ∀ z ∈ v.flights.take (k + 1), hitV V x (v, z) = false from fun h z hz => by
            rw [htk.out] at hz
            rcases List.mem_append.1 hz with hz | hz
            · exact hnk.out z hz
            · rw [List.mem_singleton.1 hz]; exact h)
          have hx0 := hyo wr
          clear hq3
          go_upto_region 13 with fail
          refine wp_name ?_
          intro w5 hw5
          have b5 : w5.heap[wr.heap.size]? = some (.cells y.arr 87 (0, 0)) := (by rw [← hw5]; simp only [heap_alloc_if, World.size_alloc]; repeat (first | rw [if_pos trivial] | rw [if_neg (by omega)] | rw [if_pos (by omega)]); try rfl)
          have hb5 : Below wr.heap.size wr w5 := by rw [← hw5]; exact (by repeat (first | with_reducible exact Below.refl _ _ | (with_reducible refine Below.drew ?_) | (with_reducible refine below_drewN ?_ _) | (with_reducible refine Below.alloc ?_ ?_ _; rotate_left; (first | omega | (simp <;> omega))) | (with_reducible refine Below.setCell ?_ ?_ _; rotate_left; (first | omega | (simp <;> omega)))))
          clear hw5
          have lr5 : Later wr w5 := ⟨hb5⟩
          have lo5 := lork.trans lr5
          have l05 : Later w0 w5 := l0k.trans lr5
          have lw5 : Later w w5 := lwk.trans lr5
          have B5 := boxed b5
          have l55 : Later w5 w5 := Later.refl
          have R5 := FlightE.row B5 hx0
          obtain ⟨x0, -, x2, x18, x19, x20⟩ := FlightE.box B5
          clear B5 b5
          cases q1
          · have hn4 := hide (hno3.out (by rw [Hr.out]; rfl))
            (refine wp_region_after (by kernel_rfl) (by kernel_rfl) ?_
             repeat (any_goals (first | go_big_quiet_skip | (go_big_quiet_want; go_big_quiet_op; first | go_big_quiet_on | go_big_quiet_call (fail)) | quiet_step (fail) | (refine wpQuiet_step (fun K hK => ?_); go_simp; split <;> (refine hK _ ?_; clear hK K))))
             all_goals (refine wpQuiet_nil ?_; intro _ hw'; obtain ⟨u', hw''⟩ := hw'; subst hw''; obtain ⟨wd, hbd⟩ := u'; simp only [After.val_mk]))
            have ld := later hbd
            go_wp2_with fail
            go_roundw
            case rel => exact ⟨k + 1, by omega, by go_num, hn4, below_of, ⟨below_of⟩⟩
            case measure => simp [intOf]; omega
          cases q2
          · have hn4 := hide (hno3.out (by rw [Hr.out]; rfl))
            (refine wp_region_after (by kernel_rfl) (by kernel_rfl) ?_
             repeat (any_goals (first | go_big_quiet_skip | (go_big_quiet_want; go_big_quiet_op; first | go_big_quiet_on | go_big_quiet_call (fail)) | quiet_step (fail) | (refine wpQuiet_step (fun K hK => ?_); go_simp; split <;> (refine hK _ ?_; clear hK K))))
             all_goals (refine wpQuiet_nil ?_; intro _ hw'; obtain ⟨u', hw''⟩ := hw'; subst hw''; obtain ⟨wd, hbd⟩ := u'; simp only [After.val_mk]))
            have ld := later hbd
            go_wp2_with fail
            go_roundw
            case rel => exact ⟨k + 1, by omega, by go_num, hn4, below_of, ⟨below_of⟩⟩
            case measure => simp [intOf]; omega
          cases q3
          · have hn4 := hide (hno3.out (by rw [Hr.out]; rfl))
            (refine wp_region_after (by kernel_rfl) (by kernel_rfl) ?_
             repeat (any_goals (first | go_big_quiet_skip | (go_big_quiet_want; go_big_quiet_op; first | go_big_quiet_on | go_big_quiet_call ((go_at_call 55; exact Calls.after (HFl _)))) | quiet_step ((go_at_call 55; exact Calls.after (HFl _))) | (refine wpQuiet_step (fun K hK => ?_); go_simp; split <;> (refine hK _ ?_; clear hK K))))
             all_goals (refine wpQuiet_nil ?_; intro _ hw'; obtain ⟨u', hw''⟩ := hw'; subst hw''; obtain ⟨wd, hbd⟩ := u'; simp only [After.val_mk]))
            have ld := later hbd
            go_wp2_with fail
            go_roundw
            case rel => exact ⟨k + 1, by omega, by go_num, hn4, below_of, ⟨below_of⟩⟩
            case measure => simp [intOf]; omega
          have hn := hide (show homeV V x = (y.dst, true) by
            rw [HN.out]
            have : (pairsV V).find? (hitV V x) = some (v, y) := find_none_to (pre := pairsV (V.take i) ++ (v.flights.take k).map fun z => (v, z)) ((List.prefix_append _ _).trans (pairs_at Hv.out Hy.out)) (fun p hp => by
              rcases List.mem_append.1 hp with hp | hp
              · exact hno.out p hp
              · obtain ⟨z, hz, rfl⟩ := List.mem_map.1 hp
                exact hnk.out z hz) (pairs_at Hv.out Hy.out) (by rw [Hr.out]; rfl)
            rw [this])
          (refine wp_region_after (by kernel_rfl) (by kernel_rfl) ?_
           repeat (any_goals (first | go_big_quiet_skip | (go_big_quiet_want; go_big_quiet_op; first | go_big_quiet_on | go_big_quiet_call ((go_at_call 55; exact Calls.after (HFl _)))) | quiet_step ((go_at_call 55; exact Calls.after (HFl _))) | (refine wpQuiet_step (fun K hK => ?_); go_simp; split <;> (refine hK _ ?_; clear hK K))))
           all_goals (refine wpQuiet_nil ?_; intro _ hw'; obtain ⟨u', hw''⟩ := hw'; subst hw''; obtain ⟨wd, hbd⟩ := u'; simp only [After.val_mk]))
          have ld := later hbd
          go_wp2_with fail
          exact bodyPost_ret (results_tmp2 rfl _ _ _) rfl ⟨by rw [hn.out]; rfl, below_of⟩
end Go.Proofs.YtpkfenlfgdbkcaaGreatDoor
