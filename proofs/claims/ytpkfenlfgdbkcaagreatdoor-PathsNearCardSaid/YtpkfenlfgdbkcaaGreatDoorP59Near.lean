/-
  Contracts of the functions of this seat that each theorem names: what a call returns, and that it writes nothing that was there before. The conditions stand in each theorem.
-/
import Derived.Test.YtpkfenlfgdbkcaaGreatDoorP59NearPlain
import Derived.Test.YtpkfenlfgdbkcaaGreatDoorP59Open
import Derived.Test.YtpkfenlfgdbkcaaGreatDoorP59Few
set_option linter.unusedSimpArgs false
set_option linter.unusedVariables false
namespace Go.Proofs.YtpkfenlfgdbkcaaGreatDoor
open Go.RowKit
attribute [local go_sem] Oper.semAt_some Instr.makeFunc
attribute [local simp] heap_drew
attribute [local go_sem ↓] load_view_pre load_flight_pre load_msg_pre store_view_pre store_flight_pre store_msg_pre load_scion_pre store_scion_pre
attribute [local go_sem] load_view load_flight load_msg store_view store_flight store_msg load_scion store_scion view_isRow zero_isRow scion_isRow zeroS_isRow rowFree_new setRow_new view_arr0 view_arr2 view_arr3 view_arr4 view_arr5 view_arr6 view_arr9 view_arr10 flight_arr0 flight_arr1 flight_arr2 flight_arr3 flight_arr6 flight_arr7 flight_arr8 flight_arr9 flight_arr10 flight_arr11 flight_arr12 flight_arr13 flight_arr17 flight_arr18 flight_arr19 flight_arr20 flight_arr21 flight_arr22 flight_arr23 flight_arr24 flight_arr25 msg_arr0 msg_arr1 msg_arr4 msg_arr5 msg_arr6 msg_arr7 msg_arr8 msg_arr9 msg_arr10 msg_arr11 msg_arr15 msg_arr16 msg_arr17 msg_arr18 msg_arr19 msg_arr20 msg_arr21 msg_arr22 msg_arr23
attribute [local go_sem ↓] run_eql_id run_neq_id run_neq_StepE run_eql_StepE
/-- What the law has found among the first holders. -/
def foundB (P : List StepE) (hs : List StepE) : Bool := decide (P.length < 2) || hs.any fun h => decide (P[P.length - 2]? = some h)
theorem foundB_all {V : List ViewE} {id : IDE} : foundB (pathV V id).1 (holdersV V id) = true := by
  unfold foundB
  by_cases h : (pathV V id).1.length < 2
  · rw [decide_eq_true h]; rfl
  · obtain ⟨s, h1, h2⟩ := found_law (V := V) (id := id) (n := (pathV V id).1.length - 2) (by omega)
    rw [Bool.or_eq_true]
    exact .inr (List.any_eq_true.2 ⟨s, h1, decide_eq_true h2⟩)
theorem holders_len {V : List ViewE} {id : IDE} (hf : FewV V) : (holdersV V id).length ≤ 1000 := by
  unfold holdersV
  split
  · simp
  · rw [List.length_map]
    exact Nat.le_trans (List.length_filter_le _ _) (graph_len hf)
set_option maxRecDepth 200000 in
set_option maxHeartbeats 8000000 in
theorem lawNear_any (A : Option Addr) (c : Nat) (V : List ViewE) (id : IDE) (w : World) (hT : Tab10 w) (H : ViewsIn w A V) : Calls Tryz.prog 6 #[.slice A V.length c, id.v] w fun r w' => r = .returned (.bool true) ∧ Below w.heap.size w w' := by
  have HT := hT.later
  have HV := H.at_.later
  have HA : ∀ u [Later w u], Calls Tryz.prog 9 #[] u fun r w' => r = .returned (.bool true) ∧ Below u.heap.size u w' := fun u i => awake_any u (HT u)
  have HFw : ∀ u [Later w u], Calls Tryz.prog 10 #[.slice A V.length c] u (FewPost V u) := fun u i => few55_any A c V u (HV u) H.len
  unfold FewPost at HFw
  go_enter Tryz.func6, Tryz.ntmps6
  go_upto_region 1 with fail
  refine wp_name ?_
  intro w0 hw0
  obtain ⟨B0, l0⟩ := box1 hw0
  have l00 : Later w0 w0 := Later.refl
  have lw0 : Later w w0 := l0 w
  clear hw0
  go_upto_region 5 with (first
    | (go_at_call 9; refine (HA _).mono ?_; rintro r w1 ⟨rfl, hb1⟩; have l1 := later hb1)
    | (go_at_call 10; refine (HFw _).mono ?_; rintro r w2 ⟨b, rfl, hfw, hb2⟩; have l2 := later hb2))
  · go_ret
    exact ⟨rfl, below_of⟩
  cases b
  · exfalso; first | exact absurd ‹(!false) = false› (by decide) | exact ‹¬ (!false) = true› rfl
  have hf : FewV V := hfw rfl
  clear hfw HFw HA
  simp only [Bool.not_true]
  have lwb : Later w w2 := ⟨below_of⟩
  have l0b : Later w0 w2 := ⟨below_of⟩
  have l22 : Later w2 w2 := Later.refl
  have HG : ∀ u [Later w u], Calls Tryz.prog 15 #[.slice A V.length c] u (GraphPost V u) := fun u i => graph_any A c V u (HV u) hf
  have HP : ∀ (x : IDE) (u : World) [Later w u], Calls Tryz.prog 11 #[.slice A V.length c, x.v] u (PathPost V x u) := fun x u i => path_any A c V x u (HV u) hf
  have HH : ∀ u [Later w u], Calls Tryz.prog 14 #[.slice A V.length c, id.v] u (HoldPost V id u) := fun u i => holders_any A c V id u (HV u) hf
  unfold GraphPost at HG
  unfold PathPost at HP
  unfold HoldPost at HH
  obtain ⟨ge, hge⟩ : ∃ n, (graphV V).2 = n := ⟨_, rfl⟩
  rw [hge] at HG
  have Hge := hide hge
  clear hge
  go_upto_region 6 with (go_at_call 15; refine (HG _).mono ?_; rintro r w3 ⟨o, GA, gc, ho, rfl, hog, hb3⟩; have l3 := later hb3)
  refine wp_name ?_
  intro w4 hw4
  have b5 : w4.heap[w3.heap.size]? = some (.cells #[.slice GA o.length gc] 36 (0, 0)) := (by rw [← hw4]; simp only [heap_alloc_if, World.size_alloc]; repeat (first | rw [if_pos trivial] | rw [if_neg (by omega)] | rw [if_pos (by omega)]); try rfl)
  have hb34 : Below w3.heap.size w3 w4 := by rw [← hw4]; exact (by repeat (first | with_reducible exact Below.refl _ _ | (with_reducible refine Below.drew ?_) | (with_reducible refine below_drewN ?_ _) | (with_reducible refine Below.alloc ?_ ?_ _; rotate_left; (first | omega | (simp <;> omega))) | (with_reducible refine Below.setCell ?_ ?_ _; rotate_left; (first | omega | (simp <;> omega)))))
  clear hw4
  have lb3 : Later w2 w3 := ⟨below_of⟩
  have lb4 : Later w2 w4 := ⟨lb3.below.trans (hb34.mono lb3.below.size)⟩
  have l04 : Later w0 w4 := l0b.trans lb4
  have lw4 : Later w w4 := lwb.trans lb4
  have B5 := boxed b5
  have l44 : Later w4 w4 := Later.refl
  have hN := (hog.nodes.below hb34).later
  have hoc : (conL o).length = o.length := by unfold conL; rw [List.length_map]
  have hol : o.length ≤ 1000 := by rw [← hoc, ho.out]; exact graph_len hf
  have hofl : ∀ n ∈ o, n.fields.length ≤ 1000 := fun n hn => by
    have : n.con.fields.length ≤ 30 := graph_fields (V := V) (by rw [← ho.out]; exact List.mem_map.2 ⟨n, hn, rfl⟩)
    show n.con.fields.length ≤ 1000
    omega
  have HF : ∀ u [Later w4 u], Calls Tryz.prog 18 #[.agg #[.slice GA o.length gc], id.v] u (FindPost (conL o) id u) := fun u i => find_any GA gc o id u (hN u) (by omega) (fun n hn => by have := hofl n hn; omega)
  unfold FindPost at HF
  obtain ⟨fb, hfb⟩ : ∃ b, (firstN (conL o) id).isSome = b := ⟨_, rfl⟩
  rw [hfb] at HF
  rw [ho.out] at hfb
  have Hfb := hide hfb
  clear hfb hoc b5 hog
  go_upto_region 7 with (go_at_call 18; refine (HF _).mono ?_; rintro r w5 ⟨m, rfl, -, -, -, -, hb5⟩; have l5 := later hb5)
  refine wp_name ?_
  intro w6 hw6
  have l46 : Later w4 w6 := ⟨by rw [← hw6]; exact below_of⟩
  clear hw6 l5 hb5 hN HF HG B5
  have lw6 : Later w w6 := lw4.trans l46
  have l06 : Later w0 w6 := l04.trans l46
  have l66 : Later w6 w6 := Later.refl
  by_cases hg0 : ge = 0
  rotate_left
  · have hgi : ((ge : Int) != 0) = true := by rw [bne_iff_ne]; omega
    go_wp2_with fail
    go_ret
    exact ⟨rfl, below_of⟩
  have hgi : ((ge : Int) != 0) = false := by rw [hg0]; rfl
  cases fb
  · go_wp2_with fail
    go_ret
    exact ⟨rfl, below_of⟩
  have hg : (graphV V).2 = 0 := by rw [Hge.out, hg0]
  obtain ⟨pe, hpe⟩ : ∃ n, (pathV V id).2 = n := ⟨_, rfl⟩
  have HPi := fun (u : World) (i : Later w u) => HP id u
  simp only [hpe] at HPi
  have Hpe := hide hpe
  clear hpe
  go_upto_region 10 with (go_at_call 11; refine (HPi _ inferInstance).mono ?_; rintro r w7 ⟨q, QA, QC, hq, rfl, hoq, hb7⟩; have l7 := later hb7)
  have lw7 : Later w w7 := ⟨below_of⟩
  have l77 : Later w7 w7 := Later.refl
  obtain ⟨-, -, hqs⟩ := hoq.at_ StepE.enc
  have HQ := hqs.later
  have hql : q.length ≤ 1000 := by rw [hq.out]; exact path_short hf
  clear hqs hoq HPi
  go_upto_region 12 with (go_at_call 14; refine (HH _).mono ?_; rintro r w8 ⟨hs, HA, HC, hhs, rfl, hoh, hb8⟩; have l8 := later hb8)
  have lw8 : Later w w8 := ⟨below_of⟩
  have l78 : Later w7 w8 := ⟨below_of⟩
  have l88 : Later w8 w8 := Later.refl
  obtain ⟨-, -, hhss⟩ := hoh.at_ StepE.enc
  have HHs := hhss.later
  have hhl : hs.length ≤ 1000 := by rw [hhs.out]; exact holders_len hf
  clear hhss hoh HH
  go_wp2_with fail
  go_loopw [12, 53] (fun fv iv wr => ∃ (k : Nat) (fb : Bool), k ≤ hs.length ∧ iv = .int .i64 k ∧ fv = .bool fb ∧ Hid (fb = foundB q (hs.take k)) ∧ Below w8.heap.size w8 wr) (fun _ iv _ => hs.length - (intOf iv).toNat)
  case atStart => exact ⟨0, _, by omega, rfl, rfl, hide (by unfold foundB; simp; omega), Below.refl _ _⟩
  case round =>
    obtain ⟨k, fb, hk, rfl, rfl, hfb, hbr⟩ := hrel
    have lr := later hbr
    have l8r : Later w8 wr := ⟨hbr⟩
    have lwr : Later w wr := lw8.trans l8r
    have lrr : Later wr wr := Later.refl
    by_cases hlt : k < hs.length
    · obtain ⟨gs, os, h, rfl, hh, C1⟩ := StepE.get (HHs wr) hlt
      have hki : (k : Int) < (hs.length : Int) := by omega
      have hmem : h ∈ holdersV V id := by rw [← hhs.out]; exact List.mem_of_getElem? hh
      have htk := take_snoc_get hh
      have hfb2 : foundB q (hs.take (k + 1)) = (fb || decide (q[q.length - 2]? = some h)) := by
        rw [hfb.out, htk]
        unfold foundB
        rw [List.any_append, Bool.or_assoc]
        simp
      have Hfb2 := hide hfb2
      obtain ⟨e2, he2⟩ : ∃ n, (pathV V h.id).2 = n := ⟨_, rfl⟩
      have hnear := fun (h0 : e2 = 0) => near_law hg Hfb.out hmem (show (pathV V ⟨h.iDMachine, h.iDSerial⟩).2 = 0 from he2.trans h0)
      have HPs : ∀ u [Later wr u], Calls Tryz.prog 11 #[.slice A V.length c, .agg #[.int .i64 h.iDMachine, .int .i64 h.iDSerial]] u fun r w' => ∃ (q2 : List StepE) (A2 : Option Addr) (c2 : Nat), Hid (q2 = (pathV V h.id).1) ∧ r = .returned (.tuple #[.slice A2 q2.length c2, .int .i64 (e2 : Nat)]) ∧ Below u.heap.size u w' := fun u i => by
        haveI := lwr.trans i
        refine (HP h.id u).mono ?_
        rintro r w' ⟨q2, A2, c2, h1, h2, h3, h4⟩
        rw [he2] at h2
        exact ⟨q2, A2, c2, h1, h2, h4⟩
      have Hnear := hide hnear
      clear he2 hnear hmem htk hfb2 hh
      go_upto_region 15 with fail
      refine wp_name ?_
      intro w9 hw9
      have b14 : w9.heap[wr.heap.size]? = some (.cells #[.int .i64 h.machine, .int .i64 h.iDMachine, .int .i64 h.iDSerial, .int .i64 h.field] 44 (0, 0)) := (by rw [← hw9]; simp only [heap_alloc_if, World.size_alloc]; repeat (first | rw [if_pos trivial] | rw [if_neg (by omega)] | rw [if_pos (by omega)]); try rfl)
      have hbr9 : Below wr.heap.size wr w9 := by rw [← hw9]; exact (by repeat (first | with_reducible exact Below.refl _ _ | (with_reducible refine Below.drew ?_) | (with_reducible refine below_drewN ?_ _) | (with_reducible refine Below.alloc ?_ ?_ _; rotate_left; (first | omega | (simp <;> omega))) | (with_reducible refine Below.setCell ?_ ?_ _; rotate_left; (first | omega | (simp <;> omega)))))
      clear hw9
      have lr9 : Later wr w9 := ⟨hbr9⟩
      have B14 := boxed b14
      have l99 : Later w9 w9 := Later.refl
      go_upto_region 16 with (go_at_call 11; refine (HPs _).mono ?_; rintro r w10 ⟨q2, A2, c2, hq2, rfl, hb10⟩; have l10 := later hb10)
      have l9a : Later w9 w10 := ⟨below_of⟩
      have lra : Later wr w10 := lr9.trans l9a
      have l8a : Later w8 w10 := l8r.trans lra
      have l7a : Later w7 w10 := l78.trans l8a
      have lwa : Later w w10 := lwr.trans lra
      have laa : Later w10 w10 := Later.refl
      have B14a : Boxed w10 wr.heap.size #[.int .i64 h.machine, .int .i64 h.iDMachine, .int .i64 h.iDSerial, .int .i64 h.field] 44 := fun u i => by haveI := l9a.trans i; exact B14 u
      have hQa := HQ w10
      have hq2l : q2.length ≤ 1000 := by rw [hq2.out]; exact path_short hf
      clear B14 b14 HPs
      have hgo : (e2 = 0 ∧ pe = 0 ∧ q.length ≤ q2.length + 1) ∨ e2 ≠ 0 := by
        by_cases h0 : e2 = 0
        · obtain ⟨h1, h2⟩ := Hnear.out h0
          refine .inl ⟨h0, by rw [← Hpe.out, h1], ?_⟩
          rw [hq.out, hq2.out]; exact h2
        · exact .inr h0
      have hwr : IntKind.i64.wrap ((q2.length : Int) + 1) = (q2.length : Int) + 1 := by rw [IntKind.wrap_i64]; omega
      have hend : Below w8.heap.size w8 w10 := l8a.below
      rcases hgo with ⟨h1, h2, h3⟩ | h1
      · have c1 : ((e2 : Int) == 0) = true := by rw [h1]; rfl
        have c2 : ((pe : Int) != 0) = false := by rw [h2]; rfl
        have c3 : decide (((q2.length : Int) + 1) < (q.length : Int)) = false := decide_eq_false (by omega)
        clear h1 h2
        go_upto_region 18 with fail
        cases fb
        · obtain ⟨n, hn⟩ : ∃ n, q.length = n + 2 := by
            have h1 := hfb.out
            unfold foundB at h1
            have h2 : decide (q.length < 2) = false := by
              cases hd : decide (q.length < 2)
              · rfl
              · rw [hd] at h1; cases h1
            have := of_decide_eq_false h2
            exact ⟨q.length - 2, by omega⟩
          obtain ⟨gq, oq, x, rfl, hx, C2⟩ := StepE.get hQa (show n < q.length by omega)
          have d1 : (2 : Int) ≤ (q.length : Int) := by omega
          have d2 : ((q.length : Int) - 2) = (n : Int) := by omega
          have d3 : IntKind.i64.wrap (n : Int) = (n : Int) := by rw [IntKind.wrap_i64]; omega
          have d4 : (n : Int) < (q.length : Int) := by omega
          have d5 : (0 : Int) ≤ (n : Int) := by omega
          have d6 : n < q.length := by omega
          have hv : foundB q (hs.take (k + 1)) = StepE.beq x h := by
            rw [Hfb2.out, show q.length - 2 = n by omega, hx, Bool.false_or]
            cases hb : StepE.beq x h
            · exact decide_eq_false fun e => by injection e with e; rw [StepE.beq_iff.2 e] at hb; cases hb
            · exact decide_eq_true (by rw [StepE.beq_iff.1 hb])
          have Hv := hide hv
          clear hv hx hn
          cases hb : StepE.beq x h
          · rw [hb] at Hv
            (refine wp_region_after (by kernel_rfl) (by kernel_rfl) ?_
             repeat (any_goals (first | go_big_quiet_skip | (go_big_quiet_want; go_big_quiet_op; first | go_big_quiet_on | go_big_quiet_call (fail)) | quiet_step (fail) | (refine wpQuiet_step (fun K hK => ?_); go_simp; split <;> (refine hK _ ?_; clear hK K))))
             all_goals (refine wpQuiet_nil ?_; intro _ hw'; obtain ⟨u', hw''⟩ := hw'; subst hw''; obtain ⟨wd, hbd⟩ := u'; simp only [After.val_mk]))
            go_wp2_with fail
            go_roundw
            case rel => exact ⟨k + 1, false, by omega, by go_num, rfl, hide Hv.out.symm, hend.trans (hbd.mono hend.size)⟩
            case measure => simp [intOf]; omega
          · rw [hb] at Hv
            (refine wp_region_after (by kernel_rfl) (by kernel_rfl) ?_
             repeat (any_goals (first | go_big_quiet_skip | (go_big_quiet_want; go_big_quiet_op; first | go_big_quiet_on | go_big_quiet_call (fail)) | quiet_step (fail) | (refine wpQuiet_step (fun K hK => ?_); go_simp; split <;> (refine hK _ ?_; clear hK K))))
             all_goals (refine wpQuiet_nil ?_; intro _ hw'; obtain ⟨u', hw''⟩ := hw'; subst hw''; obtain ⟨wd, hbd⟩ := u'; simp only [After.val_mk]))
            go_wp2_with fail
            go_roundw
            case rel => exact ⟨k + 1, true, by omega, by go_num, rfl, hide Hv.out.symm, hend.trans (hbd.mono hend.size)⟩
            case measure => simp [intOf]; omega
        · have Hv := hide (show foundB q (hs.take (k + 1)) = true by rw [Hfb2.out]; rfl)
          (refine wp_region_after (by kernel_rfl) (by kernel_rfl) ?_
           repeat (any_goals (first | go_big_quiet_skip | (go_big_quiet_want; go_big_quiet_op; first | go_big_quiet_on | go_big_quiet_call (fail)) | quiet_step (fail) | (refine wpQuiet_step (fun K hK => ?_); go_simp; split <;> (refine hK _ ?_; clear hK K))))
           all_goals (refine wpQuiet_nil ?_; intro _ hw'; obtain ⟨u', hw''⟩ := hw'; subst hw''; obtain ⟨wd, hbd⟩ := u'; simp only [After.val_mk]))
          go_wp2_with fail
          go_roundw
          case rel => exact ⟨k + 1, true, by omega, by go_num, rfl, hide Hv.out.symm, hend.trans (hbd.mono hend.size)⟩
          case measure => simp [intOf]; omega
      · have c1 : ((e2 : Int) == 0) = false := by rw [beq_eq_false_iff_ne]; omega
        clear h1
        go_upto_region 18 with fail
        cases fb
        · obtain ⟨n, hn⟩ : ∃ n, q.length = n + 2 := by
            have h1 := hfb.out
            unfold foundB at h1
            have h2 : decide (q.length < 2) = false := by
              cases hd : decide (q.length < 2)
              · rfl
              · rw [hd] at h1; cases h1
            have := of_decide_eq_false h2
            exact ⟨q.length - 2, by omega⟩
          obtain ⟨gq, oq, x, rfl, hx, C2⟩ := StepE.get hQa (show n < q.length by omega)
          have d1 : (2 : Int) ≤ (q.length : Int) := by omega
          have d2 : ((q.length : Int) - 2) = (n : Int) := by omega
          have d3 : IntKind.i64.wrap (n : Int) = (n : Int) := by rw [IntKind.wrap_i64]; omega
          have d4 : (n : Int) < (q.length : Int) := by omega
          have d5 : (0 : Int) ≤ (n : Int) := by omega
          have d6 : n < q.length := by omega
          have hv : foundB q (hs.take (k + 1)) = StepE.beq x h := by
            rw [Hfb2.out, show q.length - 2 = n by omega, hx, Bool.false_or]
            cases hb : StepE.beq x h
            · exact decide_eq_false fun e => by injection e with e; rw [StepE.beq_iff.2 e] at hb; cases hb
            · exact decide_eq_true (by rw [StepE.beq_iff.1 hb])
          have Hv := hide hv
          clear hv hx hn
          cases hb : StepE.beq x h
          · rw [hb] at Hv
            (refine wp_region_after (by kernel_rfl) (by kernel_rfl) ?_
             repeat (any_goals (first | go_big_quiet_skip | (go_big_quiet_want; go_big_quiet_op; first | go_big_quiet_on | go_big_quiet_call (fail)) | quiet_step (fail) | (refine wpQuiet_step (fun K hK => ?_); go_simp; split <;> (refine hK _ ?_; clear hK K))))
             all_goals (refine wpQuiet_nil ?_; intro _ hw'; obtain ⟨u', hw''⟩ := hw'; subst hw''; obtain ⟨wd, hbd⟩ := u'; simp only [After.val_mk]))
            go_wp2_with fail
            go_roundw
            case rel => exact ⟨k + 1, false, by omega, by go_num, rfl, hide Hv.out.symm, hend.trans (hbd.mono hend.size)⟩
            case measure => simp [intOf]; omega
          · rw [hb] at Hv
            (refine wp_region_after (by kernel_rfl) (by kernel_rfl) ?_
             repeat (any_goals (first | go_big_quiet_skip | (go_big_quiet_want; go_big_quiet_op; first | go_big_quiet_on | go_big_quiet_call (fail)) | quiet_step (fail) | (refine wpQuiet_step (fun K hK => ?_); go_simp; split <;> (refine hK _ ?_; clear hK K))))
             all_goals (refine wpQuiet_nil ?_; intro _ hw'; obtain ⟨u', hw''⟩ := hw'; subst hw''; obtain ⟨wd, hbd⟩ := u'; simp only [After.val_mk]))
            go_wp2_with fail
            go_roundw
            case rel => exact ⟨k + 1, true, by omega, by go_num, rfl, hide Hv.out.symm, hend.trans (hbd.mono hend.size)⟩
            case measure => simp [intOf]; omega
        · have Hv := hide (show foundB q (hs.take (k + 1)) = true by rw [Hfb2.out]; rfl)
          (refine wp_region_after (by kernel_rfl) (by kernel_rfl) ?_
           repeat (any_goals (first | go_big_quiet_skip | (go_big_quiet_want; go_big_quiet_op; first | go_big_quiet_on | go_big_quiet_call (fail)) | quiet_step (fail) | (refine wpQuiet_step (fun K hK => ?_); go_simp; split <;> (refine hK _ ?_; clear hK K))))
           all_goals (refine wpQuiet_nil ?_; intro _ hw'; obtain ⟨u', hw''⟩ := hw'; subst hw''; obtain ⟨wd, hbd⟩ := u'; simp only [After.val_mk]))
          go_wp2_with fail
          go_roundw
          case rel => exact ⟨k + 1, true, by omega, by go_num, rfl, hide Hv.out.symm, hend.trans (hbd.mono hend.size)⟩
          case measure => simp [intOf]; omega
    · have hk' : k = hs.length := by omega
      subst hk'
      have hfin : fb = true := by rw [hfb.out, List.take_length, hq.out, hhs.out]; exact foundB_all
      subst hfin
      go_wp2_with fail
      go_ret
      exact ⟨rfl, below_of⟩
end Go.Proofs.YtpkfenlfgdbkcaaGreatDoor
