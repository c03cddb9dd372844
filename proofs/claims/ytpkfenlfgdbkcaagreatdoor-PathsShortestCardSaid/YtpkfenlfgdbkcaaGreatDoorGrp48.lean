/-
  Small texts of this seat, put into one. Conditions stand in each theorem.
-/
import Derived.Test.YtpkfenlfgdbkcaaGreatDoorP59R12
import Derived.Test.YtpkfenlfgdbkcaaGreatDoorP59Path
import Derived.Deep.RegionHeld3
import Derived.Test.YtpkfenlfgdbkcaaGreatDoorGrp42
import Derived.Test.YtpkfenlfgdbkcaaGreatDoorP59Open
import Derived.Test.YtpkfenlfgdbkcaaGreatDoorP59Few
set_option linter.unusedSimpArgs false
set_option linter.unusedVariables false
namespace Go.Proofs.YtpkfenlfgdbkcaaGreatDoor
open Go.RowKit
attribute [local go_sem] Oper.semAt_some Instr.makeFunc
attribute [local simp] heap_drew
attribute [local go_sem ↓] load_view_pre load_flight_pre load_msg_pre store_view_pre store_flight_pre store_msg_pre load_scion_pre store_scion_pre
attribute [local go_sem] load_view load_flight load_msg store_view store_flight store_msg load_scion store_scion view_isRow zero_isRow scion_isRow zeroS_isRow rowFree_new setRow_new view_arr0 view_arr2 view_arr3 view_arr4 view_arr5 view_arr6 view_arr9 view_arr10 flight_arr0 flight_arr1 flight_arr2 flight_arr3 flight_arr6 flight_arr7 flight_arr8 flight_arr9 flight_arr10 flight_arr11 flight_arr12 flight_arr13 flight_arr17 flight_arr18 flight_arr19 flight_arr20 flight_arr21 flight_arr22 flight_arr23 flight_arr24 flight_arr25 msg_arr0 msg_arr1 msg_arr4 msg_arr5 msg_arr6 msg_arr7 msg_arr8 msg_arr9 msg_arr10 msg_arr11 msg_arr15 msg_arr16 msg_arr17 msg_arr18 msg_arr19 msg_arr20 msg_arr21 msg_arr22 msg_arr23
attribute [local go_sem ↓] run_eql_id run_neq_id
/-! ### Plain -/
theorem rstep_eq {V : List ViewE} (x y : IDE) : rstepV V (graphV V).1 x y = stepV V (graphV V).1 x y := by
  unfold rstepV stepV
  cases h : firstN (graphV V).1 x with
  | none => rfl
  | some n =>
    show (⟨_, _, _, rFieldN n y⟩ : StepE) = ⟨_, _, _, fieldN n y⟩
    rw [rfield_eq (firstN_some h).1]
/-- The reference's step at k of a path. -/
def rstepAt (V : List ViewE) (G : List NodeC) (l : List IDE) (k : Nat) : StepE :=
  if k + 1 < l.length then rstepV V G (l.getD k zeroI) (l.getD (k + 1) zeroI) else ⟨(homeV V (l.getD k zeroI)).1, (l.getD k zeroI).machine, (l.getD k zeroI).serial, -1⟩
def rstepsV (V : List ViewE) (G : List NodeC) (l : List IDE) (n : Nat) : List StepE := (List.range n).map (rstepAt V G l)
theorem rsteps_eq {V : List ViewE} (l : List IDE) : rstepsV V (graphV V).1 l l.length = stepsV V (graphV V).1 l := by
  unfold rstepsV stepsV stepsRaw
  apply List.ext_getElem?
  intro k
  rw [List.getElem?_set, List.getElem?_map, List.getElem?_map]
  rcases Nat.lt_or_ge k l.length with hk | hk
  · rw [List.getElem?_range hk]
    show some (rstepAt V (graphV V).1 l k) = _
    unfold rstepAt
    by_cases h : l.length - 1 = k
    · rw [if_neg (by omega), if_pos h, if_pos (by rw [List.length_map, List.length_range]; omega), h]
      rfl
    · rw [if_pos (by omega), if_neg h, rstep_eq]
      rfl
  · rw [List.getElem?_eq_none (by rw [List.length_range]; omega)]
    by_cases h : l.length - 1 = k
    · rw [if_pos h, if_neg (by rw [List.length_map, List.length_range]; omega)]; rfl
    · rw [if_neg h]; rfl
theorem leastR_law {V : List ViewE} {R : List IDE} {id : IDE} (h : (firstN (graphV V).1 id).isSome = true) : leastR (graphV V).1 R id = searchL (graphV V).1 R id := by
  obtain ⟨n, hn⟩ := Option.isSome_iff_exists.1 h
  obtain ⟨hm, hi⟩ := firstN_some hn
  unfold leastR
  cases hj : (graphV V).1.findIdx? (fun n => decide (n.id = id)) with
  | none =>
    rw [List.findIdx?_eq_none_iff] at hj
    exact absurd hi (of_decide_eq_false (hj n hm))
  | some j =>
    obtain ⟨hlt, h1, -⟩ := List.findIdx?_eq_some_iff_getElem.1 hj
    have h2 : idAt (graphV V).1 j = id := by
      unfold idAt
      rw [List.getD_eq_getElem?_getD, List.getElem?_eq_getElem hlt]
      exact of_decide_eq_true h1
    show (leastP (graphV V).1 R ((graphV V).1.length - 1)).getD j [] = _
    rw [least_end hlt, h2]
set_option maxRecDepth 200000 in
set_option maxHeartbeats 8000000 in
theorem refPath_any (A : Option Addr) (c : Nat) (V : List ViewE) (id : IDE) (w : World) (H : ViewsAt w A V) (hf : FewV V) :
    Calls Tryz.prog 12 #[.slice A V.length c, id.v] w (PathPost V id w) := by
  have HV := H.later
  have HG : ∀ u [Later w u], Calls Tryz.prog 28 #[.slice A V.length c] u (RGraphPost V u) := fun u i => refGraph_any A c V u (HV u) hf
  have HRt : ∀ u [Later w u], Calls Tryz.prog 31 #[.slice A V.length c] u (IdsPost (rootsV V) u) := fun u i => refRoots_any A c V u (HV u) hf
  unfold RGraphPost at HG
  obtain ⟨ge, hge⟩ : ∃ n, (graphV V).2 = n := ⟨_, rfl⟩
  rw [hge] at HG
  have Hge := hide hge
  clear hge
  go_enter Tryz.func12, Tryz.ntmps12
  go_upto_region 1 with fail
  refine wp_name ?_
  intro w0 hw0
  obtain ⟨B0, l0⟩ := box1 hw0
  have lw0 : Later w w0 := l0 w
  have l00 : Later w0 w0 := Later.refl
  clear hw0
  by_cases hg0 : ge = 0
  · subst hg0
    go_upto_region 4 with (go_at_call 28; refine (HG _).mono ?_; rintro r w1 ⟨o, GA, gc, ho, rfl, hog, hb1⟩; have l1 := later hb1)
    refine wp_name ?_
    intro w2 hw2
    have b6 : w2.heap[w1.heap.size]? = some (.cells #[.slice GA o.length gc] 36 (0, 0)) := (by rw [← hw2]; simp only [heap_alloc_if, World.size_alloc]; repeat (first | rw [if_pos trivial] | rw [if_neg (by omega)] | rw [if_pos (by omega)]); try rfl)
    have hb12 : Below w1.heap.size w1 w2 := by rw [← hw2]; exact (by repeat (first | with_reducible exact Below.refl _ _ | (with_reducible refine Below.drew ?_) | (with_reducible refine below_drewN ?_ _) | (with_reducible refine Below.alloc ?_ ?_ _; rotate_left; (first | omega | (simp <;> omega))) | (with_reducible refine Below.setCell ?_ ?_ _; rotate_left; (first | omega | (simp <;> omega)))))
    clear hw2
    have lw1 : Later w w1 := ⟨below_of⟩
    have l02 : Later w0 w2 := ⟨(show Below w0.heap.size w0 w1 from below_of).trans (hb12.mono (show Below w0.heap.size w0 w1 from below_of).size)⟩
    have lw2 : Later w w2 := lw0.trans l02
    have B6 := boxed b6
    obtain ⟨g6, h6⟩ : ∃ z, z = w1.heap.size := ⟨_, rfl⟩
    rw [← h6] at B6 ⊢
    clear h6
    have l22 : Later w2 w2 := Later.refl
    have hN := hog.below hb12
    have hN2 := hN.later
    have hoc : (conL o).length = o.length := by unfold conL; rw [List.length_map]
    have hol : o.length ≤ 1000 := by rw [← hoc, ho.out]; exact graph_len hf
    have hofl : ∀ n ∈ o, n.fields.length ≤ 1000 := fun n hn => by
      have : n.con.fields.length ≤ 30 := graph_fields (V := V) (by rw [← ho.out]; exact List.mem_map.2 ⟨n, hn, rfl⟩)
      show n.con.fields.length ≤ 1000
      omega
    have HF : ∀ u [Later w2 u], Calls Tryz.prog 29 #[.agg #[.slice GA o.length gc], id.v] u (Find16Post o id u) := fun u i => find16_any GA gc o id u (hN2 u) (by omega)
    unfold Find16Post at HF
    obtain ⟨fb, hfb⟩ : ∃ n, (firstE o id).isSome = n := ⟨_, rfl⟩
    have hfc : (firstN (conL o) id).isSome = fb := by rw [← hfb, firstE_con, Option.isSome_map]; rfl
    rw [hfb] at HF
    have Hfb := hide (show (firstN (graphV V).1 id).isSome = fb by rw [← ho.out, hfc])
    clear hfb hoc hb12 b6 hfc
    cases fb
    · have hp := hide (show pathV V id = ([], 6) by unfold pathV; rw [Hge.out, Hfb.out]; simp)
      go_wp2_with (go_at_call 29; refine (HF _).mono ?_; rintro r w3 ⟨rfl, hb3⟩; have l3 := later hb3)
      exact bodyPost_ret (results_tmp2 rfl _ _ _) rfl ⟨[], none, 0, hide (by rw [hp.out]), by rw [hp.out]; rfl, Own.nil, below_of⟩
    · go_upto_region 7 with (go_at_call 29; refine (HF _).mono ?_; rintro r w3 ⟨rfl, hb3⟩; have l3 := later hb3)
      refine wp_name ?_
      intro w4 hw4
      have l24 : Later w2 w4 := ⟨by rw [← hw4]; exact below_of⟩
      clear hw4 l3 hb3
      have l04 : Later w0 w4 := l02.trans l24
      have lw4 : Later w w4 := lw2.trans l24
      have l44 : Later w4 w4 := Later.refl
      have hN4 := (hN2 w4).later
      unfold IdsPost at HRt
      go_region_held3 (fun w' => ∀ b [Later b w4], Later b w') ((intro b _; infer_instance))
        ((first
          | (go_at_call 30; refine (least_any GA gc o RA rc R id _ (hN4 _) (by omega) hofl (hsR _) (by have := hRl; omega)).mono ?_; rintro r w6 ⟨l, LA, LC, hl, rfl, hol2, hb6⟩; have l6 := later hb6)
          | (go_at_call 31; refine (HRt _).mono ?_; rintro r w5 ⟨R, RA, rc, hR, rfl, hoR, hb5⟩; have l5 := later hb5; have hsR : ∀ u [Later w5 u], SlAt IDE.cells 2 u RA R := fun u i => ((hoR.at_ IDE.enc).2.2).below i.below; have hRl : R.length ≤ 5000 := by (rw [hR.out]; exact roots_len hf))))
      have hl2 := hide (show l = searchL (graphV V).1 (rootsV V) id by rw [hl.out, ho.out, hR.out, leastR_law Hfb.out])
      have hll : l.length ≤ 1000 := by
        refine Nat.le_trans ?_ (graph_len hf)
        rw [hl2.out]
        unfold searchL
        cases hp : pathsT (graphV V).1 (rootsV V) id with
        | none => exact Nat.zero_le _
        | some q => exact paths_len hp
      have l46 : Later w4 w6 := ⟨below_of⟩
      have lw6 : Later w w6 := lw4.trans l46
      have l66 : Later w6 w6 := Later.refl
      have hsl := ((hol2.at_ IDE.enc).2.2).later
      have l26 : Later w2 w6 := l24.trans l46
      have B6' : Boxed w6 g6 #[.slice GA o.length gc] 36 := fun u i => by haveI := l26.trans i; exact B6 u
      have hNo := hide (hN4 w6)
      have hH6 := hide (HV w6)
      clear hol2 hN4 hN2 hN HF HG HRt hog
      by_cases hlz : l.length = 0
      · have hle : l = [] := List.eq_nil_iff_length_eq_zero.2 hlz
        have hp := hide (show pathV V id = ([], 9) by unfold pathV; rw [Hge.out, Hfb.out, ← hl2.out, hle]; simp)
        clear hle
        go_wp2_with fail
        exact bodyPost_ret (results_tmp2 rfl _ _ _) rfl ⟨[], none, 0, hide (by rw [hp.out]), by rw [hp.out]; rfl, Own.nil, lw6.below⟩
      · have hp := hide (show pathV V id = (rstepsV V (conL o) l l.length, 0) by
          unfold pathV
          rw [Hge.out, Hfb.out, ← hl2.out, if_neg (by simp), if_neg (by simp), if_neg (fun e => hlz (by rw [e]; rfl)), ho.out, rsteps_eq])
        have hlb : ((l.length : Int) == 0) = false := by rw [beq_eq_false_iff_ne]; omega
        go_upto_region 11 with fail
        refine wp_name ?_
        intro w7 hw7
        have b7 : w7.heap[w6.heap.size]? = some (.cells #[] 44 (0, 0)) := (by rw [← hw7]; simp only [heap_alloc_if, World.size_alloc]; repeat (first | rw [if_pos trivial] | rw [if_neg (by omega)] | rw [if_pos (by omega)]); try rfl)
        have hb7 : Below w6.heap.size w6 w7 := by rw [← hw7]; exact (by repeat (first | with_reducible exact Below.refl _ _ | (with_reducible refine Below.drew ?_) | (with_reducible refine below_drewN ?_ _) | (with_reducible refine Below.alloc ?_ ?_ _; rotate_left; (first | omega | (simp <;> omega))) | (with_reducible refine Below.setCell ?_ ?_ _; rotate_left; (first | omega | (simp <;> omega)))))
        clear hw7
        have l77 : Later w7 w7 := Later.refl
        have ho7 : Own StepE.cells 4 44 w6.heap.size w7 (.slice (some ⟨w6.heap.size, 0, none⟩) 0 0) ([] : List StepE) := Own.empty_blk (Nat.le_refl _) b7
        go_wp2_with fail
        go_loopw [11, 12] (fun ov iv wr => ∃ (k : Nat) (q : List StepE) (QA : Option Addr) (QC : Nat), k ≤ l.length ∧ iv = .int .i64 k ∧ ov = .slice QA q.length QC ∧ Hid (q = rstepsV V (conL o) l k) ∧ Hid (q.length = k) ∧ Own StepE.cells 4 44 w6.heap.size wr (.slice QA q.length QC) q ∧ Below w6.heap.size w6 wr) (fun _ iv _ => l.length - (intOf iv).toNat)
        case atStart => exact ⟨0, [], some ⟨w6.heap.size, 0, none⟩, 0, by omega, rfl, rfl, hide rfl, hide rfl, ho7, hb7⟩
        clear ho7 hb7 b7
        case round =>
          obtain ⟨k, q, QA, QC, hk, rfl, rfl, hq, hqn, hown, hbr⟩ := hrel
          have lr := later hbr
          have l6r : Later w6 wr := ⟨hbr⟩
          have lrr : Later wr wr := Later.refl
          have hzr := hbr.size
          by_cases hlt : k < l.length
          rotate_left
          · have hk' : k = l.length := by omega
            subst hk'
            have hq0 := hide (show q = (pathV V id).1 by rw [hq.out, hp.out])
            have hp2 := hide (show (pathV V id).2 = 0 by rw [hp.out])
            have hb9 := lw6.below.trans (hbr.mono lw6.below.size)
            clear hq
            go_wp2_with fail
            exact bodyPost_ret (results_tmp2 rfl _ _ _) rfl ⟨q, QA, QC, hq0, by rw [hp2.out]; rfl, hown.mono lw6.below.size, hb9⟩
          obtain ⟨gx, ox, x, rfl, hx, C1⟩ := IDE.get (hsl w6) hlt
          have hki : (k : Int) < (l.length : Int) := by omega
          have hql : q.length ≤ 1000 := by rw [hqn.out]; omega
          have hwr : IntKind.i64.wrap ((k : Int) + 1) = (k : Int) + 1 := by rw [IntKind.wrap_i64]; omega
          have hxD : l.getD k zeroI = x := by rw [List.getD_eq_getElem?_getD, hx]; rfl
          clear hx
          go_upto_region 15 with fail
          refine wp_name ?_
          intro w8 hw8
          have b13 : w8.heap[wr.heap.size]? = some (.cells #[.int .i64 0, .int .i64 0] 24 (0, 0)) := (by rw [← hw8]; simp only [heap_alloc_if, World.size_alloc]; repeat (first | rw [if_pos trivial] | rw [if_neg (by omega)] | rw [if_pos (by omega)]); try rfl)
          have hb8 : Below wr.heap.size wr w8 := by rw [← hw8]; exact (by repeat (first | with_reducible exact Below.refl _ _ | (with_reducible refine Below.drew ?_) | (with_reducible refine below_drewN ?_ _) | (with_reducible refine Below.alloc ?_ ?_ _; rotate_left; (first | omega | (simp <;> omega))) | (with_reducible refine Below.setCell ?_ ?_ _; rotate_left; (first | omega | (simp <;> omega)))))
          clear hw8
          obtain ⟨gn, hgn⟩ : ∃ z, z = wr.heap.size := ⟨_, rfl⟩
          rw [← hgn] at b13 ⊢
          have hgn' : wr.heap.size ≤ gn := by omega
          clear hgn
          have B8 := boxed b13
          have l88 : Later w8 w8 := Later.refl
          have lr8 : Later wr w8 := ⟨hb8⟩
          have l68 : Later w6 w8 := l6r.trans lr8
          clear b13
          by_cases hlast : k + 1 < l.length
          · obtain ⟨g2, o2, y, e2, hy, C2⟩ := IDE.get (hsl w6) hlast
            injection e2 with e2
            injection e2 with e2 e3
            subst e2 e3
            have hyD : l.getD (k + 1) zeroI = y := by rw [List.getD_eq_getElem?_getD, hy]; rfl
            have hki2 : ((k : Int) + 1) < (l.length : Int) := by omega
            have hki3 : (((k : Int) + 1) == (l.length : Int)) = false := by rw [beq_eq_false_iff_ne]; omega
            have hsa := hide (show rstepAt V (conL o) l k = rstepV V (conL o) x y by unfold rstepAt; rw [if_pos hlast, hxD, hyD])
            have hst : ∀ u [Later w6 u], Calls Tryz.prog 32 #[.slice A V.length c, .agg #[.slice GA o.length gc], x.v, y.v, .bool false] u fun r w' => r = .returned (rstepV V (conL o) x y).v ∧ Below u.heap.size u w' := fun u i =>
              refStep_any A c V GA gc o x y u (hH6.out.later u) hf (hNo.out.later u) hol hofl
            clear hy hxD hyD
            go_upto_region 17 with fail
            refine wp_name ?_
            intro w9 hw9
            have B13 := boxed_set2 B8 hw9
            have hb9 : Below wr.heap.size wr w9 := by rw [← hw9]; exact (hb8.setCell (p := ⟨gn, 0, none⟩) hgn' _).setCell (p := ⟨gn, 1, none⟩) hgn' _
            clear hw9
            have l69 : Later w6 w9 := l6r.trans ⟨hb9⟩
            obtain ⟨val, hval⟩ : ∃ z, z = rstepAt V (conL o) l k := ⟨_, rfl⟩
            have hT := hide (show rstepsV V (conL o) l (k + 1) = rstepsV V (conL o) l k ++ [val] by
              unfold rstepsV
              rw [List.range_succ, List.map_append, hval]
              rfl)
            have hst2 : ∀ u [Later w9 u], Calls Tryz.prog 32 #[.slice A V.length c, .agg #[.slice GA o.length gc], x.v, y.v, .bool false] u fun r w' => r = .returned val.v ∧ Below u.heap.size u w' := fun u i => by
              haveI := l69.trans i
              rw [hval, hsa.out]
              exact hst u
            have Hval := hide hval
            clear hval hst
            have l99 : Later w9 w9 := Later.refl
            have lr9 : Later wr w9 := ⟨hb9⟩
            have hown9 := hown.below hb9
            have hz9 : w6.heap.size ≤ w9.heap.size := l69.below.size
            have cx : ∀ u [Later w9 u], u.cell? ⟨g6, 0, none⟩ = some (.slice GA o.length gc) ∧ u.cell? ⟨gx, ox + k * 2, none⟩ = some (.int .i64 x.machine) ∧ u.cell? ⟨gx, ox + k * 2 + 1, none⟩ = some (.int .i64 x.serial) ∧ u.cell? ⟨gn, 0, none⟩ = some (.int .i64 y.machine) ∧ u.cell? ⟨gn, 1, none⟩ = some (.int .i64 y.serial) := fun u i => by
              haveI := l69.trans i
              exact ⟨((B6' u).2 0).1, (C1 u).1, (C1 u).2, ((B13 u).2 0).1, ((B13 u).2 1).1⟩
            obtain ⟨c0, c1, c2, c3, c4⟩ := cx w9
            have bn := (B13 w9).1
            go_region_held3 (fun w' => w'.cell? ⟨g6, 0, none⟩ = some (.slice GA o.length gc) ∧ w'.cell? ⟨gx, ox + k * 2, none⟩ = some (.int .i64 x.machine) ∧ w'.cell? ⟨gx, ox + k * 2 + 1, none⟩ = some (.int .i64 x.serial) ∧ w'.cell? ⟨gn, 0, none⟩ = some (.int .i64 y.machine) ∧ w'.cell? ⟨gn, 1, none⟩ = some (.int .i64 y.serial)) (first | exact cx _ | exact cy)
              ((first
                | (go_at_call 32
                   refine (hst2 _).mono ?_
                   rintro r w7 ⟨rfl, hb7⟩
                   have l7 := later hb7
                   have ld7 : Later w9 w7 := ⟨below_of⟩)
                | (refine step_app2 (P := Tryz.prog) rfl (.tmp 56) (.tmp 70) (by rfl) StepE.enc stepT _ _ [val] q (.slice QA q.length QC) (by rfl) (by rfl) (m := 1) (n := q.length + 1) rfl rfl (hown9.later _) (blk_slAt StepE.enc (fr := (0, 0)) (e := 44) (by exact (by (simp only [heap_drew, heap_alloc_if, World.size_alloc]); (repeat (first | rw [if_pos rfl] | rw [if_neg (by omega)] | rw [if_pos (by omega)])); try rfl)) [val] rfl) (by omega) (by unfold maxLen; omega) (Nat.le_trans hz9 (show Below w9.heap.size w9 _ from below_of).size) ?_
                   intro A10 c10 w10 ho10 hm10 hst10
                   have hownW := hown9.later
                   have hb10 : Below w6.heap.size w6 w10 := below_stepA (hownW _) hst10 (show Below w6.heap.size w6 _ from below_of) (show Below w6.heap.size w6 _ from below_of).size
                   have l610 : Later w6 w10 := ⟨hb10⟩
                   have hx10 := box_keptA (hownW _) hst10 (blk_below bn (show Below w9.heap.size w9 _ from below_of)) (by decide)
                   have B10 := boxed hx10
                   have l1010 : Later w10 w10 := Later.refl
                   have cy : w10.cell? ⟨g6, 0, none⟩ = some (.slice GA o.length gc) ∧ w10.cell? ⟨gx, ox + k * 2, none⟩ = some (.int .i64 x.machine) ∧ w10.cell? ⟨gx, ox + k * 2 + 1, none⟩ = some (.int .i64 x.serial) ∧ w10.cell? ⟨gn, 0, none⟩ = some (.int .i64 y.machine) ∧ w10.cell? ⟨gn, 1, none⟩ = some (.int .i64 y.serial) := ⟨((B6' w10).2 0).1, (C1 w10).1, (C1 w10).2, ((B10 w10).2 0).1, ((B10 w10).2 1).1⟩)
                | fail))
            all_goals go_wp2_with fail
            all_goals go_roundw
            case rel => exact ⟨k + 1, q ++ [val], A10, c10, by omega, by go_num, by rw [List.length_append]; rfl, hide (by rw [hq.out, hT.out]), hide (by rw [List.length_append, hqn.out]; rfl), by rw [List.length_append]; exact ho10, hb10⟩
            case measure => simp [intOf]; omega
          · have hki2 : ¬ ((k : Int) + 1) < (l.length : Int) := by omega
            have hki3 : (((k : Int) + 1) == (l.length : Int)) = true := by rw [beq_iff_eq]; omega
            obtain ⟨y, hy⟩ : ∃ y : IDE, y = ⟨0, 0⟩ := ⟨_, rfl⟩
            have hy0 : y.machine = 0 := by rw [hy]
            have hy1 : y.serial = 0 := by rw [hy]
            have hsa := hide (show rstepAt V (conL o) l k = ⟨(homeV V x).1, x.machine, x.serial, -1⟩ by unfold rstepAt; rw [if_neg hlast, hxD])
            have hst : ∀ u [Later w6 u], Calls Tryz.prog 32 #[.slice A V.length c, .agg #[.slice GA o.length gc], x.v, y.v, .bool true] u fun r w' => r = .returned (StepE.mk (homeV V x).1 x.machine x.serial (-1)).v ∧ Below u.heap.size u w' := fun u i =>
              step_last_any A c V GA gc o x y u (hH6.out.later u) hf
            go_upto_region 17 with fail
            refine wp_name ?_
            intro w9 hw9
            have hb9 : Below wr.heap.size wr w9 := by rw [← hw9]; exact hb8
            have B13 : Boxed w9 gn #[.int .i64 y.machine, .int .i64 y.serial] 24 := by rw [hy0, hy1, ← hw9]; exact B8
            clear hw9 hy hy0 hy1 hxD
            have l69 : Later w6 w9 := l6r.trans ⟨hb9⟩
            obtain ⟨val, hval⟩ : ∃ z, z = rstepAt V (conL o) l k := ⟨_, rfl⟩
            have hT := hide (show rstepsV V (conL o) l (k + 1) = rstepsV V (conL o) l k ++ [val] by
              unfold rstepsV
              rw [List.range_succ, List.map_append, hval]
              rfl)
            have hst2 : ∀ u [Later w9 u], Calls Tryz.prog 32 #[.slice A V.length c, .agg #[.slice GA o.length gc], x.v, y.v, .bool true] u fun r w' => r = .returned val.v ∧ Below u.heap.size u w' := fun u i => by
              haveI := l69.trans i
              rw [hval, hsa.out]
              exact hst u
            have Hval := hide hval
            clear hval hst
            have l99 : Later w9 w9 := Later.refl
            have lr9 : Later wr w9 := ⟨hb9⟩
            have hown9 := hown.below hb9
            have hz9 : w6.heap.size ≤ w9.heap.size := l69.below.size
            have cx : ∀ u [Later w9 u], u.cell? ⟨g6, 0, none⟩ = some (.slice GA o.length gc) ∧ u.cell? ⟨gx, ox + k * 2, none⟩ = some (.int .i64 x.machine) ∧ u.cell? ⟨gx, ox + k * 2 + 1, none⟩ = some (.int .i64 x.serial) ∧ u.cell? ⟨gn, 0, none⟩ = some (.int .i64 y.machine) ∧ u.cell? ⟨gn, 1, none⟩ = some (.int .i64 y.serial) := fun u i => by
              haveI := l69.trans i
              exact ⟨((B6' u).2 0).1, (C1 u).1, (C1 u).2, ((B13 u).2 0).1, ((B13 u).2 1).1⟩
            obtain ⟨c0, c1, c2, c3, c4⟩ := cx w9
            have bn := (B13 w9).1
            go_region_held3 (fun w' => w'.cell? ⟨g6, 0, none⟩ = some (.slice GA o.length gc) ∧ w'.cell? ⟨gx, ox + k * 2, none⟩ = some (.int .i64 x.machine) ∧ w'.cell? ⟨gx, ox + k * 2 + 1, none⟩ = some (.int .i64 x.serial) ∧ w'.cell? ⟨gn, 0, none⟩ = some (.int .i64 y.machine) ∧ w'.cell? ⟨gn, 1, none⟩ = some (.int .i64 y.serial)) (first | exact cx _ | exact cy)
              ((first
                | (go_at_call 32
                   refine (hst2 _).mono ?_
                   rintro r w7 ⟨rfl, hb7⟩
                   have l7 := later hb7
                   have ld7 : Later w9 w7 := ⟨below_of⟩)
                | (refine step_app2 (P := Tryz.prog) rfl (.tmp 56) (.tmp 70) (by rfl) StepE.enc stepT _ _ [val] q (.slice QA q.length QC) (by rfl) (by rfl) (m := 1) (n := q.length + 1) rfl rfl (hown9.later _) (blk_slAt StepE.enc (fr := (0, 0)) (e := 44) (by exact (by (simp only [heap_drew, heap_alloc_if, World.size_alloc]); (repeat (first | rw [if_pos rfl] | rw [if_neg (by omega)] | rw [if_pos (by omega)])); try rfl)) [val] rfl) (by omega) (by unfold maxLen; omega) (Nat.le_trans hz9 (show Below w9.heap.size w9 _ from below_of).size) ?_
                   intro A10 c10 w10 ho10 hm10 hst10
                   have hownW := hown9.later
                   have hb10 : Below w6.heap.size w6 w10 := below_stepA (hownW _) hst10 (show Below w6.heap.size w6 _ from below_of) (show Below w6.heap.size w6 _ from below_of).size
                   have l610 : Later w6 w10 := ⟨hb10⟩
                   have hx10 := box_keptA (hownW _) hst10 (blk_below bn (show Below w9.heap.size w9 _ from below_of)) (by decide)
                   have B10 := boxed hx10
                   have l1010 : Later w10 w10 := Later.refl
                   have cy : w10.cell? ⟨g6, 0, none⟩ = some (.slice GA o.length gc) ∧ w10.cell? ⟨gx, ox + k * 2, none⟩ = some (.int .i64 x.machine) ∧ w10.cell? ⟨gx, ox + k * 2 + 1, none⟩ = some (.int .i64 x.serial) ∧ w10.cell? ⟨gn, 0, none⟩ = some (.int .i64 y.machine) ∧ w10.cell? ⟨gn, 1, none⟩ = some (.int .i64 y.serial) := ⟨((B6' w10).2 0).1, (C1 w10).1, (C1 w10).2, ((B10 w10).2 0).1, ((B10 w10).2 1).1⟩)
                | fail))
            all_goals go_wp2_with fail
            all_goals go_roundw
            case rel => exact ⟨k + 1, q ++ [val], A10, c10, by omega, by go_num, by rw [List.length_append]; rfl, hide (by rw [hq.out, hT.out]), hide (by rw [List.length_append, hqn.out]; rfl), by rw [List.length_append]; exact ho10, hb10⟩
            case measure => simp [intOf]; omega
  · have hp := hide (show pathV V id = ([], ge) by unfold pathV; rw [Hge.out, if_pos hg0])
    go_wp2_with (go_at_call 28; refine (HG _).mono ?_; rintro r w1 ⟨o, GA, gc, ho, rfl, hog, hb1⟩; have l1 := later hb1)
    exact bodyPost_ret (results_tmp2 rfl _ _ _) rfl ⟨[], none, 0, hide (by rw [hp.out]), by rw [hp.out]; rfl, Own.nil, below_of⟩
end Go.Proofs.YtpkfenlfgdbkcaaGreatDoor

namespace Go.Proofs.YtpkfenlfgdbkcaaGreatDoor
open Go.RowKit
attribute [local go_sem] Oper.semAt_some Instr.makeFunc
attribute [local simp] heap_drew
attribute [local go_sem ↓] load_view_pre load_flight_pre load_msg_pre store_view_pre store_flight_pre store_msg_pre load_scion_pre store_scion_pre
attribute [local go_sem] load_view load_flight load_msg store_view store_flight store_msg load_scion store_scion view_isRow zero_isRow scion_isRow zeroS_isRow rowFree_new setRow_new view_arr0 view_arr2 view_arr3 view_arr4 view_arr5 view_arr6 view_arr9 view_arr10 flight_arr0 flight_arr1 flight_arr2 flight_arr3 flight_arr6 flight_arr7 flight_arr8 flight_arr9 flight_arr10 flight_arr11 flight_arr12 flight_arr13 flight_arr17 flight_arr18 flight_arr19 flight_arr20 flight_arr21 flight_arr22 flight_arr23 flight_arr24 flight_arr25 msg_arr0 msg_arr1 msg_arr4 msg_arr5 msg_arr6 msg_arr7 msg_arr8 msg_arr9 msg_arr10 msg_arr11 msg_arr15 msg_arr16 msg_arr17 msg_arr18 msg_arr19 msg_arr20 msg_arr21 msg_arr22 msg_arr23
attribute [local go_sem ↓] run_eql_id run_neq_id
set_option maxRecDepth 200000 in
set_option maxHeartbeats 8000000 in
theorem lawShortest_any (A : Option Addr) (c : Nat) (V : List ViewE) (id : IDE) (w : World) (hT : Tab10 w) (H : ViewsIn w A V) : Calls Tryz.prog 3 #[.slice A V.length c, id.v] w fun r w' => r = .returned (.bool true) ∧ Below w.heap.size w w' := by
  have HT := hT.later
  have HV := H.at_.later
  have HA : ∀ u [Later w u], Calls Tryz.prog 9 #[] u fun r w' => r = .returned (.bool true) ∧ Below u.heap.size u w' := fun u i => awake_any u (HT u)
  have HFw : ∀ u [Later w u], Calls Tryz.prog 10 #[.slice A V.length c] u (FewPost V u) := fun u i => few55_any A c V u (HV u) H.len
  unfold FewPost at HFw
  go_enter Tryz.func3, Tryz.ntmps3
  go_upto_region 1 with fail
  refine wp_name ?_
  intro w0 hw0
  obtain ⟨B0, l0⟩ := box1 hw0
  have l00 : Later w0 w0 := Later.refl
  have lw0 : Later w w0 := l0 w
  clear hw0
  go_upto_region 5 with (first
    | (go_at_call 9; refine (HA _).mono ?_; rintro r w1 ⟨rfl, hb1⟩; have l1 := later hb1)
    | (go_at_call 10; refine (HFw _).mono ?_; rintro r w2 ⟨b, rfl, hfw, hb2⟩; have l2 := later hb2))
  · go_ret
    exact ⟨rfl, below_of⟩
  cases b
  · exfalso; first | exact absurd ‹(!false) = false› (by decide) | exact ‹¬ (!false) = true› rfl
  have hf : FewV V := hfw rfl
  clear hfw HFw HA
  simp only [Bool.not_true]
  obtain ⟨pe, hpe⟩ : ∃ n, (pathV V id).2 = n := ⟨_, rfl⟩
  obtain ⟨pl, hpl⟩ : ∃ n, (pathV V id).1 = n := ⟨_, rfl⟩
  have hll : pl.length ≤ 1000 := by rw [← hpl]; exact path_short hf
  have HP : ∀ u [Later w u], Calls Tryz.prog 11 #[.slice A V.length c, id.v] u fun r w' => ∃ A2 c2, r = .returned (.tuple #[.slice A2 pl.length c2, .int .i64 (pe : Nat)]) ∧ SlAt StepE.cells 4 w' A2 pl ∧ Below u.heap.size u w' := fun u i => by
    refine (path_any A c V id u (HV u) hf).mono ?_
    rintro r w' ⟨q2, A2, c2, h1, h2, h3, h4⟩
    have h5 := h1.out
    rw [hpl] at h5
    rw [hpe] at h2
    subst h5
    exact ⟨A2, c2, h2, (h3.at_ StepE.enc).2.2, h4⟩
  have HQ : ∀ u [Later w u], Calls Tryz.prog 12 #[.slice A V.length c, id.v] u fun r w' => ∃ A2 c2, r = .returned (.tuple #[.slice A2 pl.length c2, .int .i64 (pe : Nat)]) ∧ SlAt StepE.cells 4 w' A2 pl ∧ Below u.heap.size u w' := fun u i => by
    refine (refPath_any A c V id u (HV u) hf).mono ?_
    rintro r w' ⟨q2, A2, c2, h1, h2, h3, h4⟩
    have h5 := h1.out
    rw [hpl] at h5
    rw [hpe] at h2
    subst h5
    exact ⟨A2, c2, h2, (h3.at_ StepE.enc).2.2, h4⟩
  clear hpl hpe
  go_upto_region 6 with (go_at_call 11; refine (HP _).mono ?_; rintro r w3 ⟨QA, QC, rfl, hq3, hb3⟩; have l3 := later hb3; have hs3 := hq3.later)
  go_upto_region 7 with (go_at_call 12; refine (HQ _).mono ?_; rintro r w4 ⟨RA, RC, rfl, hq4, hb4⟩; have l4 := later hb4; have hs4 := hq4.later)
  go_wp2_with (go_at_call 13; refine (exSame (n := pl.length) (a := pl) rfl (hs3 _) (hs4 _) hll).mono ?_; rintro r w7 ⟨rfl, hb7⟩; have l7 := later hb7)
  go_ret
  exact ⟨rfl, below_of⟩
end Go.Proofs.YtpkfenlfgdbkcaaGreatDoor
