/-
  Contracts of the functions of this seat that each theorem names: what a call returns, and that it writes nothing that was there before. The conditions stand in each theorem.
-/
import Derived.Test.YtpkfenlfgdbkcaaGreatDoorP59Step
import Derived.Test.YtpkfenlfgdbkcaaGreatDoorGrp38
import Derived.Test.YtpkfenlfgdbkcaaGreatDoorP59Graph
set_option linter.unusedSimpArgs false
set_option linter.unusedVariables false
namespace Go.Proofs.YtpkfenlfgdbkcaaGreatDoor
open Go.RowKit
attribute [local go_sem] Oper.semAt_some Instr.makeFunc
attribute [local simp] heap_drew
attribute [local go_sem ↓] run_eql_id run_neq_id
theorem stepT : ElemT Tryz.prog 27 44 4 32 := ElemT.mk' (z := .agg #[.int .i64 0, .int .i64 0, .int .i64 0, .int .i64 0]) Tryz.underlying27 (by kernel_rfl) rfl
def stepAt (V : List ViewE) (G : List NodeC) (l : List IDE) (k : Nat) : StepE := stepV V G (l.getD k zeroI) (l.getD (k + 1) zeroI)
def stepsRaw (V : List ViewE) (G : List NodeC) (l : List IDE) (n : Nat) : List StepE := (List.range n).map (stepAt V G l)
def stepsV (V : List ViewE) (G : List NodeC) (l : List IDE) : List StepE := (stepsRaw V G l l.length).set (l.length - 1) { stepAt V G l (l.length - 1) with field := -1 }
def pathV (V : List ViewE) (id : IDE) : List StepE × Nat :=
  if (graphV V).2 ≠ 0 then ([], (graphV V).2)
  else if (firstN (graphV V).1 id).isSome = false then ([], 6)
  else if searchL (graphV V).1 (rootsV V) id = [] then ([], 9)
  else (stepsV V (graphV V).1 (searchL (graphV V).1 (rootsV V) id), 0)
def PathPost (V : List ViewE) (id : IDE) (w : World) (r : Ending) (w' : World) : Prop := ∃ q A c, Hid (q = (pathV V id).1) ∧ r = .returned (.tuple #[.slice A q.length c, .int .i64 ((pathV V id).2 : Nat)]) ∧ Own StepE.cells 4 44 w.heap.size w' (.slice A q.length c) q ∧ Below w.heap.size w w'
set_option maxRecDepth 200000 in
set_option maxHeartbeats 8000000 in
theorem path_any (A : Option Addr) (c : Nat) (V : List ViewE) (id : IDE) (w : World) (H : ViewsAt w A V) (hf : FewV V) :
    Calls Tryz.prog 11 #[.slice A V.length c, id.v] w (PathPost V id w) := by
  have HV := H.later
  have HG : ∀ u [Later w u], Calls Tryz.prog 15 #[.slice A V.length c] u (GraphPost V u) := fun u i => graph_any A c V u (HV u) hf
  have HRt : ∀ u [Later w u], Calls Tryz.prog 20 #[.slice A V.length c] u (RootsPost V u) := fun u i => roots_any A c V u (HV u) hf
  unfold GraphPost at HG
  obtain ⟨ge, hge⟩ : ∃ n, (graphV V).2 = n := ⟨_, rfl⟩
  rw [hge] at HG
  have Hge := hide hge
  clear hge
  go_enter Tryz.func11, Tryz.ntmps11
  go_upto_region 1 with fail
  refine wp_name ?_
  intro w0 hw0
  obtain ⟨B0, l0⟩ := box1 hw0
  have lw0 : Later w w0 := l0 w
  have l00 : Later w0 w0 := Later.refl
  clear hw0
  by_cases hg0 : ge = 0
  · subst hg0
    go_upto_region 4 with (go_at_call 15; refine (HG _).mono ?_; rintro r w1 ⟨o, GA, gc, ho, rfl, hog, hb1⟩; have l1 := later hb1)
    refine wp_name ?_
    intro w2 hw2
    have b6 : w2.heap[w1.heap.size]? = some (.cells #[.slice GA o.length gc] 36 (0, 0)) := (by rw [← hw2]; simp only [heap_alloc_if, World.size_alloc]; repeat (first | rw [if_pos trivial] | rw [if_neg (by omega)] | rw [if_pos (by omega)]); try rfl)
    have hb12 : Below w1.heap.size w1 w2 := by rw [← hw2]; exact (by repeat (first | with_reducible exact Below.refl _ _ | (with_reducible refine Below.drew ?_) | (with_reducible refine below_drewN ?_ _) | (with_reducible refine Below.alloc ?_ ?_ _; rotate_left; (first | omega | (simp <;> omega))) | (with_reducible refine Below.setCell ?_ ?_ _; rotate_left; (first | omega | (simp <;> omega)))))
    clear hw2
    have lw1 : Later w w1 := ⟨below_of⟩
    have l02 : Later w0 w2 := ⟨(show Below w0.heap.size w0 w1 from below_of).trans (hb12.mono (show Below w0.heap.size w0 w1 from below_of).size)⟩
    have lw2 : Later w w2 := lw0.trans l02
    have B6 := boxed b6
    have l22 : Later w2 w2 := Later.refl
    have hN := hog.nodes.below hb12
    have hN2 := hN.later
    have hoc : (conL o).length = o.length := by unfold conL; rw [List.length_map]
    have hol : o.length ≤ 1000 := by rw [← hoc, ho.out]; exact graph_len hf
    have hofl : ∀ n ∈ o, n.fields.length ≤ 1000 := fun n hn => by
      have : n.con.fields.length ≤ 30 := graph_fields (V := V) (by rw [← ho.out]; exact List.mem_map.2 ⟨n, hn, rfl⟩)
      show n.con.fields.length ≤ 1000
      omega
    have hoz : zeroI ∉ ids (conL o) := by rw [ho.out]; exact graph_zero
    have HF : ∀ u [Later w2 u], Calls Tryz.prog 18 #[.agg #[.slice GA o.length gc], id.v] u (FindPost (conL o) id u) := fun u i => find_any GA gc o id u (hN2 u) (by omega) (fun n hn => by have := hofl n hn; omega)
    unfold FindPost at HF
    obtain ⟨fb, hfb⟩ : ∃ n, (firstN (conL o) id).isSome = n := ⟨_, rfl⟩
    rw [hfb] at HF
    have Hfb := hide (show (firstN (graphV V).1 id).isSome = fb by rw [← ho.out, hfb])
    clear hfb hoc hb12 b6
    cases fb
    · have hp := hide (show pathV V id = ([], 6) by unfold pathV; rw [Hge.out, Hfb.out]; simp)
      go_wp2_with (go_at_call 18; refine (HF _).mono ?_; rintro r w3 ⟨m, rfl, -, -, -, -, hb3⟩; have l3 := later hb3)
      exact bodyPost_ret (results_tmp2 rfl _ _ _) rfl ⟨[], none, 0, hide (by rw [hp.out]), by rw [hp.out]; rfl, Own.nil, below_of⟩
    · go_upto_region 7 with (go_at_call 18; refine (HF _).mono ?_; rintro r w3 ⟨m, rfl, -, -, -, -, hb3⟩; have l3 := later hb3)
      refine wp_name ?_
      intro w4 hw4
      have l24 : Later w2 w4 := ⟨by rw [← hw4]; exact below_of⟩
      clear hw4 l3 hb3
      have l04 : Later w0 w4 := l02.trans l24
      have lw4 : Later w w4 := lw2.trans l24
      have l44 : Later w4 w4 := Later.refl
      have hN4 := (hN2 w4).later
      go_region_held3 (fun w' => ∀ b [Later b w4], Later b w') ((intro b _; infer_instance))
        ((first
          | (go_at_call 26; refine (search_any GA gc o RA rc R id _ (hN4 _) (hsR _) (by omega) hofl (by have := hRl; omega) hoz).mono ?_; rintro r w6 ⟨l, LA, LC, hl, rfl, hol2, hb6⟩; have l6 := later hb6)
          | (go_at_call 20; refine (HRt _).mono ?_; rintro r w5 ⟨R, RA, rc, hR, rfl, hoR, hb5⟩; have l5 := later hb5; have hsR : ∀ u [Later w5 u], SlAt IDE.cells 2 u RA R := fun u i => ((hoR.at_ IDE.enc).2.2).below i.below; have hRl : R.length ≤ 5000 := by (rw [hR.out]; exact roots_len hf))))
      have hl2 := hide (show l = searchL (graphV V).1 (rootsV V) id by rw [hl.out, ho.out, hR.out])
      have hll : l.length ≤ 1000 := by
        refine Nat.le_trans ?_ (graph_len hf)
        rw [hl2.out]
        unfold searchL
        cases hp : pathsT (graphV V).1 (rootsV V) id with
        | none => exact Nat.zero_le _
        | some q => exact paths_len hp
      have l46 : Later w4 w6 := ⟨below_of⟩
      have lw6 : Later w w6 := lw4.trans l46
      have l66 : Later w6 w6 := Later.refl
      have hsl := ((hol2.at_ IDE.enc).2.2).later
      have l26 : Later w2 w6 := l24.trans l46
      have B6' : Boxed w6 w1.heap.size #[.slice GA o.length gc] 36 := fun u i => by haveI := l26.trans i; exact B6 u
      have hNo := hide (hN4 w6)
      have hH6 := hide (HV w6)
      clear hol2 hN4 hN2 hN HF HG HRt hog
      by_cases hlz : l.length = 0
      · have hle : l = [] := List.eq_nil_iff_length_eq_zero.2 hlz
        have hp := hide (show pathV V id = ([], 9) by unfold pathV; rw [Hge.out, Hfb.out, ← hl2.out, hle]; simp)
        clear hle
        go_wp2_with fail
        exact bodyPost_ret (results_tmp2 rfl _ _ _) rfl ⟨[], none, 0, hide (by rw [hp.out]), by rw [hp.out]; rfl, Own.nil, lw6.below⟩
      · have hp := hide (show pathV V id = (stepsV V (conL o) l, 0) by
          unfold pathV
          rw [Hge.out, Hfb.out, ← hl2.out, if_neg (by simp), if_neg (by simp), if_neg (fun e => hlz (by rw [e]; rfl)), ho.out])
        have hlb : ((l.length : Int) == 0) = false := by rw [beq_eq_false_iff_ne]; omega
        go_wp2_with fail
        go_loopw [11, 41] (fun ov iv wr => ∃ (k : Nat) (q : List StepE) (QA : Option Addr) (QC : Nat), k ≤ l.length ∧ iv = .int .i64 k ∧ ov = .slice QA q.length QC ∧ Hid (q = stepsRaw V (conL o) l k) ∧ Hid (q.length = k) ∧ Own StepE.cells 4 44 w6.heap.size wr (.slice QA q.length QC) q ∧ Below w6.heap.size w6 wr) (fun _ iv _ => l.length - (intOf iv).toNat)
        case atStart => exact ⟨0, [], none, 0, by omega, rfl, rfl, hide rfl, hide rfl, Own.nil, Below.refl _ _⟩
        case round =>
          obtain ⟨k, q, QA, QC, hk, rfl, rfl, hq, hqn, hown, hbr⟩ := hrel
          have lr := later hbr
          have l6r : Later w6 wr := ⟨hbr⟩
          have lrr : Later wr wr := Later.refl
          have hzr := hbr.size
          by_cases hlt : k < l.length
          · obtain ⟨gx, ox, x, rfl, hx, C1⟩ := IDE.get (hsl wr) hlt
            have hki : (k : Int) < (l.length : Int) := by omega
            obtain ⟨y, hy⟩ : ∃ y, y = l.getD (k + 1) zeroI := ⟨_, rfl⟩
            have hT := hide (show stepsRaw V (conL o) l (k + 1) = stepsRaw V (conL o) l k ++ [stepV V (conL o) x y] by
              unfold stepsRaw
              rw [List.range_succ, List.map_append]
              congr 1
              show [stepAt V (conL o) l k] = _
              unfold stepAt
              rw [← hy, List.getD_eq_getElem?_getD, hx]
              rfl)
            have Hy := hide hy
            clear hx hy
            have hwr : IntKind.i64.wrap ((k : Int) + 1) = (k : Int) + 1 := by rw [IntKind.wrap_i64]; omega
            obtain ⟨W8, hW8⟩ : ∃ W8, W8 = (wr.alloc (.cells #[.int .i64 x.machine, .int .i64 x.serial] 24)).alloc (.cells #[.int .i64 y.machine, .int .i64 y.serial] 24) := ⟨_, rfl⟩
            have b13 : W8.heap[wr.heap.size]? = some (.cells #[.int .i64 x.machine, .int .i64 x.serial] 24 (0, 0)) := (by rw [← hW8.symm]; simp only [heap_alloc_if, World.size_alloc]; repeat (first | rw [if_pos trivial] | rw [if_neg (by omega)] | rw [if_pos (by omega)]); try rfl)
            have b14 : W8.heap[wr.heap.size + 1]? = some (.cells #[.int .i64 y.machine, .int .i64 y.serial] 24 (0, 0)) := (by rw [← hW8.symm]; simp only [heap_alloc_if, World.size_alloc]; repeat (first | rw [if_pos trivial] | rw [if_neg (by omega)] | rw [if_pos (by omega)]); try rfl)
            have hb8 : Below wr.heap.size wr W8 := by rw [hW8]; exact (by repeat (first | with_reducible exact Below.refl _ _ | (with_reducible refine Below.drew ?_) | (with_reducible refine below_drewN ?_ _) | (with_reducible refine Below.alloc ?_ ?_ _; rotate_left; (first | omega | (simp <;> omega))) | (with_reducible refine Below.setCell ?_ ?_ _; rotate_left; (first | omega | (simp <;> omega)))))
            have H8 := hide hW8
            clear hW8
            by_cases hlast : k + 1 < l.length
            · obtain ⟨g2, o2, y2, e2, hy2, C2⟩ := IDE.get (hsl wr) hlast
              injection e2 with e2
              injection e2 with e2 e3
              subst e2 e3
              have hyy : y2 = y := by rw [Hy.out, List.getD_eq_getElem?_getD, hy2]; rfl
              subst hyy
              have hki2 : ((k : Int) + 1) < (l.length : Int) := by omega
              go_upto_region 17 with fail
              rw [← H8.out]
              have B13 := boxed b13
              have B14 := boxed b14
              have l88 : Later W8 W8 := Later.refl
              have lr8 : Later wr W8 := ⟨hb8⟩
              have l68 : Later w6 W8 := l6r.trans lr8
              have own8 := hown.below hb8
              have hz8 : w6.heap.size ≤ W8.heap.size := l68.below.size
              have hst : ∀ u [Later W8 u], Calls Tryz.prog 27 #[.slice A V.length c, .agg #[.slice GA o.length gc], x.v, (y2).v] u fun r w' => r = .returned (stepV V (conL o) x (y2)).v ∧ Below u.heap.size u w' := fun u i => by
                haveI : Later w6 u := l68.trans i
                exact step_any A c V GA gc o x (y2) u (hH6.out.later u) hf (hNo.out.later u) hol hofl
              obtain ⟨val, hval⟩ : ∃ z, stepV V (conL o) x (y2) = z := ⟨_, rfl⟩
              rw [hval] at hst
              have Hval := hide hval
              have hql : q.length ≤ 1000 := by rw [hqn.out]; omega
              clear hval H8
              go_wp2_with (first
                | (go_at_call 27; refine (hst _).mono ?_; rintro r w9 ⟨rfl, hb9⟩; have l9 := later hb9)
                | (at_builtin; refine wpList_app1 rfl (.tmp 57) (.tmp 63) rfl StepE.enc stepT val rfl rfl rfl (own8.later _) (by rfl) (by omega) (by unfold maxLen; omega) (Nat.le_trans hz8 (show Below W8.heap.size W8 _ from below_of).size) ?_; intro A' c' w10 ho10 hm hb hg hat; have hb610 : Below w6.heap.size w6 w10 := (show Below w6.heap.size w6 w9 from below_of).trans hb))
              go_roundw
              case rel => exact ⟨k + 1, q ++ [val], A', c', by omega, by go_num, by rw [List.length_append]; rfl, hide (by rw [hq.out, hT.out, Hval.out]), hide (by rw [List.length_append, hqn.out]; rfl), by rw [List.length_append]; exact ho10, hb610⟩
              case measure => simp [intOf]; omega
            · have hki2 : ¬ ((k : Int) + 1) < (l.length : Int) := by omega
              have hyz : y = zeroI := by rw [Hy.out, List.getD_eq_getElem?_getD, List.getElem?_eq_none (by omega)]; rfl
              have H9 := H8.out
              have h0 : y.machine = 0 := by rw [hyz]; rfl
              have h1 : y.serial = 0 := by rw [hyz]; rfl
              rw [h0, h1] at H9
              replace H9 := hide H9
              clear hyz h0 h1
              go_upto_region 17 with fail
              rw [← H9.out]
              clear H9
              have B13 := boxed b13
              have B14 := boxed b14
              have l88 : Later W8 W8 := Later.refl
              have lr8 : Later wr W8 := ⟨hb8⟩
              have l68 : Later w6 W8 := l6r.trans lr8
              have own8 := hown.below hb8
              have hz8 : w6.heap.size ≤ W8.heap.size := l68.below.size
              have hst : ∀ u [Later W8 u], Calls Tryz.prog 27 #[.slice A V.length c, .agg #[.slice GA o.length gc], x.v, (y).v] u fun r w' => r = .returned (stepV V (conL o) x (y)).v ∧ Below u.heap.size u w' := fun u i => by
                haveI : Later w6 u := l68.trans i
                exact step_any A c V GA gc o x (y) u (hH6.out.later u) hf (hNo.out.later u) hol hofl
              obtain ⟨val, hval⟩ : ∃ z, stepV V (conL o) x (y) = z := ⟨_, rfl⟩
              rw [hval] at hst
              have Hval := hide hval
              have hql : q.length ≤ 1000 := by rw [hqn.out]; omega
              clear hval H8
              go_wp2_with (first
                | (go_at_call 27; refine (hst _).mono ?_; rintro r w9 ⟨rfl, hb9⟩; have l9 := later hb9)
                | (at_builtin; refine wpList_app1 rfl (.tmp 57) (.tmp 63) rfl StepE.enc stepT val rfl rfl rfl (own8.later _) (by rfl) (by omega) (by unfold maxLen; omega) (Nat.le_trans hz8 (show Below W8.heap.size W8 _ from below_of).size) ?_; intro A' c' w10 ho10 hm hb hg hat; have hb610 : Below w6.heap.size w6 w10 := (show Below w6.heap.size w6 w9 from below_of).trans hb))
              go_roundw
              case rel => exact ⟨k + 1, q ++ [val], A', c', by omega, by go_num, by rw [List.length_append]; rfl, hide (by rw [hq.out, hT.out, Hval.out]), hide (by rw [List.length_append, hqn.out]; rfl), by rw [List.length_append]; exact ho10, hb610⟩
              case measure => simp [intOf]; omega
          · have hk' : k = l.length := by omega
            subst hk'
            obtain ⟨n, hn⟩ : ∃ n, l.length = n + 1 := ⟨l.length - 1, by omega⟩
            obtain ⟨last, hla⟩ : ∃ x, q[n]? = some x := ⟨_, List.getElem?_eq_getElem (by rw [hqn.out]; omega)⟩
            obtain ⟨gQ, rfl⟩ := hown.isSome (by intro e; have := hqn.out; rw [e] at this; simp at this; omega)
            have hq0 := hide (show q.set n { last with field := -1 } = (pathV V id).1 by
              rw [hp.out]
              show _ = stepsV V (conL o) l
              have h1 : last = stepAt V (conL o) l n := by
                have := hla
                rw [hq.out] at this
                unfold stepsRaw at this
                rw [List.getElem?_map, List.getElem?_range (by omega)] at this
                injection this with this
                exact this.symm
              unfold stepsV
              rw [show l.length - 1 = n by omega, ← hq.out, h1])
            have hp2 := hide (show (pathV V id).2 = 0 by rw [hp.out])
            have hj1 : ((q.length : Int) - 1) = (n : Int) := by rw [hqn.out]; omega
            have hjl : (n : Int) < (q.length : Int) := by rw [hqn.out]; omega
            have hnq : n < q.length := by rw [hqn.out]; omega
            have hjw : IntKind.i64.wrap (n : Int) = (n : Int) := by rw [IntKind.wrap_i64]; omega
            have hj0 : (0 : Int) ≤ (n : Int) := by omega
            have e3 := hown.cell StepE.enc hla (j := 3) rfl
            have z3 := hown.free (n * 4 + 3)
            have hgb := hown.base_le
            have ho9 := hown.store StepE.enc (j := 3) (u := .int .i64 (-1)) (x' := { last with field := -1 }) hla (by omega) rfl
            have hq9 := hide (show (q.set n { last with field := -1 }).length = q.length by rw [List.length_set])
            have hbs : Below w.heap.size w (wr.setCell ⟨gQ, n * 4 + 3, none⟩ (.int .i64 (-1))) := (lw6.below.trans (hbr.mono lw6.below.size)).setCell (p := ⟨gQ, n * 4 + 3, none⟩) (Nat.le_trans lw6.below.size hgb) _
            have hz6 := lw6.below.size
            clear hn hla hq hqn
            go_upto_region 20 with fail
            generalize wr.setCell ⟨gQ, n * 4 + 3, none⟩ (.int .i64 (-1)) = w9 at ho9 hbs ⊢
            clear e3 z3
            go_wp2_with fail
            refine bodyPost_ret (results_tmp2 rfl _ _ _) rfl ⟨q.set n { last with field := -1 }, some ⟨gQ, 0, none⟩, QC, hq0, by rw [hp2.out, hq9.out]; rfl, ?_, hbs⟩
            rw [hq9.out]
            exact ho9.mono hz6
  · have hp := hide (show pathV V id = ([], ge) by unfold pathV; rw [Hge.out, if_pos hg0])
    go_wp2_with (go_at_call 15; refine (HG _).mono ?_; rintro r w1 ⟨o, GA, gc, ho, rfl, hog, hb1⟩; have l1 := later hb1)
    exact bodyPost_ret (results_tmp2 rfl _ _ _) rfl ⟨[], none, 0, hide (by rw [hp.out]), by rw [hp.out]; rfl, Own.nil, below_of⟩
end Go.Proofs.YtpkfenlfgdbkcaaGreatDoor
