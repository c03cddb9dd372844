/-
  Contracts of the functions of this seat that each theorem names: what a call returns, and that it writes nothing that was there before. The conditions stand in each theorem.
-/
import Derived.Test.YtpkfenlfgdbkcaaGreatDoorP59SpoPlain
import Derived.Test.YtpkfenlfgdbkcaaGreatDoorP59Open
import Derived.Test.YtpkfenlfgdbkcaaGreatDoorP59Few
import Derived.Deep.RegionHeld3
set_option linter.unusedSimpArgs false
set_option linter.unusedVariables false
namespace Go.Proofs.YtpkfenlfgdbkcaaGreatDoor
open Go.RowKit
attribute [local go_sem] Oper.semAt_some Instr.makeFunc
attribute [local simp] heap_drew
attribute [local go_sem ↓] load_view_pre load_flight_pre load_msg_pre store_view_pre store_flight_pre store_msg_pre load_scion_pre store_scion_pre
attribute [local go_sem] load_view load_flight load_msg store_view store_flight store_msg load_scion store_scion view_isRow zero_isRow scion_isRow zeroS_isRow rowFree_new setRow_new view_arr0 view_arr2 view_arr3 view_arr4 view_arr5 view_arr6 view_arr9 view_arr10 flight_arr0 flight_arr1 flight_arr2 flight_arr3 flight_arr6 flight_arr7 flight_arr8 flight_arr9 flight_arr10 flight_arr11 flight_arr12 flight_arr13 flight_arr17 flight_arr18 flight_arr19 flight_arr20 flight_arr21 flight_arr22 flight_arr23 flight_arr24 flight_arr25 msg_arr0 msg_arr1 msg_arr4 msg_arr5 msg_arr6 msg_arr7 msg_arr8 msg_arr9 msg_arr10 msg_arr11 msg_arr15 msg_arr16 msg_arr17 msg_arr18 msg_arr19 msg_arr20 msg_arr21 msg_arr22 msg_arr23
attribute [local go_sem ↓] run_eql_id run_neq_id
set_option maxRecDepth 200000 in
set_option maxHeartbeats 8000000 in
theorem lawSpoilt_any (A : Option Addr) (c : Nat) (V : List ViewE) (id : IDE) (at_ kd : Int) (w : World) (hT : Tab10 w) (H : ViewsIn w A V) (h1 : (Lit.int .u8 at_).wf = true) (h2 : (Lit.int .u8 kd).wf = true) : Calls Tryz.prog 7 #[.slice A V.length c, id.v, .int .u8 at_, .int .u8 kd] w fun r w' => r = .returned (.bool true) ∧ Below w.heap.size w w' := by
  replace h1 := wf_u8 h1
  replace h2 := wf_u8 h2
  obtain ⟨n, rfl⟩ : ∃ n : Nat, at_ = (n : Int) := ⟨at_.toNat, by omega⟩
  obtain ⟨m, rfl⟩ : ∃ m : Nat, kd = (m : Int) := ⟨kd.toNat, by omega⟩
  have H1 := hide h1
  have H2 := hide h2
  clear h1 h2
  have HT := hT.later
  have HV := H.at_.later
  have HA : ∀ u [Later w u], Calls Tryz.prog 9 #[] u fun r w' => r = .returned (.bool true) ∧ Below u.heap.size u w' := fun u i => awake_any u (HT u)
  have HFw : ∀ u [Later w u], Calls Tryz.prog 10 #[.slice A V.length c] u (FewPost V u) := fun u i => few55_any A c V u (HV u) H.len
  unfold FewPost at HFw
  have lww : Later w w := Later.refl
  go_enter Tryz.func7, Tryz.ntmps7
  go_upto_region 1 with fail
  refine wp_name ?_
  intro w0 hw0
  obtain ⟨B0, l0⟩ := box1 hw0
  have l00 : Later w0 w0 := Later.refl
  have lw0 : Later w w0 := l0 w
  clear hw0
  go_upto_region 5 with (first
    | (go_at_call 9; refine (HA _).mono ?_; rintro r w1 ⟨rfl, hb1⟩; have l1 := later hb1)
    | (go_at_call 10; refine (HFw _).mono ?_; rintro r w2 ⟨b, rfl, hfw, hb2⟩; have l2 := later hb2))
  · go_ret
    exact ⟨rfl, below_of⟩
  cases b
  · exfalso; first | exact absurd ‹(!false) = false› (by decide) | exact ‹¬ (!false) = true› rfl
  have hf : FewV V := hfw rfl
  clear hfw HFw HA
  simp only [Bool.not_true]
  have HP : ∀ u [Later w u], Calls Tryz.prog 11 #[.slice A V.length c, id.v] u (PathPost V id u) := fun u i => path_any A c V id u (HV u) hf
  have HG : ∀ u [Later w u], Calls Tryz.prog 15 #[.slice A V.length c] u (GraphPost V u) := fun u i => graph_any A c V u (HV u) hf
  unfold PathPost at HP
  unfold GraphPost at HG
  obtain ⟨pe, hpe⟩ : ∃ n, (pathV V id).2 = n := ⟨_, rfl⟩
  rw [hpe] at HP
  have Hpe := hide hpe
  clear hpe
  go_upto_region 6 with (go_at_call 11; refine (HP _).mono ?_; rintro r w3 ⟨q, QA, QC, hq, rfl, hoq, hb3⟩; have l3 := later hb3)
  have lw3 : Later w w3 := ⟨below_of⟩
  have l33 : Later w3 w3 := Later.refl
  obtain ⟨-, hqc, hqs⟩ := hoq.at_ StepE.enc
  have HQ := hqs.later
  have hql : q.length ≤ 1000 := by rw [hq.out]; exact path_short hf
  clear hqs hoq HP B0
  by_cases hp0 : pe = 0
  rotate_left
  · have hq0 : ((q.length : Int) == 0) = true := by
      have := path_err (V := V) (id := id) (by rw [Hpe.out]; exact hp0)
      rw [← hq.out] at this
      rw [this]; rfl
    have hgi : ((pe : Int) != 0) = true := by rw [bne_iff_ne]; omega
    go_wp2_with fail
    go_ret
    exact ⟨rfl, below_of⟩
  have hgi : ((pe : Int) != 0) = false := by rw [hp0]; rfl
  have hp1 : (pathV V id).2 = 0 := by rw [Hpe.out, hp0]
  have hpos : 0 < q.length := by rw [hq.out]; exact path_pos hp1
  have hchk := check_law hp1
  rw [← hq.out] at hchk
  have Hchk := hide hchk
  have hg : (graphV V).2 = 0 := (pathV_inv (V := V) (id := id) (.inr hp1)).1
  have hq0 : ((q.length : Int) == 0) = false := by rw [beq_eq_false_iff_ne]; omega
  rw [hg] at HG
  clear hchk hp0 hp1
  go_upto_region 11 with fail
  refine wp_name ?_
  intro w4 hw4
  have b11 : w4.heap[w3.heap.size]? = some (.cells #[.int .i64 8, .int .i64 1073741824] 24 (0, 0)) := (by rw [← hw4]; simp only [heap_alloc_if, World.size_alloc]; repeat (first | rw [if_pos trivial] | rw [if_neg (by omega)] | rw [if_pos (by omega)]); try rfl)
  have hb34 : Below w3.heap.size w3 w4 := by rw [← hw4]; exact (by repeat (first | with_reducible exact Below.refl _ _ | (with_reducible refine Below.drew ?_) | (with_reducible refine below_drewN ?_ _) | (with_reducible refine Below.alloc ?_ ?_ _; rotate_left; (first | omega | (simp <;> omega))) | (with_reducible refine Below.setCell ?_ ?_ _; rotate_left; (first | omega | (simp <;> omega)))))
  clear hw4
  have l34 : Later w3 w4 := ⟨hb34⟩
  have lw4 : Later w w4 := lw3.trans l34
  have B11 := boxed b11
  have l44 : Later w4 w4 := Later.refl
  go_upto_region 12 with (go_at_call 15; refine (HG _).mono ?_; rintro r w5 ⟨o, GA, gc, ho, rfl, hog, hb5⟩; have l5 := later hb5)
  refine wp_name ?_
  intro w6 hw6
  have b12 : w6.heap[w5.heap.size]? = some (.cells #[.slice GA o.length gc] 36 (0, 0)) := (by rw [← hw6]; simp only [heap_alloc_if, World.size_alloc]; repeat (first | rw [if_pos trivial] | rw [if_neg (by omega)] | rw [if_pos (by omega)]); try rfl)
  have hb56 : Below w5.heap.size w5 w6 := by rw [← hw6]; exact (by repeat (first | with_reducible exact Below.refl _ _ | (with_reducible refine Below.drew ?_) | (with_reducible refine below_drewN ?_ _) | (with_reducible refine Below.alloc ?_ ?_ _; rotate_left; (first | omega | (simp <;> omega))) | (with_reducible refine Below.setCell ?_ ?_ _; rotate_left; (first | omega | (simp <;> omega)))))
  clear hw6
  have l45 : Later w4 w5 := ⟨below_of⟩
  have l46 : Later w4 w6 := ⟨l45.below.trans (hb56.mono l45.below.size)⟩
  have l36 : Later w3 w6 := l34.trans l46
  have lw6 : Later w w6 := lw4.trans l46
  have B12 := boxed b12
  have l66 : Later w6 w6 := Later.refl
  have hN := (hog.nodes.below hb56).later
  have hoc : (conL o).length = o.length := by unfold conL; rw [List.length_map]
  have hol : o.length ≤ 1000 := by rw [← hoc, ho.out]; exact graph_len hf
  have hofl : ∀ n ∈ o, n.fields.length ≤ 1000 := fun n hn => by
    have : n.con.fields.length ≤ 30 := graph_fields (V := V) (by rw [← ho.out]; exact List.mem_map.2 ⟨n, hn, rfl⟩)
    show n.con.fields.length ≤ 1000
    omega
  have HF : ∀ u [Later w6 u], Calls Tryz.prog 18 #[.agg #[.slice GA o.length gc], .agg #[.int .i64 8, .int .i64 1073741824]] u (FindPost (conL o) ⟨8, 1073741824⟩ u) := fun u i => find_any GA gc o ⟨8, 1073741824⟩ u (hN u) (by omega) (fun n hn => by have := hofl n hn; omega)
  unfold FindPost at HF
  obtain ⟨fb, hfb⟩ : ∃ b, (firstN (conL o) ⟨8, 1073741824⟩).isSome = b := ⟨_, rfl⟩
  rw [hfb] at HF
  rw [ho.out] at hfb
  have Hfb := hide hfb
  have B116 : Boxed w6 w3.heap.size #[.int .i64 8, .int .i64 1073741824] 24 := fun u i => by haveI := l46.trans i; exact B11 u
  clear hfb hoc b12 hog b11 B11 HG
  go_upto_region 13 with (go_at_call 18; refine (HF _).mono ?_; rintro r w7 ⟨fm, rfl, -, -, -, -, hb7⟩; have l7 := later hb7)
  refine wp_name ?_
  intro w8 hw8
  have l68 : Later w6 w8 := ⟨by rw [← hw8]; exact below_of⟩
  clear hw8 l7 hb7 hN HF B12
  have lw8 : Later w w8 := lw6.trans l68
  have l38 : Later w3 w8 := l36.trans l68
  have l88 : Later w8 w8 := Later.refl
  have B118 : Boxed w8 w3.heap.size #[.int .i64 8, .int .i64 1073741824] 24 := fun u i => by haveI := l68.trans i; exact B116 u
  clear B116
  cases fb
  rotate_left
  · go_wp2_with fail
    go_ret
    exact ⟨rfl, below_of⟩
  obtain ⟨k, hk⟩ : ∃ k, k = n % q.length := ⟨_, rfl⟩
  have hlt : k < q.length := by rw [hk]; exact Nat.mod_lt n hpos
  have e2 : (n : Int).tmod (q.length : Int) = (k : Int) := by rw [hk]; rfl
  have e4 : IntKind.i64.wrap (k : Int) = (k : Int) := by rw [IntKind.wrap_i64]; omega
  have e5 : IntKind.i64.wrap (n : Int) = (n : Int) := by have := H1.out; rw [IntKind.wrap_i64]; omega
  have hne0 : ¬ ((q.length : Int) = 0) := by omega
  have hnil : ¬ q = [] := fun e => by rw [e] at hlt; simp at hlt
  have hki : (k : Int) < (q.length : Int) := by omega
  have hk0 : (0 : Int) ≤ (k : Int) := by omega
  obtain ⟨s, hs⟩ : ∃ s, q[k]? = some s := ⟨_, List.getElem?_eq_getElem hlt⟩
  have Hs := hide hs
  clear hk hs
  go_upto_region 16 with fail
  go_upto_region 17 with (at_builtin; refine wpList_appE rfl (.tmp 55) (.tmp 56) rfl StepE.enc stepT _ _ q rfl rfl (HQ _) (by omega) (by unfold maxLen; omega) ?_; intro WA WC w9 ho9 hm9 hb9; have l9 := later hb9)
  obtain ⟨gW, rfl⟩ := ho9.isSome hnil
  have l89 : Later w8 w9 := ⟨below_of⟩
  have lw9 : Later w w9 := lw8.trans l89
  have l99 : Later w9 w9 := Later.refl
  have hgb := ho9.base_le
  have hgw : w.heap.size ≤ gW := by
    have h1 := lw8.below.size
    have h2 : w8.heap.size ≤ gW := hgb
    omega
  have B119 : Boxed w9 w3.heap.size #[.int .i64 8, .int .i64 1073741824] 24 := fun u i => by haveI := l89.trans i; exact B118 u
  have hr : m % 4 = 0 ∨ m % 4 = 1 ∨ m % 4 = 2 ∨ m % 4 = 3 := by omega
  have em0 : (m : Int).tmod 4 = ((m % 4 : Nat) : Int) := rfl
  clear HQ B118 H1 H2
  rcases hr with hr | hr | hr | hr
  · have em : (m : Int).tmod 4 = 0 := by rw [em0, hr]; rfl
    have ew : IntKind.u8.wrap 0 = 0 := by decide
    have e3 : w9.cell? ⟨gW, k * 4, none⟩ = some (.int .i64 s.machine) := ho9.cell StepE.enc Hs.out (j := 0) rfl
    have z3 : w9.frozen? ⟨gW, k * 4, none⟩ = false := ho9.free (k * 4)
    obtain ⟨y, hy⟩ : ∃ y, IntKind.i64.wrap (s.machine + 1) = y := ⟨_, rfl⟩
    have hck := spoil_machine Hs.out Hchk.out
    rw [hy] at hck
    have ho10 : Own StepE.cells 4 44 w8.heap.size (w9.setCell ⟨gW, k * 4, none⟩ (.int .i64 y)) (.slice (some ⟨gW, 0, none⟩) q.length WC) (q.set k { s with machine := y }) := ho9.store StepE.enc (j := 0) (u := .int .i64 y) (x' := { s with machine := y }) Hs.out (by omega) rfl
    have hb10 : Below w.heap.size w (w9.setCell ⟨gW, k * 4, none⟩ (.int .i64 y)) := lw9.below.setCell (p := ⟨gW, k * 4, none⟩) hgw _
    clear em0 hr
    go_upto_region 28 with fail
    generalize w9.setCell ⟨gW, k * 4, none⟩ (.int .i64 y) = w10 at ho10 hb10 ⊢
    have lwa : Later w w10 := ⟨hb10⟩
    have laa : Later w10 w10 := Later.refl
    have hTl : (q.set k { s with machine := y }).length = q.length := by rw [List.length_set]
    have hTs := ((ho10.at_ StepE.enc).2.2).later
    have HC : ∀ u [Later w10 u], Calls Tryz.prog 21 #[.slice A V.length c, .slice (some ⟨gW, 0, none⟩) q.length WC] u fun r w' => r = .returned (.bool false) ∧ Below u.heap.size u w' := fun u i => by
      haveI := lwa.trans i
      have := check_any A c V (some ⟨gW, 0, none⟩) WC (q.set k { s with machine := y }) u (HV u) hf (hTs u) (by rw [hTl]; exact hql)
      unfold ChkPost at this
      rw [hck, hTl] at this
      exact this
    have HFt : ∀ u [Later w10 u], Calls Tryz.prog 22 #[.slice A V.length c, .slice (some ⟨gW, 0, none⟩) q.length WC] u fun r w' => ∃ FA FC, r = .returned (.slice FA 0 FC) ∧ Below u.heap.size u w' := fun u i => by
      haveI := lwa.trans i
      have := format_any A c V (some ⟨gW, 0, none⟩) WC (q.set k { s with machine := y }) u (HV u) hf (hTs u) (by rw [hTl]; exact hql) (HT u) H.ok
      rw [hTl] at this
      refine this.mono ?_
      rintro r w' ⟨fl, FA, FC, h1, h2, -, h4⟩
      have h3 := h1.out
      rw [format_no hck] at h3
      subst h3
      exact ⟨FA, FC, h2, h4⟩
    clear hTs ho10
    go_wp2_with (first
      | (go_at_call 21; refine (HC _).mono ?_; rintro r w11 ⟨rfl, hb11⟩; have l11 := later hb11)
      | (go_at_call 22; refine (HFt _).mono ?_; rintro r w12 ⟨FA, FC, rfl, hb12⟩; have l12 := later hb12))
    go_ret
    exact ⟨rfl, below_of⟩
  · have em : (m : Int).tmod 4 = 1 := by rw [em0, hr]; rfl
    have ew : IntKind.u8.wrap 1 = 1 := by decide
    have e3 : w9.cell? ⟨gW, k * 4 + 3, none⟩ = some (.int .i64 s.field) := ho9.cell StepE.enc Hs.out (j := 3) rfl
    have z3 : w9.frozen? ⟨gW, k * 4 + 3, none⟩ = false := ho9.free (k * 4 + 3)
    obtain ⟨y, hy⟩ : ∃ y, IntKind.i64.wrap (s.field + 100) = y := ⟨_, rfl⟩
    have hck := spoil_field Hs.out Hchk.out
    rw [hy] at hck
    have ho10 := ho9.store StepE.enc (j := 3) (u := .int .i64 y) (x' := { s with field := y }) Hs.out (by omega) rfl
    have hb10 : Below w.heap.size w (w9.setCell ⟨gW, k * 4 + 3, none⟩ (.int .i64 y)) := lw9.below.setCell (p := ⟨gW, k * 4 + 3, none⟩) hgw _
    clear em0 hr
    go_upto_region 28 with fail
    generalize w9.setCell ⟨gW, k * 4 + 3, none⟩ (.int .i64 y) = w10 at ho10 hb10 ⊢
    have lwa : Later w w10 := ⟨hb10⟩
    have laa : Later w10 w10 := Later.refl
    have hTl : (q.set k { s with field := y }).length = q.length := by rw [List.length_set]
    have hTs := ((ho10.at_ StepE.enc).2.2).later
    have HC : ∀ u [Later w10 u], Calls Tryz.prog 21 #[.slice A V.length c, .slice (some ⟨gW, 0, none⟩) q.length WC] u fun r w' => r = .returned (.bool false) ∧ Below u.heap.size u w' := fun u i => by
      haveI := lwa.trans i
      have := check_any A c V (some ⟨gW, 0, none⟩) WC (q.set k { s with field := y }) u (HV u) hf (hTs u) (by rw [hTl]; exact hql)
      unfold ChkPost at this
      rw [hck, hTl] at this
      exact this
    have HFt : ∀ u [Later w10 u], Calls Tryz.prog 22 #[.slice A V.length c, .slice (some ⟨gW, 0, none⟩) q.length WC] u fun r w' => ∃ FA FC, r = .returned (.slice FA 0 FC) ∧ Below u.heap.size u w' := fun u i => by
      haveI := lwa.trans i
      have := format_any A c V (some ⟨gW, 0, none⟩) WC (q.set k { s with field := y }) u (HV u) hf (hTs u) (by rw [hTl]; exact hql) (HT u) H.ok
      rw [hTl] at this
      refine this.mono ?_
      rintro r w' ⟨fl, FA, FC, h1, h2, -, h4⟩
      have h3 := h1.out
      rw [format_no hck] at h3
      subst h3
      exact ⟨FA, FC, h2, h4⟩
    clear hTs ho10
    go_wp2_with (first
      | (go_at_call 21; refine (HC _).mono ?_; rintro r w11 ⟨rfl, hb11⟩; have l11 := later hb11)
      | (go_at_call 22; refine (HFt _).mono ?_; rintro r w12 ⟨FA, FC, rfl, hb12⟩; have l12 := later hb12))
    go_ret
    exact ⟨rfl, below_of⟩
  · have em : (m : Int).tmod 4 = 2 := by rw [em0, hr]; rfl
    have ew : IntKind.u8.wrap 2 = 2 := by decide
    have z1 : w9.frozen? ⟨gW, k * 4 + 1, none⟩ = false := ho9.free (k * 4 + 1)
    have z2 : w9.frozen? ⟨gW, k * 4 + 2, none⟩ = false := ho9.free (k * 4 + 2)
    have e3 : w9.cell? ⟨gW, k * 4 + 1, none⟩ = some (.int .i64 s.iDMachine) := ho9.cell StepE.enc Hs.out (j := 1) rfl
    have e3b : w9.cell? ⟨gW, k * 4 + 2, none⟩ = some (.int .i64 s.iDSerial) := ho9.cell StepE.enc Hs.out (j := 2) rfl
    have hck := spoil_id (x := ⟨8, 1073741824⟩) Hs.out Hfb.out
    have hs1 : (q.set k { s with iDMachine := 8 })[k]? = some { s with iDMachine := 8 } := List.getElem?_set_self hlt
    have ho10 := (ho9.store StepE.enc (j := 1) (u := .int .i64 8) (x' := { s with iDMachine := 8 }) Hs.out (by omega) rfl).store StepE.enc (j := 2) (u := .int .i64 1073741824) (x' := { s with iDMachine := 8, iDSerial := 1073741824 }) hs1 (by omega) rfl
    rw [List.set_set] at ho10
    have hb10 : Below w.heap.size w ((w9.setCell ⟨gW, k * 4 + 1, none⟩ (.int .i64 8)).setCell ⟨gW, k * 4 + 2, none⟩ (.int .i64 1073741824)) := (lw9.below.setCell (p := ⟨gW, k * 4 + 1, none⟩) hgw _).setCell (p := ⟨gW, k * 4 + 2, none⟩) hgw _
    clear em0 hr hs1
    go_upto_region 28 with fail
    generalize (w9.setCell ⟨gW, k * 4 + 1, none⟩ (.int .i64 8)).setCell ⟨gW, k * 4 + 2, none⟩ (.int .i64 1073741824) = w10 at ho10 hb10 ⊢
    have lwa : Later w w10 := ⟨hb10⟩
    have laa : Later w10 w10 := Later.refl
    have hTl : (q.set k { s with iDMachine := 8, iDSerial := 1073741824 }).length = q.length := by rw [List.length_set]
    have hTs := ((ho10.at_ StepE.enc).2.2).later
    have HC : ∀ u [Later w10 u], Calls Tryz.prog 21 #[.slice A V.length c, .slice (some ⟨gW, 0, none⟩) q.length WC] u fun r w' => r = .returned (.bool false) ∧ Below u.heap.size u w' := fun u i => by
      haveI := lwa.trans i
      have := check_any A c V (some ⟨gW, 0, none⟩) WC (q.set k { s with iDMachine := 8, iDSerial := 1073741824 }) u (HV u) hf (hTs u) (by rw [hTl]; exact hql)
      unfold ChkPost at this
      rw [hck, hTl] at this
      exact this
    have HFt : ∀ u [Later w10 u], Calls Tryz.prog 22 #[.slice A V.length c, .slice (some ⟨gW, 0, none⟩) q.length WC] u fun r w' => ∃ FA FC, r = .returned (.slice FA 0 FC) ∧ Below u.heap.size u w' := fun u i => by
      haveI := lwa.trans i
      have := format_any A c V (some ⟨gW, 0, none⟩) WC (q.set k { s with iDMachine := 8, iDSerial := 1073741824 }) u (HV u) hf (hTs u) (by rw [hTl]; exact hql) (HT u) H.ok
      rw [hTl] at this
      refine this.mono ?_
      rintro r w' ⟨fl, FA, FC, h1, h2, -, h4⟩
      have h3 := h1.out
      rw [format_no hck] at h3
      subst h3
      exact ⟨FA, FC, h2, h4⟩
    clear hTs ho10
    go_wp2_with (first
      | (go_at_call 21; refine (HC _).mono ?_; rintro r w11 ⟨rfl, hb11⟩; have l11 := later hb11)
      | (go_at_call 22; refine (HFt _).mono ?_; rintro r w12 ⟨FA, FC, rfl, hb12⟩; have l12 := later hb12))
    go_ret
    exact ⟨rfl, below_of⟩
  · have em : (m : Int).tmod 4 = 3 := by rw [em0, hr]; rfl
    have ew : IntKind.u8.wrap 3 = 3 := by decide
    clear em0 hr
    have c1 : (1 : Int) ≤ (q.length : Int) := by omega
    have c2 : 1 ≤ q.length := by omega
    go_upto_region 26 with fail
    have hTs0 : SlAt StepE.cells 4 w9 (if WC = 1 then some ⟨gW, 0, none⟩ else some ⟨gW, 4, none⟩) (q.drop 1) := by
      obtain ⟨-, h1, h2⟩ := ho9.at_ StepE.enc
      by_cases hc : WC = 1
      · rw [if_pos hc]
        exact fun h => absurd (List.drop_eq_nil_of_le (by omega)) h
      · rw [if_neg hc]
        have := SlAt.drop h2 1
        simpa using this
    have hTl0 : (q.drop 1).length = q.length - 1 := by rw [List.length_drop]
    have hTll : (q.drop 1).length ≤ 1000 := by rw [List.length_drop]; omega
    generalize (if WC = 1 then some (⟨gW, 0, none⟩ : Addr) else some ⟨gW, 4, none⟩) = AT at hTs0 ⊢
    generalize q.drop 1 = T at hTs0 hTl0 hTll
    generalize q.length - 1 = tn at hTl0 ⊢
    generalize WC - 1 = tc
    clear ho9 c1 c2
    by_cases ht0 : tn = 0
    · subst ht0
      obtain rfl : T = [] := List.eq_nil_iff_length_eq_zero.2 hTl0
      have HC : ∀ u [Later w9 u], Calls Tryz.prog 21 #[.slice A V.length c, .slice AT 0 tc] u fun r w' => r = .returned (.bool false) ∧ Below u.heap.size u w' := fun u i => by
        haveI := lw9.trans i
        have := check_any A c V AT tc [] u (HV u) hf (hTs0.later u) (by decide)
        unfold ChkPost at this
        rw [check_nil] at this
        exact this
      have HFt : ∀ u [Later w9 u], Calls Tryz.prog 22 #[.slice A V.length c, .slice AT 0 tc] u fun r w' => ∃ FA FC, r = .returned (.slice FA 0 FC) ∧ Below u.heap.size u w' := fun u i => by
        haveI := lw9.trans i
        refine (format_any A c V AT tc [] u (HV u) hf (hTs0.later u) (by decide) (HT u) H.ok).mono ?_
        rintro r w' ⟨fl, FA, FC, h1, h2, -, h4⟩
        have h3 := h1.out
        rw [format_no check_nil] at h3
        subst h3
        exact ⟨FA, FC, h2, h4⟩
      (refine wp_region_after (by kernel_rfl) (by kernel_rfl) ?_
       repeat (any_goals (first | go_big_quiet_skip | (go_big_quiet_want; go_big_quiet_op; first | go_big_quiet_on | go_big_quiet_call (fail)) | quiet_step (fail) | (refine wpQuiet_step (fun K hK => ?_); go_simp; split <;> (refine hK _ ?_; clear hK K))))
       all_goals (refine wpQuiet_nil ?_; intro _ hw'; obtain ⟨u', hw''⟩ := hw'; subst hw''; obtain ⟨wd, hbd⟩ := u'; simp only [After.val_mk]))
      have ld := later hbd
      go_wp2_with (first
        | (go_at_call 21; refine (HC _).mono ?_; rintro r w11 ⟨rfl, hb11⟩; have l11 := later hb11)
        | (go_at_call 22; refine (HFt _).mono ?_; rintro r w12 ⟨FA, FC, rfl, hb12⟩; have l12 := later hb12))
      go_ret
      exact ⟨rfl, below_of⟩
    · have hTp : 0 < T.length := by omega
      obtain ⟨gt, ot, x, rfl, hx, C2⟩ := StepE.get hTs0 hTp
      have d1 : (0 : Int) < (tn : Int) := by omega
      have d2 : 0 < tn := by omega
      have Hx := hide hx
      have hTs := hTs0.later
      have HRt : ∀ u [Later w9 u], Calls Tryz.prog 20 #[.slice A V.length c] u (RootsPost V u) := fun u i => by haveI := lw9.trans i; exact roots_any A c V u (HV u) hf
      have Htl := hide hTl0
      clear hx hTl0 hTp hTs0
      go_region_held3 (fun w' => ∀ b [Later b w9], Later b w') ((intro b _; infer_instance))
        ((first
          | (go_at_call 19; refine (has21_any RA rc R x.id _ (hsR _) (by have := hRl; omega)).mono ?_; rintro r w11 ⟨rfl, hb11⟩; have l11 := later hb11)
          | (go_at_call 20; refine (HRt _).mono ?_; rintro r w10 ⟨R, RA, rc, hR, rfl, hoR, hb10⟩; have l10 := later hb10; have hsR : ∀ u [Later w10 u], SlAt IDE.cells 2 u RA R := fun u i => ((hoR.at_ IDE.enc).2.2).below i.below; have hRl : R.length ≤ 5000 := by (rw [hR.out]; exact roots_len hf))))
      have l9b : Later w9 w11 := ⟨below_of⟩
      have lwb : Later w w11 := lw9.trans l9b
      have lbb : Later w11 w11 := Later.refl
      obtain ⟨pin, hpin⟩ : ∃ b, decide (x.id ∈ R) = b := ⟨_, rfl⟩
      simp only [hpin]
      have Hpin := hide hpin
      clear hpin
      cases pin
      rotate_left
      · go_wp2_with fail
        go_ret
        exact ⟨rfl, below_of⟩
      have hck : checkB V T = false := spoil_root Hx.out (by rw [← hR.out]; exact of_decide_eq_false Hpin.out)
      have HC : ∀ u [Later w11 u], Calls Tryz.prog 21 #[.slice A V.length c, .slice (some ⟨gt, ot, none⟩) tn tc] u fun r w' => r = .returned (.bool false) ∧ Below u.heap.size u w' := fun u i => by
        haveI := lwb.trans i
        haveI := l9b.trans i
        have := check_any A c V (some ⟨gt, ot, none⟩) tc T u (HV u) hf (hTs u) hTll
        unfold ChkPost at this
        rw [hck, Htl.out] at this
        exact this
      have HFt : ∀ u [Later w11 u], Calls Tryz.prog 22 #[.slice A V.length c, .slice (some ⟨gt, ot, none⟩) tn tc] u fun r w' => ∃ FA FC, r = .returned (.slice FA 0 FC) ∧ Below u.heap.size u w' := fun u i => by
        haveI := lwb.trans i
        haveI := l9b.trans i
        have := format_any A c V (some ⟨gt, ot, none⟩) tc T u (HV u) hf (hTs u) hTll (HT u) H.ok
        rw [Htl.out] at this
        refine this.mono ?_
        rintro r w' ⟨fl, FA, FC, h1, h2, -, h4⟩
        have h3 := h1.out
        rw [format_no hck] at h3
        subst h3
        exact ⟨FA, FC, h2, h4⟩
      clear hTs HRt hsR
      go_wp2_with (first
        | (go_at_call 21; refine (HC _).mono ?_; rintro r w12 ⟨rfl, hb12⟩; have l12 := later hb12)
        | (go_at_call 22; refine (HFt _).mono ?_; rintro r w13 ⟨FA, FC, rfl, hb13⟩; have l13 := later hb13))
      go_ret
      exact ⟨rfl, below_of⟩
end Go.Proofs.YtpkfenlfgdbkcaaGreatDoor
