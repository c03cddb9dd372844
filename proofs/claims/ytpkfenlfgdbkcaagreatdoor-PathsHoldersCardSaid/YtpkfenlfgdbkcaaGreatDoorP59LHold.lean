/-
  Contracts of the functions of this seat that each theorem names: what a call returns, and that it writes nothing that was there before. The conditions stand in each theorem.
-/
import Derived.Test.YtpkfenlfgdbkcaaGreatDoorP59R7
import Derived.Test.YtpkfenlfgdbkcaaGreatDoorP59Open
import Derived.Test.YtpkfenlfgdbkcaaGreatDoorP59Few
set_option linter.unusedSimpArgs false
set_option linter.unusedVariables false
namespace Go.Proofs.YtpkfenlfgdbkcaaGreatDoor
open Go.RowKit
attribute [local go_sem] Oper.semAt_some Instr.makeFunc
attribute [local simp] heap_drew
attribute [local go_sem ↓] load_view_pre load_flight_pre load_msg_pre store_view_pre store_flight_pre store_msg_pre load_scion_pre store_scion_pre
attribute [local go_sem] load_view load_flight load_msg store_view store_flight store_msg load_scion store_scion view_isRow zero_isRow scion_isRow zeroS_isRow rowFree_new setRow_new view_arr0 view_arr2 view_arr3 view_arr4 view_arr5 view_arr6 view_arr9 view_arr10 flight_arr0 flight_arr1 flight_arr2 flight_arr3 flight_arr6 flight_arr7 flight_arr8 flight_arr9 flight_arr10 flight_arr11 flight_arr12 flight_arr13 flight_arr17 flight_arr18 flight_arr19 flight_arr20 flight_arr21 flight_arr22 flight_arr23 flight_arr24 flight_arr25 msg_arr0 msg_arr1 msg_arr4 msg_arr5 msg_arr6 msg_arr7 msg_arr8 msg_arr9 msg_arr10 msg_arr11 msg_arr15 msg_arr16 msg_arr17 msg_arr18 msg_arr19 msg_arr20 msg_arr21 msg_arr22 msg_arr23
attribute [local go_sem ↓] run_eql_id run_neq_id
set_option maxRecDepth 200000 in
set_option maxHeartbeats 8000000 in
theorem lawHolders_any (A : Option Addr) (c : Nat) (V : List ViewE) (id : IDE) (w : World) (hT : Tab10 w) (H : ViewsIn w A V) : Calls Tryz.prog 4 #[.slice A V.length c, id.v] w fun r w' => r = .returned (.bool true) ∧ Below w.heap.size w w' := by
  have HT := hT.later
  have HV := H.at_.later
  have HA : ∀ u [Later w u], Calls Tryz.prog 9 #[] u fun r w' => r = .returned (.bool true) ∧ Below u.heap.size u w' := fun u i => awake_any u (HT u)
  have HFw : ∀ u [Later w u], Calls Tryz.prog 10 #[.slice A V.length c] u (FewPost V u) := fun u i => few55_any A c V u (HV u) H.len
  unfold FewPost at HFw
  go_enter Tryz.func4, Tryz.ntmps4
  go_upto_region 1 with fail
  refine wp_name ?_
  intro w0 hw0
  obtain ⟨B0, l0⟩ := box1 hw0
  have l00 : Later w0 w0 := Later.refl
  have lw0 : Later w w0 := l0 w
  clear hw0
  go_upto_region 5 with (first
    | (go_at_call 9; refine (HA _).mono ?_; rintro r w1 ⟨rfl, hb1⟩; have l1 := later hb1)
    | (go_at_call 10; refine (HFw _).mono ?_; rintro r w2 ⟨b, rfl, hfw, hb2⟩; have l2 := later hb2))
  · go_ret
    exact ⟨rfl, below_of⟩
  cases b
  · exfalso; first | exact absurd ‹(!false) = false› (by decide) | exact ‹¬ (!false) = true› rfl
  have hf : FewV V := hfw rfl
  clear hfw HFw HA
  simp only [Bool.not_true]
  have HG : ∀ u [Later w u], Calls Tryz.prog 15 #[.slice A V.length c] u (GraphPost V u) := fun u i => graph_any A c V u (HV u) hf
  have HH : ∀ u [Later w u], Calls Tryz.prog 14 #[.slice A V.length c, id.v] u (HoldPost V id u) := fun u i => holders_any A c V id u (HV u) hf
  unfold GraphPost at HG
  unfold HoldPost at HH
  obtain ⟨ge, hge⟩ : ∃ n, (graphV V).2 = n := ⟨_, rfl⟩
  rw [hge] at HG
  have Hge := hide hge
  clear hge
  have hHl : (holdersV V id).length ≤ 1000 := by
    unfold holdersV
    split
    · simp
    · rw [List.length_map]; exact Nat.le_trans (List.length_filter_le _ _) (graph_len hf)
  go_upto_region 6 with (go_at_call 14; refine (HH _).mono ?_; rintro r w3 ⟨q, QA, QC, hq, rfl, hoq, hb3⟩; have l3 := later hb3)
  have lw3 : Later w w3 := ⟨below_of⟩
  have l03 : Later w0 w3 := ⟨below_of⟩
  have l33 : Later w3 w3 := Later.refl
  obtain ⟨-, -, hqs⟩ := hoq.at_ StepE.enc
  have HQ := hqs.later
  have hql : q.length ≤ 1000 := by rw [hq.out]; exact hHl
  clear hqs hoq HH
  go_upto_region 7 with (go_at_call 15; refine (HG _).mono ?_; rintro r w4 ⟨o, GA, gc, ho, rfl, hog, hb4⟩; have l4 := later hb4)
  refine wp_name ?_
  intro w5 hw5
  have b6 : w5.heap[w4.heap.size]? = some (.cells #[.slice GA o.length gc] 36 (0, 0)) := (by rw [← hw5]; simp only [heap_alloc_if, World.size_alloc]; repeat (first | rw [if_pos trivial] | rw [if_neg (by omega)] | rw [if_pos (by omega)]); try rfl)
  have hb45 : Below w4.heap.size w4 w5 := by rw [← hw5]; exact (by repeat (first | with_reducible exact Below.refl _ _ | (with_reducible refine Below.drew ?_) | (with_reducible refine below_drewN ?_ _) | (with_reducible refine Below.alloc ?_ ?_ _; rotate_left; (first | omega | (simp <;> omega))) | (with_reducible refine Below.setCell ?_ ?_ _; rotate_left; (first | omega | (simp <;> omega)))))
  clear hw5
  have l34 : Later w3 w4 := ⟨below_of⟩
  have l35 : Later w3 w5 := ⟨l34.below.trans (hb45.mono l34.below.size)⟩
  have l05 : Later w0 w5 := l03.trans l35
  have lw5 : Later w w5 := lw3.trans l35
  have B6 := boxed b6
  have hN := (hog.nodes.below hb45)
  have l55 : Later w5 w5 := Later.refl
  have hoc : (conL o).length = o.length := by unfold conL; rw [List.length_map]
  have hol : o.length ≤ 1000 := by rw [← hoc, ho.out]; exact graph_len hf
  have hofl : ∀ n ∈ o, n.fields.length ≤ 1000 := fun n hn => by
    have : n.con.fields.length ≤ 30 := graph_fields (V := V) (by rw [← ho.out]; exact List.mem_map.2 ⟨n, hn, rfl⟩)
    show n.con.fields.length ≤ 1000
    omega
  clear hoc b6 hog HG
  by_cases hg0 : ge = 0
  rotate_left
  · have hgi : ((ge : Int) != 0) = true := by rw [bne_iff_ne]; omega
    have hq0 : ((q.length : Int) == 0) = true := by
      have : q.length = 0 := by rw [hq.out]; unfold holdersV; rw [Hge.out, if_pos hg0]; rfl
      rw [this]; rfl
    go_wp2_with fail
    go_ret
    exact ⟨rfl, below_of⟩
  have hgi : ((ge : Int) != 0) = false := by rw [hg0]; rfl
  have hg : (graphV V).2 = 0 := by rw [Hge.out, hg0]
  subst hg0
  have HgH := hide hg
  clear hg
  simp only [show (((0 : Nat) : Int)) = 0 from rfl] at hgi ⊢
  go_wp2_with fail
  go_loopw [8, 32] (fun cv iv wr => ∃ (k n : Nat), k ≤ o.length ∧ iv = .int .i64 k ∧ cv = .int .i64 n ∧ Hid (n = ((conL (o.take k)).filter (rholdsB id)).length) ∧ Hid (n ≤ k) ∧ Below w5.heap.size w5 wr) (fun _ iv _ => o.length - (intOf iv).toNat)
  case atStart => exact ⟨0, 0, by omega, rfl, rfl, hide (by simp [conL]), hide (Nat.le_refl _), Below.refl _ _⟩
  case round =>
    obtain ⟨k, cn, hk, rfl, rfl, hcn, hck, hbr⟩ := hrel
    have lr := later hbr
    have lrr : Later wr wr := Later.refl
    have l5r : Later w5 wr := ⟨hbr⟩
    have l0r : Later w0 wr := l05.trans l5r
    have lwr : Later w wr := lw5.trans l5r
    have l3r : Later w3 wr := l35.trans l5r
    by_cases hlt : k < o.length
    rotate_left
    · have hk' : k = o.length := by omega
      subst hk'
      have hqn : q.length = cn := by
        rw [hcn.out, List.take_length, ho.out, hq.out, ← rholders_eq HgH.out]
        unfold rholdersV
        rw [List.length_map]
      have hqb : ((q.length : Int) == (cn : Int)) = true := by rw [hqn]; exact beq_self_eq_true _
      have HRh : ∀ u [Later w u], Calls Tryz.prog 17 #[.slice A V.length c, id.v] u fun r w' => ∃ A2 c2, r = .returned (.slice A2 q.length c2) ∧ SlAt StepE.cells 4 w' A2 q ∧ Below u.heap.size u w' := fun u i => by
        refine (refHolders_any A c V id u (HV u) hf HgH.out).mono ?_
        rintro r w' ⟨q2, A2, c2, h1, h2, h3, h4⟩
        have h5 : q2 = q := by rw [h1.out, rholders_eq HgH.out, hq.out]
        subst h5
        exact ⟨A2, c2, h2, h3, h4⟩
      have HQr : ∀ u [Later wr u], SlAt StepE.cells 4 u QA q := fun u i => by haveI := l3r.trans i; exact HQ u
      clear hqn
      go_wp2_with (first
        | (go_at_call 17; refine (HRh _).mono ?_; rintro r w6 ⟨A2, c2, rfl, hs2, hb6⟩; have l6 := later hb6; have hs26 := hs2.later)
        | (go_at_call 13; refine (exSame (n := q.length) (a := q) rfl (HQr _) (hs26 _) hql).mono ?_; rintro r w7 ⟨rfl, hb7⟩; have l7 := later hb7))
      go_ret
      exact ⟨rfl, below_of⟩
    obtain ⟨gx, ox, n, rfl, hn, NC, NF, -⟩ := hN.get hlt
    have hki : (k : Int) < (o.length : Int) := by omega
    have hT := hide (take_snoc_get hn)
    have hnl := hofl n (List.mem_of_getElem? hn)
    clear hn
    have HFd : ∀ u [Later w5 u], Calls Tryz.prog 16 #[n.v, id.v] u fun r w' => r = .returned (.int .i64 (rFieldN n.con id)) ∧ Below u.heap.size u w' := fun u i => refField_any n id u (NF u) (by omega)
    obtain ⟨fd, hfd⟩ : ∃ z, rFieldN n.con id = z := ⟨_, rfl⟩
    rw [hfd] at HFd
    have hcon : conL (o.take (k + 1)) = conL (o.take k) ++ [n.con] := by rw [hT.out]; unfold conL; rw [List.map_append]; rfl
    have hB : rholdsB id n.con = decide (0 ≤ fd) := by unfold rholdsB; rw [hfd]
    have hcn2 := hide (show ((conL (o.take (k + 1))).filter (rholdsB id)).length = cn + (if 0 ≤ fd then 1 else 0) by
      rw [hcon, List.filter_append, List.length_append, ← hcn.out, List.filter_cons, hB]
      by_cases h : 0 ≤ fd
      · rw [decide_eq_true h, if_pos h]; rfl
      · rw [decide_eq_false h, if_neg h]; rfl)
    have hck2 : cn ≤ 1000 := by have := hck.out; omega
    clear hcon hB hfd
    by_cases hfd0 : 0 ≤ fd
    · have hwr : IntKind.i64.wrap ((cn : Int) + 1) = (cn : Int) + 1 := by rw [IntKind.wrap_i64]; omega
      go_wp2_with (go_at_call 16; refine (HFd _).mono ?_; rintro r w6 ⟨rfl, hb6⟩; have l6 := later hb6)
      go_roundw
      case rel => exact ⟨k + 1, cn + 1, by omega, by go_num, by go_num, hide (by rw [hcn2.out, if_pos hfd0]), hide (by have := hck.out; omega), below_of⟩
      case measure => simp [intOf]; omega
    · have hfdb : fd < 0 := by omega
      go_wp2_with (go_at_call 16; refine (HFd _).mono ?_; rintro r w6 ⟨rfl, hb6⟩; have l6 := later hb6)
      go_roundw
      case rel => exact ⟨k + 1, cn, by omega, by go_num, rfl, hide (by rw [hcn2.out, if_neg (by omega), Nat.add_zero]), hide (by have := hck.out; omega), below_of⟩
      case measure => simp [intOf]; omega
end Go.Proofs.YtpkfenlfgdbkcaaGreatDoor
