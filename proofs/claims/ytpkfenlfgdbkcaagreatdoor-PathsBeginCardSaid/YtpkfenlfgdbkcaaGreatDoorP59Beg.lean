/-
  Contracts of the functions of this seat that each theorem names: what a call returns, and that it writes nothing that was there before. The conditions stand in each theorem.
-/
import Derived.Test.YtpkfenlfgdbkcaaGreatDoorGrp42
import Derived.Test.YtpkfenlfgdbkcaaGreatDoorP59Open
import Derived.Test.YtpkfenlfgdbkcaaGreatDoorP59Few
set_option linter.unusedSimpArgs false
set_option linter.unusedVariables false
namespace Go.Proofs.YtpkfenlfgdbkcaaGreatDoor
open Go.RowKit
attribute [local go_sem] Oper.semAt_some Instr.makeFunc
attribute [local simp] heap_drew
attribute [local go_sem ↓] load_view_pre load_flight_pre load_msg_pre store_view_pre store_flight_pre store_msg_pre load_scion_pre store_scion_pre
attribute [local go_sem] load_view load_flight load_msg store_view store_flight store_msg load_scion store_scion view_isRow zero_isRow scion_isRow zeroS_isRow rowFree_new setRow_new view_arr0 view_arr2 view_arr3 view_arr4 view_arr5 view_arr6 view_arr9 view_arr10 flight_arr0 flight_arr1 flight_arr2 flight_arr3 flight_arr6 flight_arr7 flight_arr8 flight_arr9 flight_arr10 flight_arr11 flight_arr12 flight_arr13 flight_arr17 flight_arr18 flight_arr19 flight_arr20 flight_arr21 flight_arr22 flight_arr23 flight_arr24 flight_arr25 msg_arr0 msg_arr1 msg_arr4 msg_arr5 msg_arr6 msg_arr7 msg_arr8 msg_arr9 msg_arr10 msg_arr11 msg_arr15 msg_arr16 msg_arr17 msg_arr18 msg_arr19 msg_arr20 msg_arr21 msg_arr22 msg_arr23
attribute [local go_sem ↓] run_eql_id run_neq_id
theorem slAt_take {α : Type} {f : α → List Value} {s : Nat} {w : World} {A : Option Addr} {l : List α} (h : SlAt f s w A l) (n : Nat) : SlAt f s w A (l.take n) := fun hn => by
  obtain ⟨b, o, hA, hb, hc⟩ := h (by intro e; rw [e] at hn; simp at hn)
  refine ⟨b, o, hA, hb, fun k x hk j v hj => hc k x ?_ j v hj⟩
  rw [List.getElem?_take] at hk
  split at hk
  · exact hk
  · cases hk
set_option maxRecDepth 200000 in
set_option maxHeartbeats 8000000 in
theorem lawBegin_any (A : Option Addr) (c : Nat) (V : List ViewE) (id : IDE) (w : World) (hT : Tab10 w) (H : ViewsIn w A V) : Calls Tryz.prog 5 #[.slice A V.length c, id.v] w fun r w' => r = .returned (.bool true) ∧ Below w.heap.size w w' := by
  have HT := hT.later
  have HV := H.at_.later
  have HA : ∀ u [Later w u], Calls Tryz.prog 9 #[] u fun r w' => r = .returned (.bool true) ∧ Below u.heap.size u w' := fun u i => awake_any u (HT u)
  have HFw : ∀ u [Later w u], Calls Tryz.prog 10 #[.slice A V.length c] u (FewPost V u) := fun u i => few55_any A c V u (HV u) H.len
  unfold FewPost at HFw
  go_enter Tryz.func5, Tryz.ntmps5
  go_upto_region 1 with fail
  refine wp_name ?_
  intro w0 hw0
  obtain ⟨B0, l0⟩ := box1 hw0
  have l00 : Later w0 w0 := Later.refl
  have lw0 : Later w w0 := l0 w
  clear hw0
  go_upto_region 5 with (first
    | (go_at_call 9; refine (HA _).mono ?_; rintro r w1 ⟨rfl, hb1⟩; have l1 := later hb1)
    | (go_at_call 10; refine (HFw _).mono ?_; rintro r w2 ⟨b, rfl, hfw, hb2⟩; have l2 := later hb2))
  · go_ret
    exact ⟨rfl, below_of⟩
  cases b
  · exfalso; first | exact absurd ‹(!false) = false› (by decide) | exact ‹¬ (!false) = true› rfl
  have hf : FewV V := hfw rfl
  clear hfw HFw HA
  simp only [Bool.not_true]
  have HP : ∀ u [Later w u], Calls Tryz.prog 11 #[.slice A V.length c, id.v] u (PathPost V id u) := fun u i => path_any A c V id u (HV u) hf
  unfold PathPost at HP
  obtain ⟨pe, hpe⟩ : ∃ n, (pathV V id).2 = n := ⟨_, rfl⟩
  rw [hpe] at HP
  have Hpe := hide hpe
  clear hpe
  go_upto_region 6 with (go_at_call 11; refine (HP _).mono ?_; rintro r w3 ⟨q, QA, QC, hq, rfl, hoq, hb3⟩; have l3 := later hb3)
  have lw3 : Later w w3 := ⟨below_of⟩
  have l33 : Later w3 w3 := Later.refl
  obtain ⟨hqc, hqm, hqs⟩ := hoq.at_ StepE.enc
  have HQ := hqs.later
  have hql : q.length ≤ 1000 := by rw [hq.out]; exact path_short hf
  have hl' : q.length ≤ 9223372036854775807 := by omega
  clear hqs hoq HP B0
  go_wp2_with fail
  go_loopw [24] (fun iv wr => ∃ k : Nat, k ≤ q.length ∧ iv = .int .i64 k ∧ Below w3.heap.size w3 wr) (fun iv _ => q.length - (intOf iv).toNat)
  case atStart => exact ⟨0, by omega, rfl, Below.refl _ _⟩
  case round =>
    obtain ⟨k, hk, rfl, hbr⟩ := hrel
    have lr := later hbr
    have l3r : Later w3 wr := ⟨hbr⟩
    have lwr : Later w wr := lw3.trans l3r
    have lrr : Later wr wr := Later.refl
    by_cases hlt : k < q.length
    · have hki : (k : Int) < (q.length : Int) := by omega
      obtain ⟨gs, os, s, rfl, hs, C1⟩ := StepE.get (HQ wr) hlt
      have hL := begin_law (show (pathV V id).1[k]? = some s by rw [← hq.out]; exact hs)
      rw [← hq.out] at hL
      have HPs : ∀ u [Later wr u], Calls Tryz.prog 11 #[.slice A V.length c, .agg #[.int .i64 s.iDMachine, .int .i64 s.iDSerial]] u fun r w' => ∃ q2 A2 c2, Hid (q2 = (q.take (k + 1)).set k { s with field := -1 }) ∧ r = .returned (.tuple #[.slice A2 q2.length c2, .int .i64 0]) ∧ SlAt StepE.cells 4 w' A2 q2 ∧ Below u.heap.size u w' := fun u i => by
        haveI := lwr.trans i
        refine (path_any A c V ⟨s.iDMachine, s.iDSerial⟩ u (HV u) hf).mono ?_
        rintro r w' ⟨q2, A2, c2, h1, h2, h3, h4⟩
        rw [hL] at h1 h2
        exact ⟨q2, A2, c2, h1, h2, (h3.at_ StepE.enc).2.2, h4⟩
      obtain ⟨t, ht⟩ : ∃ t, t = q.take (k + 1) := ⟨_, rfl⟩
      have htl : t.length = k + 1 := by rw [ht, List.length_take]; omega
      have hsl : ∀ u [Later w3 u], SlAt StepE.cells 4 u (some ⟨gs, os, none⟩) t := fun u i => by rw [ht]; exact slAt_take (HQ u) _
      have hts : t[k]? = some s := by rw [ht, List.getElem?_take, if_pos (by omega)]; exact hs
      rw [← ht] at HPs
      have Htl := hide htl
      have Hts := hide hts
      have hwr : IntKind.i64.wrap ((k : Int) + 1) = (k : Int) + 1 := by rw [IntKind.wrap_i64]; omega
      have c1 : (k : Int) + 1 ≤ (QC : Int) := by omega
      have c2 : (0 : Int) ≤ (k : Int) + 1 := by omega
      have c3 : k + 1 ≤ QC := by omega
      have c4 : k < QC := by omega
      clear hL ht htl hts hs
      go_upto_region 10 with (go_at_call 11; refine (HPs _).mono ?_; rintro r w4 ⟨q2, A2, c2, hq2, rfl, hs2, hb4⟩; have l4 := later hb4)
      have l34 : Later w3 w4 := ⟨below_of⟩
      have hsl4 := hsl w4
      have l44 : Later w4 w4 := Later.refl
      go_upto_region 11 with (at_builtin; refine wpList_appE rfl (.tmp 37) (.tmp 41) rfl StepE.enc stepT _ _ t rfl (by rw [Htl.out]; rfl) (hsl _) (by rw [Htl.out]; omega) (by rw [Htl.out]; unfold maxLen; omega) ?_; intro WA WC w5 ho5 hm5 hb5; have l5 := later hb5)
      have l45 : Later w4 w5 := ⟨below_of⟩
      have lw5 : Later w w5 := ⟨below_of⟩
      have l35 : Later w3 w5 := ⟨below_of⟩
      have l55 : Later w5 w5 := Later.refl
      obtain ⟨gW, rfl⟩ := ho5.isSome (by intro e; have := Htl.out; rw [e] at this; simp at this)
      have hjl : (k : Int) < (t.length : Int) := by rw [Htl.out]; omega
      have hnq : k < t.length := by rw [Htl.out]; omega
      have hj0 : (0 : Int) ≤ (k : Int) := by omega
      have e3 := ho5.cell StepE.enc Hts.out (j := 3) rfl
      have z3 := ho5.free (k * 4 + 3)
      have hgb := ho5.base_le
      have ho9 := ho5.store StepE.enc (j := 3) (u := .int .i64 (-1)) (x' := { s with field := -1 }) Hts.out (by omega) rfl
      have hgw : w4.heap.size ≤ gW := by have := (show Later w4 _ from l45).below.size; first | omega | exact Nat.le_trans (by first | exact below_of.size | omega) hgb
      have hq9 : (t.set k { s with field := -1 }).length = t.length := by rw [List.length_set]
      have hb49 : Below w4.heap.size w4 (w5.setCell ⟨gW, k * 4 + 3, none⟩ (.int .i64 (-1))) := l45.below.setCell (p := ⟨gW, k * 4 + 3, none⟩) hgw _
      go_upto_region 12 with fail
      generalize w5.setCell ⟨gW, k * 4 + 3, none⟩ (.int .i64 (-1)) = w9 at ho9 hb49 ⊢
      have l49 : Later w4 w9 := ⟨hb49⟩
      have l39 : Later w3 w9 := l34.trans l49
      have lw9 : Later w w9 := lw3.trans l39
      have l99 : Later w9 w9 := Later.refl
      have hW9 := ((ho9.at_ StepE.enc).2.2).later
      have hQ2 := (hs2.below hb49).later
      have hS : ∀ u [Later w9 u], Calls Tryz.prog 13 #[.slice A2 q2.length c2, .slice (some ⟨gW, 0, none⟩) t.length WC] u fun r u' => r = .returned (.bool true) ∧ Below u.heap.size u u' := fun u i => by
        have := same59_any A2 c2 q2 (some ⟨gW, 0, none⟩) WC (t.set k { s with field := -1 }) u (hQ2 u) (hW9 u) (by rw [hq2.out, hq9, Htl.out]; omega) (by rw [hq9, Htl.out]; omega)
        rw [hq9, decide_eq_true hq2.out] at this
        exact this
      clear e3 z3 hW9 hQ2 ho9 HPs ho5
      go_wp2_with (go_at_call 13; refine (hS _).mono ?_; rintro r w10 ⟨rfl, hb10⟩; have l10 := later hb10)
      go_roundw
      case rel => exact ⟨k + 1, by omega, by go_num, below_of⟩
      case measure => simp [intOf]; omega
    · have hk' : k = q.length := by omega
      subst hk'
      by_cases hp0 : pe = 0
      · subst hp0
        have hpos : 0 < q.length := by rw [hq.out]; exact path_pos Hpe.out
        have hpi : (0 : Int) < (q.length : Int) := by omega
        go_wp2_with fail
        go_ret
        exact ⟨rfl, below_of⟩
      · have hpb : ((pe : Int) != 0) = true := by rw [bne_iff_ne]; omega
        go_wp2_with fail
        go_ret
        exact ⟨rfl, below_of⟩
end Go.Proofs.YtpkfenlfgdbkcaaGreatDoor
