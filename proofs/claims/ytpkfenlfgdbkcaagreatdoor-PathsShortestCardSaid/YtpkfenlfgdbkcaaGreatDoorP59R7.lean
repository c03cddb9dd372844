/-
  Contracts of the functions of this seat that each theorem names: what a call returns, and that it writes nothing that was there before. The conditions stand in each theorem.
-/
import Derived.Test.YtpkfenlfgdbkcaaGreatDoorP59R6
import Derived.Test.YtpkfenlfgdbkcaaGreatDoorP59NearPlain
import Derived.Test.YtpkfenlfgdbkcaaGreatDoorGrp44
import Derived.Deep.RegionHeld3
set_option linter.unusedSimpArgs false
set_option linter.unusedVariables false
namespace Go.Proofs.YtpkfenlfgdbkcaaGreatDoor
open Go.RowKit
attribute [local go_sem] Oper.semAt_some Instr.makeFunc
attribute [local simp] heap_drew
attribute [local go_sem ↓] load_view_pre load_flight_pre load_msg_pre store_view_pre store_flight_pre store_msg_pre load_scion_pre store_scion_pre
attribute [local go_sem] load_view load_flight load_msg store_view store_flight store_msg load_scion store_scion view_isRow zero_isRow scion_isRow zeroS_isRow rowFree_new setRow_new view_arr0 view_arr2 view_arr3 view_arr4 view_arr5 view_arr6 view_arr9 view_arr10 flight_arr0 flight_arr1 flight_arr2 flight_arr3 flight_arr6 flight_arr7 flight_arr8 flight_arr9 flight_arr10 flight_arr11 flight_arr12 flight_arr13 flight_arr17 flight_arr18 flight_arr19 flight_arr20 flight_arr21 flight_arr22 flight_arr23 flight_arr24 flight_arr25 msg_arr0 msg_arr1 msg_arr4 msg_arr5 msg_arr6 msg_arr7 msg_arr8 msg_arr9 msg_arr10 msg_arr11 msg_arr15 msg_arr16 msg_arr17 msg_arr18 msg_arr19 msg_arr20 msg_arr21 msg_arr22 msg_arr23
attribute [local go_sem ↓] run_eql_id run_neq_id
theorem findIdx_congr {α : Type} {p q : α → Bool} : ∀ {l : List α}, (∀ y ∈ l, p y = q y) → l.findIdx? p = l.findIdx? q
  | [], _ => rfl
  | y :: l, h => by
    rw [List.findIdx?_cons, List.findIdx?_cons, h y List.mem_cons_self, findIdx_congr (l := l) fun z hz => h z (List.mem_cons_of_mem _ hz)]
theorem rfield_eq {V : List ViewE} {n : NodeC} (hn : n ∈ (graphV V).1) (x : IDE) : rFieldN n x = fieldN n x := by
  unfold rFieldN fieldN
  split
  · rfl
  · unfold idxOf
    rw [findIdx_congr (q := fun y => decide (y = refV x)) fun y hy => ?_]
    unfold isRefTo
    by_cases h : y = refV x
    · rw [decide_eq_true h, h]
      show ((2 : Int) == 2 && decide ((refV x).ref = x)) = true
      rw [decide_eq_true (refV_kind x).2]
      rfl
    · rw [decide_eq_false h]
      cases hk : y.kind == 2
      · rfl
      · have hk2 : y.kind = 2 := by simpa using hk
        have h2 := val_ref hn hy hk2
        rw [decide_eq_false (fun e => h (by rw [h2, e])), Bool.and_false]
def rholdsB (id : IDE) (n : NodeC) : Bool := decide (0 ≤ rFieldN n id)
def rholdersV (V : List ViewE) (id : IDE) : List StepE := ((graphV V).1.filter (rholdsB id)).map fun n => rstepV V (graphV V).1 n.id id
theorem filter_congr' {α : Type} {p q : α → Bool} : ∀ {l : List α}, (∀ y ∈ l, p y = q y) → l.filter p = l.filter q
  | [], _ => rfl
  | y :: l, h => by
    rw [List.filter_cons, List.filter_cons, h y List.mem_cons_self, filter_congr' (l := l) fun z hz => h z (List.mem_cons_of_mem _ hz)]
theorem rholders_eq {V : List ViewE} {id : IDE} (hg : (graphV V).2 = 0) : rholdersV V id = holdersV V id := by
  unfold rholdersV holdersV
  rw [if_neg (fun h => h hg), filter_congr' (q := holdsB id) fun n hn => by unfold rholdsB holdsB; rw [rfield_eq hn]]
  refine List.map_congr_left fun n hn => ?_
  have hm := (List.mem_filter.1 hn).1
  unfold rstepV stepV
  rw [graph_first hm]
  show (⟨_, _, _, rFieldN n id⟩ : StepE) = ⟨_, _, _, fieldN n id⟩
  rw [rfield_eq hm]
theorem below_stepA {α : Type} {f : α → List Value} {s : Nat} {e : TypeId} {w0 W w9 : World} {v v' : Value} {base : Nat} {l : List α} (ho : Own f s e base W v l) (hs : Step W w9 v v') (hb : Below base w0 W) (hz : base ≤ W.heap.size) : Below base w0 w9 :=
  hb.grown hs.1 hz (fun j hj => (World.ownsRow.lt ho j hj).1)
def RHoldPost (V : List ViewE) (id : IDE) (w : World) (r : Ending) (w' : World) : Prop := ∃ q A c, Hid (q = rholdersV V id) ∧ r = .returned (.slice A q.length c) ∧ SlAt StepE.cells 4 w' A q ∧ Below w.heap.size w w'
set_option maxRecDepth 200000 in
set_option maxHeartbeats 8000000 in
theorem refHolders_any (A : Option Addr) (c : Nat) (V : List ViewE) (id : IDE) (w : World) (H : ViewsAt w A V) (hf : FewV V) (hg : (graphV V).2 = 0) :
    Calls Tryz.prog 17 #[.slice A V.length c, id.v] w (RHoldPost V id w) := by
  have HV := H.later
  have HG : ∀ u [Later w u], Calls Tryz.prog 28 #[.slice A V.length c] u (RGraphPost V u) := fun u i => refGraph_any A c V u (HV u) hf
  unfold RGraphPost at HG
  rw [hg] at HG
  have Hg := hide hg
  clear hg
  go_enter Tryz.func17, Tryz.ntmps17
  go_upto_region 1 with fail
  refine wp_name ?_
  intro w0 hw0
  obtain ⟨B0, l0⟩ := box1 hw0
  have l00 : Later w0 w0 := Later.refl
  have lw0 : Later w w0 := l0 w
  clear hw0
  go_upto_region 2 with (go_at_call 28; refine (HG _).mono ?_; rintro r w1 ⟨o, GA, gc, ho, rfl, hog, hb1⟩; have l1 := later hb1)
  refine wp_name ?_
  intro w2 hw2
  have b5 : w2.heap[w1.heap.size]? = some (.cells #[.slice GA o.length gc] 36 (0, 0)) := (by rw [← hw2]; simp only [heap_alloc_if, World.size_alloc]; repeat (first | rw [if_pos trivial] | rw [if_neg (by omega)] | rw [if_pos (by omega)]); try rfl)
  have hb12 : Below w1.heap.size w1 w2 := by rw [← hw2]; exact (by repeat (first | with_reducible exact Below.refl _ _ | (with_reducible refine Below.drew ?_) | (with_reducible refine below_drewN ?_ _) | (with_reducible refine Below.alloc ?_ ?_ _; rotate_left; (first | omega | (simp <;> omega))) | (with_reducible refine Below.setCell ?_ ?_ _; rotate_left; (first | omega | (simp <;> omega)))))
  clear hw2
  have l01 : Later w0 w1 := ⟨below_of⟩
  have l02 : Later w0 w2 := ⟨l01.below.trans (hb12.mono l01.below.size)⟩
  have lw2 : Later w w2 := lw0.trans l02
  have B5 := boxed b5
  have hN := hog.below hb12
  have l22 : Later w2 w2 := Later.refl
  have hoc : (conL o).length = o.length := by unfold conL; rw [List.length_map]
  have hol : o.length ≤ 1000 := by rw [← hoc, ho.out]; exact graph_len hf
  have hofl : ∀ n ∈ o, n.fields.length ≤ 1000 := fun n hn => by
    have : n.con.fields.length ≤ 30 := graph_fields (V := V) (by rw [← ho.out]; exact List.mem_map.2 ⟨n, hn, rfl⟩)
    show n.con.fields.length ≤ 1000
    omega
  clear hoc b5 hog HG
  obtain ⟨g5, h5⟩ : ∃ z, z = w1.heap.size := ⟨_, rfl⟩
  rw [← h5] at B5 ⊢
  clear h5
  obtain ⟨g3, h3⟩ : ∃ z, z = w.heap.size := ⟨_, rfl⟩
  rw [← h3] at B0 ⊢
  have H3 := hide h3
  clear h3
  go_upto_region 3 with fail
  refine wp_name ?_
  intro w3 hw3
  have b9 : w3.heap[w2.heap.size]? = some (.cells #[] 44 (0, 0)) := (by rw [← hw3]; simp only [heap_alloc_if, World.size_alloc]; repeat (first | rw [if_pos trivial] | rw [if_neg (by omega)] | rw [if_pos (by omega)]); try rfl)
  have hb3 : Below w2.heap.size w2 w3 := by rw [← hw3]; exact (by repeat (first | with_reducible exact Below.refl _ _ | (with_reducible refine Below.drew ?_) | (with_reducible refine below_drewN ?_ _) | (with_reducible refine Below.alloc ?_ ?_ _; rotate_left; (first | omega | (simp <;> omega))) | (with_reducible refine Below.setCell ?_ ?_ _; rotate_left; (first | omega | (simp <;> omega)))))
  clear hw3
  have l33 : Later w3 w3 := Later.refl
  have ho3 : Own StepE.cells 4 44 w2.heap.size w3 (.slice (some ⟨w2.heap.size, 0, none⟩) 0 0) ([] : List StepE) := Own.empty_blk (Nat.le_refl _) b9
  go_wp2_with fail
  go_loopw [7, 8] (fun ov iv wr => ∃ (k : Nat) (q : List StepE) (QA : Option Addr) (QC : Nat), k ≤ o.length ∧ iv = .int .i64 k ∧ ov = .slice QA q.length QC ∧ Hid (q = ((conL (o.take k)).filter (rholdsB id)).map fun n => rstepV V (conL o) n.id id) ∧ Hid (q.length ≤ k) ∧ Own StepE.cells 4 44 w2.heap.size wr (.slice QA q.length QC) q ∧ Below w2.heap.size w2 wr) (fun _ iv _ => o.length - (intOf iv).toNat)
  case atStart => exact ⟨0, [], some ⟨w2.heap.size, 0, none⟩, 0, by omega, rfl, rfl, hide (by simp [conL]), hide (Nat.le_refl _), ho3, hb3⟩
  clear ho3 hb3 b9
  case round =>
    obtain ⟨k, q, QA, QC, hk, rfl, rfl, hq, hqn, hown, hbr⟩ := hrel
    have lrr : Later wr wr := Later.refl
    have l2r : Later w2 wr := ⟨hbr⟩
    have l0r : Later w0 wr := l02.trans l2r
    have lwr : Later w wr := lw2.trans l2r
    have hql : q.length ≤ 1000 := by have := hqn.out; omega
    by_cases hlt : k < o.length
    rotate_left
    · have hk' : k = o.length := by omega
      subst hk'
      rw [List.take_length] at hq
      have hp := hide (show q = rholdersV V id by unfold rholdersV; rw [hq.out, ho.out])
      go_wp2_with fail
      go_ret
      exact ⟨q, QA, QC, hp, rfl, (hown.at_ StepE.enc).2.2, lwr.below⟩
    obtain ⟨gx, ox, n, rfl, hn, NC, NF, -⟩ := hN.get hlt
    have hki : (k : Int) < (o.length : Int) := by omega
    have hT := hide (take_snoc_get hn)
    have hnl := hofl n (List.mem_of_getElem? hn)
    clear hn
    have HFd : ∀ u [Later w2 u], Calls Tryz.prog 16 #[n.v, id.v] u fun r w' => r = .returned (.int .i64 (rFieldN n.con id)) ∧ Below u.heap.size u w' := fun u i => refField_any n id u (NF u) (by omega)
    have hst : ∀ u [Later w2 u], Calls Tryz.prog 32 #[.slice A V.length c, .agg #[.slice (some ⟨gx, ox, none⟩) o.length gc], n.con.id.v, id.v, .bool false] u fun r w' => r = .returned (rstepV V (conL o) n.con.id id).v ∧ Below u.heap.size u w' := fun u i => by
      haveI := lw2.trans i
      exact refStep_any A c V (some ⟨gx, ox, none⟩) gc o n.con.id id u (HV u) hf (hN.later u) hol hofl
    obtain ⟨val, hval⟩ : ∃ z, rstepV V (conL o) n.con.id id = z := ⟨_, rfl⟩
    rw [hval] at hst
    obtain ⟨fd, hfd⟩ : ∃ z, rFieldN n.con id = z := ⟨_, rfl⟩
    rw [hfd] at HFd
    have hcon : conL (o.take (k + 1)) = conL (o.take k) ++ [n.con] := by rw [hT.out]; unfold conL; rw [List.map_append]; rfl
    have hB : rholdsB id n.con = decide (0 ≤ fd) := by unfold rholdsB; rw [hfd]
    by_cases hfd0 : 0 ≤ fd
    rotate_left
    · have hq' := hide (show q = ((conL (o.take (k + 1))).filter (rholdsB id)).map fun n => rstepV V (conL o) n.id id by
        rw [hcon, List.filter_append, List.map_append, ← hq.out, List.filter_cons, hB, decide_eq_false hfd0]
        simp)
      clear hcon hB hval hfd
      go_upto_region 6 with fail
      (refine wp_region_after (by kernel_rfl) (by kernel_rfl) ?_
       repeat (any_goals (first | go_big_quiet_skip | (go_big_quiet_want; go_big_quiet_op; first | go_big_quiet_on | go_big_quiet_call ((go_at_call 16; exact Calls.after (HFd _)))) | quiet_step ((go_at_call 16; exact Calls.after (HFd _))) | (refine wpQuiet_step (fun K hK => ?_); go_simp; split <;> (refine hK _ ?_; clear hK K))))
       all_goals (refine wpQuiet_nil ?_; intro _ hw'; obtain ⟨u', hw''⟩ := hw'; subst hw''; obtain ⟨wd, hbd⟩ := u'; simp only [After.val_mk]))
      have ld := later hbd
      have hbrd : Below wr.heap.size wr wd := below_of
      have hfdb : fd < 0 := by omega
      go_wp2_with fail
      go_roundw
      case rel => exact ⟨k + 1, q, QA, QC, by omega, by go_num, rfl, hq', hide (by have := hqn.out; omega), hown.below hbrd, hbr.trans (hbrd.mono hbr.size)⟩
      case measure => simp [intOf]; omega
    have hq' := hide (show q ++ [val] = ((conL (o.take (k + 1))).filter (rholdsB id)).map fun n => rstepV V (conL o) n.id id by
      rw [hcon, List.filter_append, List.map_append, ← hq.out, List.filter_cons, hB, decide_eq_true hfd0]
      simp [hval])
    clear hcon hB hval hfd
    go_upto_region 6 with fail
    (refine wp_region_after (by kernel_rfl) (by kernel_rfl) ?_
     repeat (any_goals (first | go_big_quiet_skip | (go_big_quiet_want; go_big_quiet_op; first | go_big_quiet_on | go_big_quiet_call ((go_at_call 16; exact Calls.after (HFd _)))) | quiet_step ((go_at_call 16; exact Calls.after (HFd _))) | (refine wpQuiet_step (fun K hK => ?_); go_simp; split <;> (refine hK _ ?_; clear hK K))))
     all_goals (refine wpQuiet_nil ?_; intro _ hw'; obtain ⟨u', hw''⟩ := hw'; subst hw''; obtain ⟨wd, hbd⟩ := u'; simp only [After.val_mk]))
    have ld := later hbd
    have lrd : Later wr wd := ⟨below_of⟩
    have l2d : Later w2 wd := l2r.trans lrd
    have ldd : Later wd wd := Later.refl
    have hownd := hown.below lrd.below
    have hzd : w2.heap.size ≤ wd.heap.size := l2d.below.size
    have cx : ∀ u [Later w2 u], u.cell? ⟨g5, 0, none⟩ = some (.slice (some ⟨gx, ox, none⟩) o.length gc) ∧ u.cell? ⟨g3, 0, none⟩ = some (.int .i64 id.machine) ∧ u.cell? ⟨g3, 1, none⟩ = some (.int .i64 id.serial) ∧ u.cell? ⟨gx, ox + k * 5, none⟩ = some (.int .i64 n.iDMachine) ∧ u.cell? ⟨gx, ox + k * 5 + 1, none⟩ = some (.int .i64 n.iDSerial) := fun u i => by
      haveI := l02.trans i
      exact ⟨((B5 u).2 0).1, ((B0 u).2 0).1, ((B0 u).2 1).1, (NC u).1, (NC u).2.1⟩
    obtain ⟨c0, c1, c2, c3, c4⟩ := cx wd
    clear HFd
    go_upto_region 7 with fail
    go_region_held3 (fun w' => w'.cell? ⟨g5, 0, none⟩ = some (.slice (some ⟨gx, ox, none⟩) o.length gc) ∧ w'.cell? ⟨g3, 0, none⟩ = some (.int .i64 id.machine) ∧ w'.cell? ⟨g3, 1, none⟩ = some (.int .i64 id.serial) ∧ w'.cell? ⟨gx, ox + k * 5, none⟩ = some (.int .i64 n.iDMachine) ∧ w'.cell? ⟨gx, ox + k * 5 + 1, none⟩ = some (.int .i64 n.iDSerial)) (exact cx _)
      ((first
        | (go_at_call 32
           refine (hst _).mono ?_
           rintro r w7 ⟨rfl, hb7⟩
           have l7 := later hb7
           have ld7 : Later wd w7 := ⟨below_of⟩)
        | (refine step_app2 (P := Tryz.prog) rfl (.tmp 34) (.tmp 45) (by rfl) StepE.enc stepT _ _ [val] q (.slice QA q.length QC) (by rfl) (by rfl) (m := 1) (n := q.length + 1) rfl rfl (hownd.later _) (blk_slAt StepE.enc (fr := (0, 0)) (e := 44) (by exact (by (simp only [heap_drew, heap_alloc_if, World.size_alloc]); (repeat (first | rw [if_pos rfl] | rw [if_neg (by omega)] | rw [if_pos (by omega)])); try rfl)) [val] rfl) (by omega) (by unfold maxLen; omega) (Nat.le_trans hzd (show Below wd.heap.size wd _ from below_of).size) ?_
           intro A9 c9 w9 ho9 hm9 hst9
           have hownW := hownd.later
           have hb9 : Below w2.heap.size w2 w9 := below_stepA (hownW _) hst9 (show Below w2.heap.size w2 _ from below_of) (show Below w2.heap.size w2 _ from below_of).size
           have l29 : Later w2 w9 := ⟨hb9⟩)))
    all_goals go_wp2_with fail
    all_goals go_roundw
    case rel => exact ⟨k + 1, q ++ [val], A9, c9, by omega, by go_num, by rw [List.length_append]; rfl, hq', hide (by rw [List.length_append, List.length_singleton]; have := hqn.out; omega), by rw [List.length_append]; exact ho9, hb9⟩
    case measure => simp [intOf]; omega
end Go.Proofs.YtpkfenlfgdbkcaaGreatDoor
