/-
  Contracts of the functions of this seat that each theorem names: what a call returns, and that it writes nothing that was there before. The conditions stand in each theorem.
-/
import Derived.Test.YtpkfenlfgdbkcaaGreatDoorP59R4
import Derived.Test.YtpkfenlfgdbkcaaGreatDoorP59RUn
import Derived.Deep.RegionHeld3
set_option linter.unusedSimpArgs false
set_option linter.unusedVariables false
namespace Go.Proofs.YtpkfenlfgdbkcaaGreatDoor
open Go.RowKit
attribute [local go_sem] Oper.semAt_some Instr.makeFunc
attribute [local simp] heap_drew
attribute [local go_sem ↓] load_view_pre load_flight_pre load_msg_pre store_view_pre store_flight_pre store_msg_pre load_scion_pre store_scion_pre
attribute [local go_sem] load_view load_flight load_msg store_view store_flight store_msg load_scion store_scion view_isRow zero_isRow scion_isRow zeroS_isRow rowFree_new setRow_new view_arr0 view_arr2 view_arr3 view_arr4 view_arr5 view_arr6 view_arr9 view_arr10 flight_arr0 flight_arr1 flight_arr2 flight_arr3 flight_arr6 flight_arr7 flight_arr8 flight_arr9 flight_arr10 flight_arr11 flight_arr12 flight_arr13 flight_arr17 flight_arr18 flight_arr19 flight_arr20 flight_arr21 flight_arr22 flight_arr23 flight_arr24 flight_arr25 msg_arr0 msg_arr1 msg_arr4 msg_arr5 msg_arr6 msg_arr7 msg_arr8 msg_arr9 msg_arr10 msg_arr11 msg_arr15 msg_arr16 msg_arr17 msg_arr18 msg_arr19 msg_arr20 msg_arr21 msg_arr22 msg_arr23
attribute [local go_sem ↓] run_eql_id run_neq_id
/-- What the reference's Graph gives: the nodes can be read. -/
def RGraphPost (V : List ViewE) (w : World) (r : Ending) (w' : World) : Prop := ∃ o OA OC, Hid (conL o = (graphV V).1) ∧ r = .returned (.tuple #[.agg #[.slice OA o.length OC], .int .i64 ((graphV V).2 : Nat)]) ∧ NodesAt w' OA o ∧ Below w.heap.size w w'
/-- The flights that the reference has passed: the moves among them. -/
def rmoves (V : List ViewE) (l : List (ViewE × FlightE)) : List (List NodeC) := movesOf V (l.filter fun p => flyB V p.1 p.2)
theorem rmoves_app (V : List ViewE) (a b : List (ViewE × FlightE)) : rmoves V (a ++ b) = rmoves V a ++ rmoves V b := by unfold rmoves; rw [List.filter_append, movesOf_app]
theorem rmoves_no {V : List ViewE} {v : ViewE} {x : FlightE} (h : (x.msg.kind == 1 && flyB V v x) = false) : rmoves V [(v, x)] = [] := by
  unfold rmoves
  rw [List.filter_cons]
  cases hb : flyB V v x
  · simp [movesOf]
  · rw [hb, Bool.and_true] at h
    have : ¬ x.msg.kind = 1 := fun e => by rw [e] at h; cases h
    simp [movesOf, this]
theorem rmoves_yes {V : List ViewE} {v : ViewE} {x : FlightE} (h1 : x.msg.kind = 1) (h2 : flyB V v x = true) : rmoves V [(v, x)] = [[movedN V (v, x)]] := by
  unfold rmoves
  rw [List.filter_cons]
  simp [h2, movesOf, h1]
theorem rmoves_all (V : List ViewE) : V.map (fun v => conL v.objects) ++ rmoves V (pairsV V) = graphsV V := by
  unfold graphsV rmoves
  rw [← flights_pairs]
theorem box_kept {W w9 : World} {v v' : Value} {base gx : Nat} {gs : List GrE} {cs : Array Value} {t : TypeId} (ho : Own GrE.cells 1 36 base W v gs) (hs : Step W w9 v v') (hb : W.heap[gx]? = some (.cells cs t (0, 0))) (hne : 36 ≠ t) : w9.heap[gx]? = some (.cells cs t (0, 0)) :=
  (hs.1.block gx (blk_lt hb) (fun e => own_off ho hb hne e.symm)).trans hb
theorem below_step {w0 W w9 : World} {v v' : Value} {base : Nat} {gs : List GrE} (ho : Own GrE.cells 1 36 base W v gs) (hs : Step W w9 v v') (hb : Below base w0 W) (hz : base ≤ W.heap.size) : Below base w0 w9 :=
  hb.grown hs.1 hz (fun j hj => (World.ownsRow.lt ho j hj).1)
theorem slAt_off {α : Type} {f : α → List Value} {s g : Nat} {u : World} {A : Option Addr} {l : List α} {t : TypeId} {fr : Nat × Nat} (h : SlAt f s u A l) (hi : ∀ x : α, ∃ n, (f x)[0]? = some (.int .i64 n)) (hg : u.heap[g]? = some (.cells #[.slice none 0 0] t fr)) (v : Value) : SlAt f s (u.setCell ⟨g, 0, none⟩ v) A l := by
  intro hne
  refine slAt_far h (fun a ha => ?_) hne
  obtain ⟨b, off, hA, hb, hc⟩ := h hne
  rw [hA] at ha
  injection ha with ha
  subst ha
  intro e
  replace e : b = g := e
  subst e
  obtain ⟨x, hx⟩ := List.exists_mem_of_ne_nil l hne
  obtain ⟨k, hk⟩ := List.getElem?_of_mem hx
  obtain ⟨n, hn⟩ := hi x
  have h1 := hc k x hk 0 _ hn
  unfold World.cell? at h1
  rw [hg] at h1
  generalize off + k * s + 0 = z at h1
  cases z with
  | zero => simp at h1
  | succ z => simp at h1
theorem nodes_off {u : World} {OA : Option Addr} {o : List NodeE} {g : Nat} {t : TypeId} {fr : Nat × Nat} (h : NodesAt u OA o) (hg : u.heap[g]? = some (.cells #[.slice none 0 0] t fr)) (v : Value) : NodesAt (u.setCell ⟨g, 0, none⟩ v) OA o :=
  ⟨slAt_off h.s (fun x => ⟨_, rfl⟩) hg v, fun n hn => slAt_off (h.f n hn) (fun x => ⟨_, rfl⟩) hg v, h.c⟩
set_option maxRecDepth 200000 in
set_option maxHeartbeats 16000000 in
theorem refGraph_any (A : Option Addr) (c : Nat) (V : List ViewE) (w : World) (H : ViewsAt w A V) (hf : FewV V) :
    Calls Tryz.prog 28 #[.slice A V.length c] w (RGraphPost V w) := by
  have hl := hf.l
  have HV := H.later
  have hl' : V.length ≤ 9223372036854775807 := by omega
  go_enter Tryz.func28, Tryz.ntmps28
  go_upto_region 1 with fail
  refine wp_name ?_
  intro w0 hw0
  have hz0 : w0.heap.size = w.heap.size + 1 := by rw [← hw0]; simp
  obtain ⟨B0, l0⟩ := box1 hw0
  have l00 : Later w0 w0 := Later.refl
  have lw0 : Later w w0 := l0 w
  clear hw0
  have hle : w.heap.size < w0.heap.size := by omega
  go_upto_region 2 with fail
  refine wp_name ?_
  intro w1 hw1
  have b9 : w1.heap[w0.heap.size]? = some (.cells #[] 36 (0, 0)) := (by rw [← hw1]; simp only [heap_alloc_if, World.size_alloc]; repeat (first | rw [if_pos trivial] | rw [if_neg (by omega)] | rw [if_pos (by omega)]); try rfl)
  have hb1 : Below w0.heap.size w0 w1 := by rw [← hw1]; exact (by repeat (first | with_reducible exact Below.refl _ _ | (with_reducible refine Below.drew ?_) | (with_reducible refine below_drewN ?_ _) | (with_reducible refine Below.alloc ?_ ?_ _; rotate_left; (first | omega | (simp <;> omega))) | (with_reducible refine Below.setCell ?_ ?_ _; rotate_left; (first | omega | (simp <;> omega)))))
  clear hw1
  rw [hz0] at b9
  have ho1 : Own GrE.cells 1 36 w0.heap.size w1 (.slice (some ⟨w.heap.size + 1, 0, none⟩) 0 0) ([] : List GrE) := Own.empty_blk (by omega) b9
  have l11 : Later w1 w1 := Later.refl
  go_wp2_with fail
  go_loopw [4, 5] (fun lv iv wr => ∃ (i : Nat) (gs : List GrE) (LA : Option Addr) (LC : Nat), i ≤ V.length ∧ iv = .int .i64 i ∧ lv = .slice LA gs.length LC ∧ Hid (gs = (V.take i).map viewGr) ∧ Own GrE.cells 1 36 w0.heap.size wr (.slice LA gs.length LC) gs ∧ Below w0.heap.size w0 wr) (fun _ iv _ => V.length - (intOf iv).toNat)
  case atStart => exact ⟨0, [], some ⟨w.heap.size + 1, 0, none⟩, 0, by omega, rfl, rfl, hide (by simp), ho1, hb1⟩
  clear ho1 b9 hb1
  case round =>
    obtain ⟨i, gs, LA, LC, hi, rfl, rfl, hgs, hown, hbr⟩ := hrel
    have lrr : Later wr wr := Later.refl
    have l0r : Later w0 wr := ⟨hbr⟩
    have lwr : Later w wr := lw0.trans l0r
    have hgl : gs.length ≤ 5 := by rw [hgs.out, List.length_map, List.length_take]; omega
    by_cases hlt : i < V.length
    · obtain ⟨b, o, v, rfl, hv, hmem, LV, C0, C2, C9, hvo⟩ := (HV wr).get hlt
      have hii : (i : Int) < (V.length : Int) := by omega
      have hT := hide (take_snoc_get hv)
      clear hv
      go_wp2_with (at_builtin; refine wpList_app1 rfl (.tmp 16) (.tmp 22) rfl GrE.enc grT (viewGr v) rfl rfl rfl (hown.later _) (by rfl) (by omega) (by unfold maxLen; omega) (Nat.le_trans l0r.below.size (show Below wr.heap.size wr _ from below_of).size) ?_; intro A9 c9 w9 ho9 hm9 hb9 hg9 hat9; have hb09 : Below w0.heap.size w0 w9 := (show Below w0.heap.size w0 _ from below_of).trans hb9)
      have hlk : (gs ++ [viewGr v]).length = gs.length + 1 := by simp
      go_roundw
      case rel => exact ⟨i + 1, gs ++ [viewGr v], A9, c9, by omega, by go_num, by rw [hlk], hide (by rw [hT.out, List.map_append, hgs.out]; rfl), by rw [hlk]; exact ho9, hb09⟩
      case measure => simp [intOf]; omega
    · have hk' : i = V.length := by omega
      subst hk'
      rw [List.take_length] at hgs
      have hgc := hide (show conGs gs = V.map (fun v => conL v.objects) by rw [hgs.out]; unfold conGs; rw [List.map_map]; rfl)
      have hok0 := hide (show ∀ x ∈ gs, GrOk w0 wr x ∧ x.l.length ≤ 12 ∧ ∀ n ∈ x.l, n.fields.length ≤ 6 from fun x hx => by
        rw [hgs.out] at hx
        obtain ⟨v, hv, rfl⟩ := List.mem_map.1 hx
        exact ⟨.inl ((H.v v hv).o.below lw0.below), (hf.v v hv).o, (hf.v v hv).d⟩)
      clear hgs
      go_wp2_with fail
      go_loopw [4, 6] (fun lv iv w' => ∃ (i : Nat) (gs : List GrE) (LA : Option Addr) (LC : Nat), i ≤ V.length ∧ iv = .int .i64 i ∧ lv = .slice LA gs.length LC ∧ Hid (conGs gs = V.map (fun v => conL v.objects) ++ rmoves V (pairsV (V.take i))) ∧ Hid (gs.length ≤ 5 + 6 * i) ∧ Hid (∀ x ∈ gs, GrOk w0 w' x ∧ x.l.length ≤ 12 ∧ ∀ n ∈ x.l, n.fields.length ≤ 6) ∧ Own GrE.cells 1 36 w0.heap.size w' (.slice LA gs.length LC) gs ∧ Below w0.heap.size w0 w') (fun _ iv _ => V.length - (intOf iv).toNat)
      case atStart => exact ⟨0, gs, LA, LC, by omega, rfl, rfl, hide (by rw [hgc.out]; simp [pairsV, rmoves, movesOf]), hide (by omega), hok0, hown, hbr⟩
      clear hgc hok0 hown hbr lrr l0r lwr hgl hlt
      case round =>
        obtain ⟨i, gs, LA, LC, hi, rfl, rfl, hgs, hgl, hok, hown, hbr⟩ := hrel
        have lrr : Later wr wr := Later.refl
        have l0r : Later w0 wr := ⟨hbr⟩
        have lwr : Later w wr := lw0.trans l0r
        by_cases hlt : i < V.length
        rotate_left
        · have hk' : i = V.length := by omega
          subst hk'
          have hcon := hide (show conGs gs = graphsV V by rw [hgs.out, List.take_length, rmoves_all])
          have hgl35 : gs.length ≤ 35 := by have := hgl.out; omega
          have hS := (hown.at_ GrE.enc).2.2
          have hG : GraphsAt wr LA gs := ⟨hS, fun g hg => (hok.out g hg).1.nodes hbr⟩
          have hU : ∀ u [Later wr u], Calls Tryz.prog 57 #[.slice LA gs.length LC] u (UnionQ (unionC (conGs gs)) u) := fun u j => unionR_any LA LC gs u (hG.later u) (by omega) (by
            have h1 : ∀ l : List GrE, (∀ g ∈ l, g.l.length ≤ 12) → (conGs l).flatten.length ≤ 12 * l.length := by
              intro l
              induction l with
              | nil => intro _; simp [conGs]
              | cons g l ih =>
                intro h
                have h2 := ih fun g hg => h g (List.mem_cons_of_mem _ hg)
                have h3 := h g List.mem_cons_self
                unfold conGs at h2 ⊢
                rw [List.map_cons, List.flatten_cons, List.length_append, List.length_cons]
                have h4 : (conL g.l).length = g.l.length := by unfold conL; rw [List.length_map]
                omega
            have := h1 gs fun g hg => (hok.out g hg).2.1
            omega) (fun g hg => by have := (hok.out g hg).2.1; omega) (fun g hg n hn => by have := (hok.out g hg).2.2 n hn; omega)
          rw [hcon.out] at hU
          obtain ⟨ge, hge⟩ : ∃ n, (unionC (graphsV V)).2 = n := ⟨_, rfl⟩
          unfold UnionQ at hU
          rw [hge] at hU
          have Hge := hide (show (graphV V).2 = ge from hge)
          clear hge hG hS hown hok hgs
          have hB0r := (B0 wr).1
          go_wp2_with (go_at_call 57; refine (hU _).mono ?_; rintro r w9 ⟨q, QA, QC, hq, rfl, hqn, -, hb9⟩; have l9 := later hb9)
          have q9 := blk_set (B0 w9).1 0 (.slice QA q.length QC)
          refine bodyPost_ret (results_cell_tmp rfl rfl rfl (loadVar_row graphRow graphN rfl q9)) rfl ⟨q, QA, QC, hide (by rw [hq.out]; rfl), by rw [Hge.out]; rfl, nodes_off hqn (B0 w9).1 _, (show Below w.heap.size w w9 from below_of).setCell (p := ⟨w.heap.size, 0, none⟩) (Nat.le_refl _) _⟩
        obtain ⟨b, o, v, rfl, hv, hmem, LV, C0, C2, C9, hvo⟩ := (HV w0).get hlt
        have hii : (i : Int) < (V.length : Int) := by omega
        have Hv := hide hv
        have hfl := (hf.v v hmem).f
        have hfg := (hf.v v hmem).g
        clear hv
        go_wp2_with fail
        go_loopw [4, 7] (fun lv kv w' => ∃ (k : Nat) (gs : List GrE) (LA : Option Addr) (LC : Nat), k ≤ v.flights.length ∧ kv = .int .i64 k ∧ lv = .slice LA gs.length LC ∧ Hid (conGs gs = V.map (fun v => conL v.objects) ++ rmoves V (pairsV (V.take i) ++ (v.flights.take k).map fun y => (v, y))) ∧ Hid (gs.length ≤ 5 + 6 * i + k) ∧ Hid (∀ x ∈ gs, GrOk w0 w' x ∧ x.l.length ≤ 12 ∧ ∀ n ∈ x.l, n.fields.length ≤ 6) ∧ Own GrE.cells 1 36 w0.heap.size w' (.slice LA gs.length LC) gs ∧ Below w0.heap.size w0 w') (fun _ kv _ => v.flights.length - (intOf kv).toNat)
        case atStart => exact ⟨0, gs, LA, LC, by omega, rfl, rfl, hide (by rw [hgs.out]; simp), hide (by have := hgl.out; omega), hok, hown, hbr⟩
        clear hgs hgl hok hown hbr lrr l0r lwr
        case round =>
          obtain ⟨k, gs, LA, LC, hk, rfl, rfl, hgs, hgl, hok, hown, hbr⟩ := hrel
          have lrr : Later wr wr := Later.refl
          have l0r : Later w0 wr := ⟨hbr⟩
          have lwr : Later w wr := lw0.trans l0r
          by_cases hltk : k < v.flights.length
          rotate_left
          · have hk' : k = v.flights.length := by omega
            subst hk'
            rw [List.take_length, ← pairs_take Hv.out] at hgs
            go_wp2_with fail
            go_roundw
            case rel => exact ⟨i + 1, gs, LA, LC, by omega, by go_num, rfl, hgs, hide (by have := hgl.out; omega), hok, hown, hbr⟩
            case measure => simp [intOf]; omega
          obtain ⟨sb, so, y, hA, hy, hym, hyo, hR, LX, -, -, -⟩ := flights_get (hvo w0).f (hvo w0).g hltk
          have hki : (k : Int) < (v.flights.length : Int) := by omega
          rw [hA] at C9
          have htk := hide (take_snoc_get hy)
          have hfy := hfg y hym
          have hgl2 : gs.length ≤ 5 + 6 * i + k := hgl.out
          have hgl3 : gs.length ≤ 100 := by omega
          clear hy hgl
          have hyw : ∀ u [Later w u], FlightOk u y := fun u j => (((H.v v hmem).g y hym).later u)
          have HFl : ∀ u [Later wr u], Calls Tryz.prog 55 #[.slice (some ⟨b, o, none⟩) V.length c, v.v, y.v] u fun r w' => r = .returned (.bool (flyB V v y)) ∧ Below u.heap.size u w' := fun u j => by
            haveI := lwr.trans j
            exact refFlying_any (some ⟨b, o, none⟩) c V v y u (HV u) hf (hyw u)
          have HM : ∀ u [Later wr u], Calls Tryz.prog 56 #[.slice (some ⟨b, o, none⟩) V.length c, .int .i64 v.machine, y.v] u (MovedPost V v.machine y u) := fun u j => by
            haveI := lwr.trans j
            exact refMoved_any (some ⟨b, o, none⟩) c V v.machine y u (HV u) hf (hyw u) hfy
          unfold MovedPost at HM
          obtain ⟨q1, hq1⟩ : ∃ q, (y.msg.kind == 1) = q := ⟨_, rfl⟩
          obtain ⟨q3, hq3⟩ : ∃ q, flyB V v y = q := ⟨_, rfl⟩
          rw [hq3] at HFl
          have hmv := hide (show conGs gs ++ rmoves V [(v, y)] = V.map (fun v => conL v.objects) ++ rmoves V (pairsV (V.take i) ++ (v.flights.take (k + 1)).map fun y => (v, y)) by
            rw [htk.out, List.map_append, ← List.append_assoc (pairsV (V.take i)), rmoves_app V (pairsV (V.take i) ++ _), ← List.append_assoc, ← hgs.out]
            rfl)
          have Hq1 := hide hq1
          have Hq3 := hide hq3
          have hx0 := hyo wr
          clear hq3
          go_upto_region 13 with fail
          refine wp_name ?_
          intro w5 hw5
          obtain ⟨gx, hgx⟩ : ∃ z, z = wr.heap.size := ⟨_, rfl⟩
          have b5 : w5.heap[wr.heap.size]? = some (.cells y.arr 87 (0, 0)) := (by rw [← hw5]; simp only [heap_alloc_if, World.size_alloc]; repeat (first | rw [if_pos trivial] | rw [if_neg (by omega)] | rw [if_pos (by omega)]); try rfl)
          have hb5 : Below wr.heap.size wr w5 := by rw [← hw5]; exact (by repeat (first | with_reducible exact Below.refl _ _ | (with_reducible refine Below.drew ?_) | (with_reducible refine below_drewN ?_ _) | (with_reducible refine Below.alloc ?_ ?_ _; rotate_left; (first | omega | (simp <;> omega))) | (with_reducible refine Below.setCell ?_ ?_ _; rotate_left; (first | omega | (simp <;> omega)))))
          clear hw5
          have lr5 : Later wr w5 := ⟨hb5⟩
          have l05 : Later w0 w5 := l0r.trans lr5
          have lw5 : Later w w5 := lwr.trans lr5
          have B5 := boxed b5
          have l55 : Later w5 w5 := Later.refl
          have R5 := FlightE.row B5 hx0
          obtain ⟨x0, -, x2, x18, x19, x20⟩ := FlightE.box B5
          clear B5
          cases q1
          · have hgs2 := hide (show conGs gs = V.map (fun v => conL v.objects) ++ rmoves V (pairsV (V.take i) ++ (v.flights.take (k + 1)).map fun y => (v, y)) by rw [← hmv.out, rmoves_no (by rw [Hq1.out]; rfl), List.append_nil])
            (refine wp_region_after (by kernel_rfl) (by kernel_rfl) ?_
             repeat (any_goals (first | go_big_quiet_skip | (go_big_quiet_want; go_big_quiet_op; first | go_big_quiet_on | go_big_quiet_call (fail)) | quiet_step (fail) | (refine wpQuiet_step (fun K hK => ?_); go_simp; split <;> (refine hK _ ?_; clear hK K))))
             all_goals (refine wpQuiet_nil ?_; intro _ hw'; obtain ⟨u', hw''⟩ := hw'; subst hw''; obtain ⟨wd, hbd⟩ := u'; simp only [After.val_mk]))
            have ld := later hbd
            have hbrd : Below wr.heap.size wr wd := below_of
            go_wp2_with fail
            go_roundw
            case rel => exact ⟨k + 1, gs, LA, LC, by omega, by go_num, rfl, hgs2, hide (by omega), hide (fun x hx => ⟨(hok.out x hx).1.below hbrd, (hok.out x hx).2⟩), hown.below hbrd, hbr.trans (hbrd.mono hbr.size)⟩
            case measure => simp [intOf]; omega
          cases q3
          · have hgs2 := hide (show conGs gs = V.map (fun v => conL v.objects) ++ rmoves V (pairsV (V.take i) ++ (v.flights.take (k + 1)).map fun y => (v, y)) by rw [← hmv.out, rmoves_no (by rw [Hq3.out, Bool.and_false]), List.append_nil])
            (refine wp_region_after (by kernel_rfl) (by kernel_rfl) ?_
             repeat (any_goals (first | go_big_quiet_skip | (go_big_quiet_want; go_big_quiet_op; first | go_big_quiet_on | go_big_quiet_call ((go_at_call 55; exact Calls.after (HFl _)))) | quiet_step ((go_at_call 55; exact Calls.after (HFl _))) | (refine wpQuiet_step (fun K hK => ?_); go_simp; split <;> (refine hK _ ?_; clear hK K))))
             all_goals (refine wpQuiet_nil ?_; intro _ hw'; obtain ⟨u', hw''⟩ := hw'; subst hw''; obtain ⟨wd, hbd⟩ := u'; simp only [After.val_mk]))
            have ld := later hbd
            have hbrd : Below wr.heap.size wr wd := below_of
            go_wp2_with fail
            go_roundw
            case rel => exact ⟨k + 1, gs, LA, LC, by omega, by go_num, rfl, hgs2, hide (by omega), hide (fun x hx => ⟨(hok.out x hx).1.below hbrd, (hok.out x hx).2⟩), hown.below hbrd, hbr.trans (hbrd.mono hbr.size)⟩
            case measure => simp [intOf]; omega
          have hy1 : y.msg.kind = 1 := by have := Hq1.out; simpa using this
          have hgs2 := fun (g : GrE) (hg : conL g.l = [movedN V (v, y)]) => hide (show conGs (gs ++ [g]) = V.map (fun v => conL v.objects) ++ rmoves V (pairsV (V.take i) ++ (v.flights.take (k + 1)).map fun y => (v, y)) by
            rw [← hmv.out, rmoves_yes hy1 Hq3.out]
            unfold conGs
            rw [List.map_append, List.map_cons, List.map_nil, hg])
          clear hy1
          (refine wp_region_after (by kernel_rfl) (by kernel_rfl) ?_
           repeat (any_goals (first | go_big_quiet_skip | (go_big_quiet_want; go_big_quiet_op; first | go_big_quiet_on | go_big_quiet_call ((go_at_call 55; exact Calls.after (HFl _)))) | quiet_step ((go_at_call 55; exact Calls.after (HFl _))) | (refine wpQuiet_step (fun K hK => ?_); go_simp; split <;> (refine hK _ ?_; clear hK K))))
           all_goals (refine wpQuiet_nil ?_; intro _ hw'; obtain ⟨u', hw''⟩ := hw'; subst hw''; obtain ⟨wd, hbd⟩ := u'; simp only [After.val_mk]))
          have ld := later hbd
          have lrd : Later wr wd := ⟨below_of⟩
          have l0d : Later w0 wd := l0r.trans lrd
          have ldd : Later wd wd := Later.refl
          have l5d : Later w5 wd := ⟨below_of⟩
          have bxd := blk_below b5 l5d.below
          have hownd := hown.below lrd.below
          have hokd := hide (fun (x : GrE) (hx : x ∈ gs) => (hok.out x hx).1.below lrd.below)
          have Rd : ∀ u [Later wd u], rowOf u wr.heap.size 0 41 = some y.arr := fun u j => by haveI := l5d.trans j; exact R5 u
          have hzd : w0.heap.size ≤ wd.heap.size := l0d.below.size
          rw [← hgx] at bxd Rd ⊢
          have Hgx := hide hgx
          clear hgx
          clear R5 x0 x2 x18 x19 x20 b5 HFl hmv
          go_upto_region 14 with fail
          go_region_held3 (fun w' => w'.cell? ⟨b, o + i * 13, none⟩ = some (.int .i64 v.machine) ∧ rowOf w' gx 0 41 = some y.arr) ((refine ⟨?_, ?_⟩; (first | exact C0 _ | assumption); (first | exact Rd _ | assumption)))
            ((first
              | (go_at_call 56
                 refine (HM _).mono ?_
                 rintro r w7 ⟨fl, FA, FC, hfl2, rfl, hof, hb7⟩
                 have l7 := later hb7
                 have ld7 : Later wd w7 := ⟨below_of⟩)
              | (refine step_app2 (P := Tryz.prog) rfl (.tmp 61) (.tmp 72) (by rfl) GrE.enc grT _ _ [⟨some ⟨w7.heap.size, 0, none⟩, 1, [⟨y.msg.parcel.iM, y.msg.parcel.iS, y.msg.parcel.kind, y.msg.parcel.clas, FA, FC, fl⟩]⟩] gs (.slice LA gs.length LC) (by rfl) (by rfl) (m := 1) (n := gs.length + 1) rfl rfl (hownd.later _) (blk_slAt GrE.enc (fr := (0, 0)) (e := 36) (by exact (by (simp only [heap_drew, heap_alloc_if, World.size_alloc]); (repeat (first | rw [if_pos rfl] | rw [if_neg (by omega)] | rw [if_pos (by omega)])); try rfl)) [⟨some ⟨w7.heap.size, 0, none⟩, 1, [⟨y.msg.parcel.iM, y.msg.parcel.iS, y.msg.parcel.kind, y.msg.parcel.clas, FA, FC, fl⟩]⟩] rfl) (by omega) (by unfold maxLen; omega) (Nat.le_trans hzd (show Below wd.heap.size wd _ from below_of).size) ?_
                 intro A9 c9 w9 ho9 hm9 hst9
                 have hownW := hownd.later
                 have hN9 : OwnG w0.heap.size w9 (some ⟨w7.heap.size, 0, none⟩) 1 [⟨y.msg.parcel.iM, y.msg.parcel.iS, y.msg.parcel.kind, y.msg.parcel.clas, FA, FC, fl⟩] := OwnG.stepG ⟨own_built NodeE.enc (C := #[.int .i64 y.msg.parcel.iM, .int .i64 y.msg.parcel.iS, .int .i64 y.msg.parcel.kind, .int .i64 y.msg.parcel.clas, .slice FA fl.length FC]) (by exact (by (simp only [heap_drew, heap_alloc_if, World.size_alloc]); (repeat (first | rw [if_pos rfl] | rw [if_neg (by omega)] | rw [if_pos (by omega)])); try rfl)) (Nat.le_trans hzd ld7.below.size) rfl rfl (by simp [maxLen]), fun m hm => by
                     rw [List.mem_singleton] at hm
                     subst hm
                     exact (hof.later _).mono hzd, fun m hm => by
                     rw [List.mem_singleton] at hm
                     subst hm
                     exact ⟨(hof.at_ ValE.enc).2.1, hof.cap_le⟩⟩ (hownW _) hst9
                 have hok9 : ∀ x ∈ gs, GrOk w0 w9 x := fun x hx => ((hokd.out x hx).below (show Below wd.heap.size wd _ from below_of)).step (hownW _) hst9
                 have hx9 := box_kept (hownW _) hst9 (blk_below bxd (show Below wd.heap.size wd _ from below_of)) (by decide)
                 have hb9 : Below w0.heap.size w0 w9 := below_step (hownW _) hst9 (show Below w0.heap.size w0 _ from below_of) (show Below w0.heap.size w0 _ from below_of).size
                 have l09 : Later w0 w9 := ⟨hb9⟩
                 have p0 := C0 w9
                 have p1 := FlightE.row (boxed hx9) hx0 w9)))
          all_goals go_wp2_with fail
          all_goals go_roundw
          case rel =>
            have hcon := hgs2 ⟨some ⟨w7.heap.size, 0, none⟩, 1, [⟨y.msg.parcel.iM, y.msg.parcel.iS, y.msg.parcel.kind, y.msg.parcel.clas, FA, FC, fl⟩]⟩ (by
              show [(⟨y.msg.parcel.iM, y.msg.parcel.iS, y.msg.parcel.kind, y.msg.parcel.clas, fl⟩ : NodeC)] = _
              rw [hfl2.out]
              rfl)
            have hfl3 : fl.length ≤ 6 := by rw [hfl2.out, List.length_map]; exact hfy.p
            refine ⟨k + 1, gs ++ [⟨some ⟨w7.heap.size, 0, none⟩, 1, [⟨y.msg.parcel.iM, y.msg.parcel.iS, y.msg.parcel.kind, y.msg.parcel.clas, FA, FC, fl⟩]⟩], A9, c9, by omega, by go_num, by rw [List.length_append]; rfl, hcon, hide (by rw [List.length_append, List.length_singleton]; omega), hide (fun x hx => ?_), by rw [List.length_append]; exact ho9, hb9⟩
            rcases List.mem_append.1 hx with hx | hx
            · exact ⟨hok9 x hx, (hok.out x hx).2⟩
            · rw [List.mem_singleton] at hx
              subst hx
              refine ⟨.inr hN9, by simp, fun n hn => ?_⟩
              rw [List.mem_singleton] at hn
              subst hn
              exact hfl3
          case measure => simp [intOf]; omega
end Go.Proofs.YtpkfenlfgdbkcaaGreatDoor
