/-
  Contracts of the functions of this seat that each theorem names: what a call returns, and that it writes nothing that was there before. The conditions stand in each theorem.
-/
import Derived.Test.YtpkfenlfgdbkcaaGreatDoorGrp35
set_option linter.unusedSimpArgs false
set_option linter.unusedVariables false
namespace Go.Proofs.YtpkfenlfgdbkcaaGreatDoor
open Go.RowKit
attribute [local go_sem] Oper.semAt_some Instr.makeFunc
attribute [local simp] heap_drew
attribute [local go_sem ↓] load_view_pre load_flight_pre load_msg_pre store_view_pre store_flight_pre store_msg_pre load_scion_pre store_scion_pre
attribute [local go_sem] load_view load_flight load_msg store_view store_flight store_msg load_scion store_scion view_isRow zero_isRow scion_isRow zeroS_isRow rowFree_new setRow_new view_arr0 view_arr2 view_arr3 view_arr4 view_arr5 view_arr6 view_arr9 view_arr10 flight_arr0 flight_arr1 flight_arr2 flight_arr3 flight_arr6 flight_arr7 flight_arr8 flight_arr9 flight_arr10 flight_arr11 flight_arr12 flight_arr13 flight_arr17 flight_arr18 flight_arr19 flight_arr20 flight_arr21 flight_arr22 flight_arr23 flight_arr24 flight_arr25 msg_arr0 msg_arr1 msg_arr4 msg_arr5 msg_arr6 msg_arr7 msg_arr8 msg_arr9 msg_arr10 msg_arr11 msg_arr15 msg_arr16 msg_arr17 msg_arr18 msg_arr19 msg_arr20 msg_arr21 msg_arr22 msg_arr23
attribute [local go_sem ↓] run_eql_id run_neq_id
set_option maxRecDepth 100000 in
set_option maxHeartbeats 4000000 in
theorem local_any (v : ViewE) (x : IDE) (w : World) (hv : ViewOk w v) (hf : FewW v) :
    Calls Tryz.prog 82 #[v.v, x.v] w fun r w' => r = .returned (.bool (localB x v)) ∧ Below w.heap.size w w' := by
  have HV := hv.later
  have hol := hf.o
  have HF : ∀ u [Later w u], Calls Tryz.prog 18 #[.agg #[.slice v.oA v.objects.length v.oc], x.v] u (FindPost (conL v.objects) x u) := fun u i => find_any v.oA v.oc v.objects x u (HV u).o (by omega) (fun n hn => by have := hf.d n hn; omega)
  have Hr := hide (show localB x v = match firstN (conL v.objects) x with | some n => n.kind != 3 | none => false from rfl)
  generalize localB x v = R at Hr ⊢
  cases hn : firstN (conL v.objects) x with
  | none =>
    have HF' : ∀ u [Later w u], Calls Tryz.prog 18 #[.agg #[.slice v.oA v.objects.length v.oc], x.v] u fun r w' => ∃ m : NodeE, r = .returned (.tuple #[m.v, .bool false]) ∧ Below u.heap.size u w' := fun u i => (HF u).mono fun r w' hp => by
      obtain ⟨m, h1, -, -, -, -, h2⟩ := hp
      rw [hn] at h1
      exact ⟨m, h1, h2⟩
    have HR := hide (show R = false by rw [Hr.out, hn])
    clear HF hn Hr
    go_enter Tryz.func82, Tryz.ntmps82
    go_wp2_with (go_at_call 18; refine (HF' _).mono ?_; rintro r w1 ⟨m, rfl, hb1⟩; have l1 := later hb1)
    go_ret
    exact ⟨ret_bool HR.out.symm, below_of⟩
  | some n =>
    have HF' : ∀ u [Later w u], Calls Tryz.prog 18 #[.agg #[.slice v.oA v.objects.length v.oc], x.v] u fun r w' => ∃ m : NodeE, r = .returned (.tuple #[m.v, .bool true]) ∧ Hid (m.kind = n.kind) ∧ Below u.heap.size u w' := fun u i => (HF u).mono fun r w' hp => by
      obtain ⟨m, h1, h3, -, -, -, h2⟩ := hp
      have h3' := h3.out
      rw [hn] at h1 h3'
      exact ⟨m, h1, hide (by rw [← show m.con.kind = m.kind from rfl, h3']; rfl), h2⟩
    have HR := hide (show R = (n.kind != 3) by rw [Hr.out, hn])
    clear HF hn Hr
    go_enter Tryz.func82, Tryz.ntmps82
    go_wp2_with (go_at_call 18; refine (HF' _).mono ?_; rintro r w1 ⟨m, rfl, hmk, hb1⟩; have l1 := later hb1)
    go_ret
    exact ⟨ret_bool (by rw [HR.out, ← hmk.out]), below_of⟩
def HomePost (V : List ViewE) (x : IDE) (w : World) (r : Ending) (w' : World) : Prop := r = .returned (.tuple #[.int .i64 (homeV V x).1, .bool (homeV V x).2]) ∧ Below w.heap.size w w'
theorem load_int {u : World} {g : Nat} {n : Int} {fr} (h : u.heap[g]? = some (.cells #[.int .i64 n] 3 fr)) : (loadVar 3 ⟨g, 0, none⟩).run Tryz.prog u = .ok (.int .i64 n) u := by
  have hc : u.cell? ⟨g, 0, none⟩ = some (.int .i64 n) := by simp [World.cell?, h]
  simp [go_sem, hc]
theorem load_bool {u : World} {g : Nat} {n : Bool} {fr} (h : u.heap[g]? = some (.cells #[.bool n] 4 fr)) : (loadVar 4 ⟨g, 0, none⟩).run Tryz.prog u = .ok (.bool n) u := by
  have hc : u.cell? ⟨g, 0, none⟩ = some (.bool n) := by simp [World.cell?, h]
  simp [go_sem, hc]
/-- The two results in their cells. -/
theorem home_end {w u : World} {g1 g2 : Nat} {a1 a2 : Array Value} {n : Int} {b : Bool} (hw : Below w.heap.size w u) (hg1 : w.heap.size ≤ g1) (hg2 : w.heap.size ≤ g2) (hne : g1 ≠ g2) (h1 : u.heap[g1]? = some (.cells a1 3 (0, 0))) (h2 : u.heap[g2]? = some (.cells a2 4 (0, 0))) (s1 : a1.size = 1) (s2 : a2.size = 1) :
    ((u.setCell ⟨g1, 0, none⟩ (.int .i64 n)).setCell ⟨g2, 0, none⟩ (.bool b)).heap[g1]? = some (.cells #[.int .i64 n] 3 (0, 0)) ∧ ((u.setCell ⟨g1, 0, none⟩ (.int .i64 n)).setCell ⟨g2, 0, none⟩ (.bool b)).heap[g2]? = some (.cells #[.bool b] 4 (0, 0)) ∧ Below w.heap.size w ((u.setCell ⟨g1, 0, none⟩ (.int .i64 n)).setCell ⟨g2, 0, none⟩ (.bool b)) := by
  have e1 : ∀ v, a1.setIfInBounds 0 v = #[v] := fun v => by
    match a1, s1 with
    | ⟨[x]⟩, _ => rfl
  have e2 : ∀ v, a2.setIfInBounds 0 v = #[v] := fun v => by
    match a2, s2 with
    | ⟨[x]⟩, _ => rfl
  have q1 := blk_set h1 0 (.int .i64 n)
  rw [e1] at q1
  have q2 := blk_set ((blk_far (p := ⟨g1, 0, none⟩) (fun e => hne e.symm) (.int .i64 n)).trans h2) 0 (.bool b)
  rw [e2] at q2
  exact ⟨(blk_far (p := ⟨g2, 0, none⟩) hne (.bool b)).trans q1, q2, (hw.setCell (p := ⟨_, 0, none⟩) hg1 _).setCell (p := ⟨_, 0, none⟩) hg2 _⟩
theorem find_none_to {α : Type} {p : α → Bool} {l pre : List α} (h : pre <+: l) (hp : ∀ x ∈ pre, p x = false) {x : α} (hx : pre ++ [x] <+: l) (hpx : p x = true) : l.find? p = some x := by
  obtain ⟨t, ht⟩ := hx
  rw [← ht, List.append_assoc, List.find?_append]
  have : pre.find? p = none := by rw [List.find?_eq_none]; intro y hy; simp [hp y hy]
  rw [this]
  simp [hpx]
set_option maxRecDepth 100000 in
set_option maxHeartbeats 8000000 in
theorem home_any (A : Option Addr) (c : Nat) (V : List ViewE) (x : IDE) (w : World) (H : ViewsAt w A V) (hf : FewV V) :
    Calls Tryz.prog 47 #[.slice A V.length c, x.v] w (HomePost V x w) := by
  have hl := hf.l
  have HV := H.later
  have hl' : V.length ≤ 9223372036854775807 := by omega
  refine calls_marks Tryz.func47 rfl ?_
  simp only [Tryz.ntmps47, List.size_toArray, List.length_cons, List.length_nil, Nat.reduceAdd, Nat.reduceSub, Array.replicate_succ, Array.replicate_zero, List.push_toArray, List.append_toArray, List.nil_append, List.cons_append]
  go_upto_region 1 with fail
  refine wp_name ?_
  intro w0 hw0
  have b0 : w0.heap[w.heap.size]? = some (.cells x.arr 24 (0, 0)) := (by rw [← hw0]; simp only [heap_alloc_if, World.size_alloc]; repeat (first | rw [if_pos trivial] | rw [if_neg (by omega)] | rw [if_pos (by omega)]); try rfl)
  have b1 : w0.heap[w.heap.size + 1]? = some (.cells #[.int .i64 0] 3 (0, 0)) := (by rw [← hw0]; simp only [heap_alloc_if, World.size_alloc]; repeat (first | rw [if_pos trivial] | rw [if_neg (by omega)] | rw [if_pos (by omega)]); try rfl)
  have b2 : w0.heap[w.heap.size + 1 + 1]? = some (.cells #[.bool false] 4 (0, 0)) := (by rw [← hw0]; simp only [heap_alloc_if, World.size_alloc]; repeat (first | rw [if_pos trivial] | rw [if_neg (by omega)] | rw [if_pos (by omega)]); try rfl)
  have hb0 : Below w.heap.size w w0 := by rw [← hw0]; exact (by repeat (first | with_reducible exact Below.refl _ _ | (with_reducible refine Below.drew ?_) | (with_reducible refine below_drewN ?_ _) | (with_reducible refine Below.alloc ?_ ?_ _; rotate_left; (first | omega | (simp <;> omega))) | (with_reducible refine Below.setCell ?_ ?_ _; rotate_left; (first | omega | (simp <;> omega)))))
  clear hw0
  have l0 := later hb0
  have B0 := boxed b0
  have B1 := boxed b1
  have B2 := boxed b2
  have l00 : Later w0 w0 := Later.refl
  go_wp2_with fail
  go_loopw [12] (fun i wr => ∃ k : Nat, k ≤ V.length ∧ i = .int .i64 k ∧ NoneTo (localB x) V k ∧ Below w0.heap.size w0 wr) (fun i _ => V.length - (intOf i).toNat)
  case atStart => exact ⟨0, by omega, rfl, NoneTo.zero, Below.refl _ _⟩
  case round =>
    obtain ⟨k, hk, rfl, hno, hbr⟩ := hrel
    have lr := later hbr
    have lrr : Later wr wr := Later.refl
    have Hno := hide hno
    clear hno
    by_cases hlt : k < V.length
    · obtain ⟨b, o, v, rfl, hv, hmem, LV, C0, -, -, hvo⟩ := (HV wr).get hlt
      have hki : (k : Int) < (V.length : Int) := by omega
      have Hv := hide hv
      clear hv
      have HL : ∀ u [Later wr u], Calls Tryz.prog 82 #[v.v, x.v] u fun r w' => r = .returned (.bool (localB x v)) ∧ Below u.heap.size u w' := fun u i => local_any v x u (hvo u) (hf.v v hmem)
      cases hq : localB x v with
      | false =>
        simp only [hq] at HL
        go_upto_region 4 with fail
        refine wp_name ?_
        intro w2 hw2
        obtain ⟨B3, l2⟩ := box1 hw2
        have l22 : Later w2 w2 := Later.refl
        clear hw2
        obtain ⟨-, -, -, -, -, -, -, R3⟩ := ViewE.box B3
        go_wp2_with (go_at_call 82; refine (HL _).mono ?_; rintro r w3 ⟨rfl, hb3⟩; have l3 := later hb3)
        go_roundw
        case rel => exact ⟨k + 1, by omega, by go_num, Hno.out.succ Hv.out hq, below_of⟩
        case measure => simp [intOf]; omega
      | true =>
        simp only [hq] at HL
        have HR := hide (show homeV V x = (v.machine, true) by unfold homeV; rw [find_hit Hv.out hq Hno.out])
        go_upto_region 4 with fail
        refine wp_name ?_
        intro w2 hw2
        obtain ⟨B3, l2⟩ := box1 hw2
        have l22 : Later w2 w2 := Later.refl
        clear hw2
        obtain ⟨-, -, -, -, -, -, -, R3⟩ := ViewE.box B3
        go_wp2_with (go_at_call 82; refine (HL _).mono ?_; rintro r w3 ⟨rfl, hb3⟩; have l3 := later hb3)
        have l03 : Later w0 w3 := by infer_instance
        obtain ⟨q1, q2, q3⟩ := home_end (n := v.machine) (b := true) (show Below w.heap.size w w3 from below_of) (show w.heap.size ≤ w.heap.size + 1 by omega) (show w.heap.size ≤ w.heap.size + 1 + 1 by omega) (by omega) (B1 w3).1 (B2 w3).1 rfl rfl
        exact ret_plain (results_cell2 rfl rfl rfl (load_int q1) (load_bool q2)) rfl ⟨by rw [HR.out], q3⟩
    · have hk' : k = V.length := by omega
      subst hk'
      have HN := hide (find_miss Hno.out)
      have HO : ∀ u [Later w u], Calls Tryz.prog 34 #[.slice A V.length c] u (OfPost A c V u) := fun u i => of_any A c V u (HV u) hf
      clear Hno
      go_wp2_with (first | (go_at_call 35; refine (flights_mk A c V g wf).mono ?_; rintro e w' ⟨rfl, rfl⟩) | (go_at_call 34; refine (HO _).mono ?_; rintro r wf ⟨g, rfl, hM, hbf⟩; have lf := later hbf))
      have lwf : Later w wf := by infer_instance
      have l0f : Later w0 wf := by infer_instance
      have lff : Later wf wf := Later.refl
      refine wp_name ?_
      intro w5 hw5
      have b5 : w5.heap[wf.heap.size]? = some (.cells #[.slice A V.length c, .map (some g)] 93 (0, 0)) := (by rw [← hw5]; simp only [heap_alloc_if, World.size_alloc]; repeat (first | rw [if_pos trivial] | rw [if_neg (by omega)] | rw [if_pos (by omega)]); try rfl)
      have hb5 : Below wf.heap.size wf w5 := by rw [← hw5]; exact (by repeat (first | with_reducible exact Below.refl _ _ | (with_reducible refine Below.drew ?_) | (with_reducible refine below_drewN ?_ _) | (with_reducible refine Below.alloc ?_ ?_ _; rotate_left; (first | omega | (simp <;> omega))) | (with_reducible refine Below.setCell ?_ ?_ _; rotate_left; (first | omega | (simp <;> omega)))))
      have hz5 : w5.heap.size = wf.heap.size + 1 := by rw [← hw5]; simp
      clear hw5
      have c1 := (B1 wf).1
      have c2 := (B2 wf).1
      have c0 := (B0 wf).1
      have hz1 := blk_lt c2
      have hwf := lwf.below
      refine wp_rangeV (gf := 64) (lb := #[.pointer (some ⟨wf.heap.size, 0, none⟩)]) rfl (enters_of Tryz.func64 (by kernel_rfl) rfl) (flights_stops 8 (by omega) wf.heap.size A c V g wf (HV wf) hM hf w5 hb5 b5) (by omega) (Below.refl _ _) (fun _ => rfl)
        (fun pre W => Below wf.heap.size wf W ∧ w5.heap.size ≤ W.heap.size ∧ Hid (∀ p ∈ pre, movesId x p.1 = false))
        (fun pre W => ∃ pre' p, pre = pre' ++ [p] ∧ (∀ q ∈ pre', movesId x q.1 = false) ∧ movesId x p.1 = true ∧ W.heap[w.heap.size + 1]? = some (.cells #[.int .i64 p.1.2.dst] 3 (0, 0)) ∧ W.heap[w.heap.size + 1 + 1]? = some (.cells #[.bool true] 4 (0, 0)) ∧ Below w.heap.size w W)
        ?hI ?hIr (fun _ _ h => h.2.1) ⟨hb5, Nat.le_refl _, hide (by simp)⟩ (blks := fun p => [(p.1.2.arr, 87)]) (tm := ?tm) ?hassign ?hbody ?hdone ?hstop
      case hI =>
        refine ownFrom_of ?_
        rintro s W W' ⟨h1, h2, h3⟩ hk hB hs
        exact ⟨h1.trans (hB _ (by omega) h1.size), by omega, h3⟩
      case hIr =>
        refine ownFrom_of ?_
        rintro s W W' ⟨pre', p, h1, h2, h3, h4, h5, h6⟩ hk hB hs
        exact ⟨pre', p, h1, h2, h3, hk _ _ (by omega) h4, hk _ _ (by omega) h5, h6.trans (hB _ (by have := hwf.size; omega) h6.size)⟩
      case hassign =>
        intro l p W Bx K hB hK
        have hR := flight_isRow ((HV wf).v p.1.1 p.2.1 |>.g p.1.2 p.2.2)
        replace hK : ∀ a', a' = _ → K a' (W.alloc (.cells p.1.2.arr 87)) := hK
        simp only [FlX.encs]
        gi_wp2
        rfl
      case hbody =>
        rintro l pre p Bx W hBx hblk ⟨h1, h2, h3⟩ hlen
        have X := boxed (hblk 0 _ _ rfl)
        simp only [Nat.add_zero] at X
        have X0 := boxed (blk_below c0 h1)
        have lWW : Later W W := Later.refl
        obtain ⟨q1, hq1⟩ : ∃ q, (p.1.2.msg.kind == 1) = q := ⟨_, rfl⟩
        obtain ⟨q2, hq2⟩ : ∃ q, ideq p.1.2.msg.parcel.iM p.1.2.msg.parcel.iS x.machine x.serial = q := ⟨_, rfl⟩
        have hm := hide (show movesId x p.1 = (q1 && q2) by
          unfold movesId
          rw [hq1, ← hq2, show ideq p.1.2.msg.parcel.iM p.1.2.msg.parcel.iS x.machine x.serial = decide (p.1.2.msg.parcel.id = x) from @ideq_iff p.1.2.msg.parcel.id x])
        have hno : movesId x p.1 = false → Hid (∀ q ∈ pre ++ [p], movesId x q.1 = false) := fun h => hide fun q hq => by
          rcases List.mem_append.1 hq with hq | hq
          · exact h3.out q hq
          · rw [List.mem_singleton.1 hq]; exact h
        cases q1
        · gi_wp2
          exact .inl ⟨rfl, ⟨Nat.le_refl _, fun k o _ h _ => h⟩, KpV.of_below (Below.refl _ _) h1.size, h1, h2, hno (by rw [hm.out]; rfl)⟩
        cases q2
        · gi_wp2
          exact .inl ⟨rfl, ⟨Nat.le_refl _, fun k o _ h _ => h⟩, KpV.of_below (Below.refl _ _) h1.size, h1, h2, hno (by rw [hm.out]; rfl)⟩
        have C1 := boxed (blk_below c1 h1)
        have C2 := boxed (blk_below c2 h1)
        gi_wp2
        obtain ⟨e1, e2, e3⟩ := home_end (n := p.1.2.dst) (b := true) (hwf.trans (h1.mono hwf.size)) (show w.heap.size ≤ w.heap.size + 1 by omega) (show w.heap.size ≤ w.heap.size + 1 + 1 by omega) (by omega) (blk_below c1 h1) (blk_below c2 h1) rfl rfl
        exact .inr ⟨rfl, ((KeepsOthers.setCell _ _ _).trans (KeepsOthers.setCell _ _ _)).from _, pre, p, rfl, h3.out, by rw [hm.out]; rfl, e1, e2, e3⟩
      case hdone =>
        rintro D ys W hD hS ⟨h1, h2, h3⟩ hK
        have HR := hide (show homeV V x = (0, false) by
          unfold homeV
          rw [HN.out]
          have : (flightsOf V).find? (movesId x) = none := by
            rw [List.find?_eq_none, ← hS]
            intro y hy
            obtain ⟨q, hq, rfl⟩ := List.mem_map.1 hy
            simp [h3.out q hq]
          rw [this])
        have C1 := boxed (blk_below c1 h1)
        have C2 := boxed (blk_below c2 h1)
        have HD := there_of hK
        have hDl := blk_lt hK
        have lWW : Later W W := Later.refl
        go_wp2_with fail
        obtain ⟨e1, e2, e3⟩ := home_end (n := 0) (b := false) (hwf.trans (h1.mono hwf.size)) (show w.heap.size ≤ w.heap.size + 1 by omega) (show w.heap.size ≤ w.heap.size + 1 + 1 by omega) (by omega) (blk_below c1 h1) (blk_below c2 h1) rfl rfl
        refine ret_marked rfl ?_ (results_cell2 rfl rfl rfl (load_int (by rw [putObj_eq, putAt_heap (by omega)]; exact e1)) (load_bool (by rw [putObj_eq, putAt_heap (by omega)]; exact e2))) ⟨by rw [HR.out], putObj_below e3 (by have := hwf.size; omega)⟩
        exact (blk_far (p := ⟨_, 0, none⟩) (show D ≠ w.heap.size + 1 + 1 by omega) _).trans ((blk_far (p := ⟨_, 0, none⟩) (show D ≠ w.heap.size + 1 by omega) _).trans hK)
      case hstop =>
        rintro D pre W hD hSp ⟨pre', p, rfl, h2, h3, e1, e2, e3⟩ hK
        have HR : homeV V x = (p.1.2.dst, true) := by
          unfold homeV
          rw [HN.out]
          rw [List.map_append] at hSp
          have : (flightsOf V).find? (movesId x) = some p.1 := find_none_to (pre := pre'.map Subtype.val) ((List.prefix_append _ _).trans hSp) (fun y hy => by
            obtain ⟨q, hq, rfl⟩ := List.mem_map.1 hy
            exact h2 q hq) hSp h3
          rw [this]
        exact ret_marked rfl hK (results_cell2 rfl rfl rfl (load_int (by rw [putObj_eq, putAt_heap (by omega)]; exact e1)) (load_bool (by rw [putObj_eq, putAt_heap (by omega)]; exact e2))) ⟨by rw [HR], putObj_below e3 (by have := hwf.size; omega)⟩
end Go.Proofs.YtpkfenlfgdbkcaaGreatDoor
