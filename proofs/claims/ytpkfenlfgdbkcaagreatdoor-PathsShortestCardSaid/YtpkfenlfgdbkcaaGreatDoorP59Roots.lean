/-
  Contracts of the functions of this seat that each theorem names: what a call returns, and that it writes nothing that was there before. The conditions stand in each theorem.
-/
import Derived.Test.YtpkfenlfgdbkcaaGreatDoorP59Out
set_option linter.unusedSimpArgs false
set_option linter.unusedVariables false
namespace Go.Proofs.YtpkfenlfgdbkcaaGreatDoor
open Go.RowKit
attribute [local go_sem] Oper.semAt_some Instr.makeFunc
attribute [local simp] heap_drew
attribute [local go_sem ↓] load_view_pre load_flight_pre load_msg_pre store_view_pre store_flight_pre store_msg_pre load_scion_pre store_scion_pre
attribute [local go_sem] load_view load_flight load_msg store_view store_flight store_msg load_scion store_scion view_isRow zero_isRow scion_isRow zeroS_isRow rowFree_new setRow_new view_arr0 view_arr2 view_arr3 view_arr4 view_arr5 view_arr6 view_arr9 view_arr10 flight_arr0 flight_arr1 flight_arr2 flight_arr3 flight_arr6 flight_arr7 flight_arr8 flight_arr9 flight_arr10 flight_arr11 flight_arr12 flight_arr13 flight_arr17 flight_arr18 flight_arr19 flight_arr20 flight_arr21 flight_arr22 flight_arr23 flight_arr24 flight_arr25 msg_arr0 msg_arr1 msg_arr4 msg_arr5 msg_arr6 msg_arr7 msg_arr8 msg_arr9 msg_arr10 msg_arr11 msg_arr15 msg_arr16 msg_arr17 msg_arr18 msg_arr19 msg_arr20 msg_arr21 msg_arr22 msg_arr23
attribute [local go_sem ↓] run_eql_id run_neq_id
theorem mails_get {w : World} {A : Option Addr} {l : List MailE} (h : SlAt MailE.cells 6 w A l) {k : Nat} (hk : k < l.length) : ∃ b o m, A = some ⟨b, o, none⟩ ∧ l[k]? = some m ∧ m ∈ l ∧ (∀ u [Later w u], u.cell? ⟨b, o + k * 6, none⟩ = some (.int .i64 m.iM) ∧ u.cell? ⟨b, o + k * 6 + 1, none⟩ = some (.int .i64 m.iS) ∧ u.cell? ⟨b, o + k * 6 + 2, none⟩ = some (.int .i64 m.tM) ∧ u.cell? ⟨b, o + k * 6 + 3, none⟩ = some (.int .i64 m.tS) ∧ u.cell? ⟨b, o + k * 6 + 4, none⟩ = some (.string m.method) ∧ u.cell? ⟨b, o + k * 6 + 5, none⟩ = some (.slice m.A m.args.length m.c)) := by
  obtain ⟨b, o, m, hA, hb, hm, hc⟩ := h.at_ hk
  refine ⟨b, o, m, hA, hm, List.mem_of_getElem? hm, fun u i => ⟨cell_below (hc 0 _ rfl) i.below, cell_below (hc 1 _ rfl) i.below, cell_below (hc 2 _ rfl) i.below, cell_below (hc 3 _ rfl) i.below, cell_below (hc 4 _ rfl) i.below, cell_below (hc 5 _ rfl) i.below⟩⟩
theorem names_get {w : World} {A : Option Addr} {l : List NamedE} (h : SlAt NamedE.cells 3 w A l) {k : Nat} (hk : k < l.length) : ∃ b o m, A = some ⟨b, o, none⟩ ∧ l[k]? = some m ∧ (∀ u [Later w u], u.cell? ⟨b, o + k * 3, none⟩ = some (.string m.name) ∧ u.cell? ⟨b, o + k * 3 + 1, none⟩ = some (.int .i64 m.rM) ∧ u.cell? ⟨b, o + k * 3 + 2, none⟩ = some (.int .i64 m.rS)) := by
  obtain ⟨b, o, m, hA, hb, hm, hc⟩ := h.at_ hk
  exact ⟨b, o, m, hA, hm, fun u i => ⟨cell_below (hc 0 _ rfl) i.below, cell_below (hc 1 _ rfl) i.below, cell_below (hc 2 _ rfl) i.below⟩⟩
theorem letters_get {w : World} {A : Option Addr} {l : List LetterE} (h : SlAt LetterE.cells 4 w A l) {k : Nat} (hk : k < l.length) : ∃ b o m, A = some ⟨b, o, none⟩ ∧ l[k]? = some m ∧ m ∈ l ∧ (∀ u [Later w u], u.cell? ⟨b, o + k * 4, none⟩ = some (.int .i64 m.iM) ∧ u.cell? ⟨b, o + k * 4 + 1, none⟩ = some (.int .i64 m.iS) ∧ u.cell? ⟨b, o + k * 4 + 2, none⟩ = some (.string m.method) ∧ u.cell? ⟨b, o + k * 4 + 3, none⟩ = some (.slice m.A m.args.length m.c)) := by
  obtain ⟨b, o, m, hA, hb, hm, hc⟩ := h.at_ hk
  exact ⟨b, o, m, hA, hm, List.mem_of_getElem? hm, fun u i => ⟨cell_below (hc 0 _ rfl) i.below, cell_below (hc 1 _ rfl) i.below, cell_below (hc 2 _ rfl) i.below, cell_below (hc 3 _ rfl) i.below⟩⟩
/-- What holds between two flights. -/
def InvRt (V : List ViewE) (w1 : World) (gF : Nat) (A : Option Addr) (c g z : Nat) (pre : List (ViewE × FlightE)) (W : World) : Prop :=
  ∃ q, Hid (q = V.flatMap rootsO ++ pre.flatMap (rootsF V)) ∧ Hid (q.length ≤ 240 + 28 * pre.length) ∧ OutI (gF + 1) w1.heap.size q W ∧ Below w1.heap.size w1 W ∧ z ≤ W.heap.size ∧ W.heap[gF]? = some (.cells #[.slice A V.length c, .map (some g)] 93 (0, 0))
theorem InvRt.of {V : List ViewE} {w1 : World} {gF : Nat} {A : Option Addr} {c g z : Nat} {pre : List (ViewE × FlightE)} {W W' : World} {p : ViewE × FlightE} {q q' : List IDE} (h1 : Hid (q = V.flatMap rootsO ++ pre.flatMap (rootsF V))) (h2 : Hid (q.length ≤ 240 + 28 * pre.length)) (h5 : Below w1.heap.size w1 W) (h6 : z ≤ W.heap.size) (h7 : W.heap[gF]? = some (.cells #[.slice A V.length c, .map (some g)] 93 (0, 0))) (hk : KI w1.heap.size W W') (hq : q' = q ++ rootsF V p) (hn : (rootsF V p).length ≤ 28) (hO : OutI (gF + 1) w1.heap.size q' W') : InvRt V w1 gF A c g z (pre ++ [p]) W' :=
  ⟨q', hide (by rw [hq, h1.out, List.flatMap_append]; simp), hide (by rw [hq, List.length_append, List.length_append]; have := h2.out; simp only [List.length_singleton]; omega), hO, h5.trans hk.b, Nat.le_trans h6 hk.b.size, hk.cells h7 (by decide) (by decide)⟩
theorem FlightE.mrow {w0 W : World} {g : Nat} {x : FlightE} (h : Boxed w0 g x.arr 87) (hx : FlightOk W x) : ∀ u [Later w0 u], rowOf u g 2 39 = some x.msg.arr := fun u i => rowOf_eq (MsgE.arr_size hx) fun j v hj => by
  rw [((h u).2 (2 + j)).1]
  have h1 : x.arr[2 + j]? = x.cells[2 + j]? := by unfold FlightE.arr; simp
  have h2 : x.msg.arr[j]? = x.msg.cells[j]? := by unfold MsgE.arr; simp
  rw [h1]
  rw [h2] at hj
  rw [Nat.add_comm]
  exact hj
theorem setI_self {l : List IDE} (h : SortedI l) : setI l = l := (setI_unique h fun x => Iff.rfl).symm
def RootsPost (V : List ViewE) (w : World) (r : Ending) (w' : World) : Prop := ∃ q A c, Hid (q = rootsV V) ∧ r = .returned (.slice A q.length c) ∧ Own IDE.cells 2 24 w.heap.size w' (.slice A q.length c) q ∧ Below w.heap.size w w'
set_option maxRecDepth 200000 in
set_option maxHeartbeats 16000000 in
theorem roots_any (A : Option Addr) (c : Nat) (V : List ViewE) (w : World) (H : ViewsAt w A V) (hf : FewV V) :
    Calls Tryz.prog 20 #[.slice A V.length c] w (RootsPost V w) := by
  have hl := hf.l
  have HV := H.later
  have hl' : V.length ≤ 9223372036854775807 := by omega
  have HO : ∀ u [Later w u], Calls Tryz.prog 34 #[.slice A V.length c] u (OfPost A c V u) := fun u i => of_any A c V u (HV u) hf
  refine calls_marks Tryz.func20 rfl ?_
  simp only [Tryz.ntmps20, List.size_toArray, List.length_cons, List.length_nil, Nat.reduceAdd, Nat.reduceSub, Array.replicate_succ, Array.replicate_zero, List.push_toArray, List.append_toArray, List.nil_append, List.cons_append]
  go_upto_region 2 with (go_at_call 34; refine (HO _).mono ?_; rintro r wf ⟨g, rfl, hM, hbf⟩; have lf := later hbf)
  refine wp_name ?_
  intro w1 hw1
  have b1 : w1.heap[wf.heap.size]? = some (.cells #[.slice A V.length c, .map (some g)] 93 (0, 0)) := (by rw [← hw1]; simp only [heap_alloc_if, World.size_alloc]; repeat (first | rw [if_pos trivial] | rw [if_neg (by omega)] | rw [if_pos (by omega)]); try rfl)
  have hb1 : Below wf.heap.size wf w1 := by rw [← hw1]; exact (by repeat (first | with_reducible exact Below.refl _ _ | (with_reducible refine Below.drew ?_) | (with_reducible refine below_drewN ?_ _) | (with_reducible refine Below.alloc ?_ ?_ _; rotate_left; (first | omega | (simp <;> omega))) | (with_reducible refine Below.setCell ?_ ?_ _; rotate_left; (first | omega | (simp <;> omega)))))
  have hz1 : w1.heap.size = wf.heap.size + 1 := by rw [← hw1]; simp
  clear hw1
  have lw1 : Later w w1 := by have : Later wf w1 := ⟨hb1⟩; exact (show Later w wf by infer_instance).trans this
  have hM1 := hM.below hb1
  have H1 := HV w1
  have hbw := lw1.below
  clear hM hbf lf hb1 HO
  have hgF := blk_lt b1
  obtain ⟨gF, hgF'⟩ : ∃ x, x = wf.heap.size := ⟨_, rfl⟩
  rw [← hgF'] at b1 hgF hz1 ⊢
  clear hgF'
  go_upto_region 3 with fail
  refine wp_name ?_
  intro w2 hw2
  have b2 : w2.heap[w1.heap.size]? = some (.cells #[.slice none 0 0] 48 (0, 0)) := (by rw [← hw2]; simp only [heap_alloc_if, World.size_alloc]; repeat (first | rw [if_pos trivial] | rw [if_neg (by omega)] | rw [if_pos (by omega)]); try rfl)
  have hb2 : Below w1.heap.size w1 w2 := by rw [← hw2]; exact (by repeat (first | with_reducible exact Below.refl _ _ | (with_reducible refine Below.drew ?_) | (with_reducible refine below_drewN ?_ _) | (with_reducible refine Below.alloc ?_ ?_ _; rotate_left; (first | omega | (simp <;> omega))) | (with_reducible refine Below.setCell ?_ ?_ _; rotate_left; (first | omega | (simp <;> omega)))))
  clear hw2
  rw [hz1] at b2
  have hO2 : OutI (gF + 1) w1.heap.size [] w2 := ⟨none, 0, b2, Own.nil⟩
  go_wp2_with fail
  go_loopw [23] (fun i wr => ∃ (k : Nat) (q : List IDE), k ≤ V.length ∧ i = .int .i64 k ∧ Hid (q = (V.take k).flatMap rootsO) ∧ Hid (q.length ≤ 48 * k) ∧ OutI (gF + 1) w1.heap.size q wr ∧ Below w1.heap.size w1 wr) (fun i _ => V.length - (intOf i).toNat)
  case atStart => exact ⟨0, [], by omega, rfl, hide (by simp), hide (by simp), hO2, hb2⟩
  case round =>
    clear b2 hb2 hO2
    obtain ⟨k, q, hk, rfl, hq, hqn, hO, hbr⟩ := hrel
    have lrr : Later wr wr := Later.refl
    by_cases hlt : k < V.length
    · have lr1 : Later w1 wr := ⟨hbr⟩
      obtain ⟨b, o, v, rfl, hv, hmem, LV, -, -, -, hvo⟩ := (H1.later wr).get hlt
      have hki : (k : Int) < (V.length : Int) := by omega
      have hT := hide (take_snoc_get hv)
      have hvf := hf.v v hmem
      have hvn := hvf.n
      have hvm := hvf.m
      clear hv
      obtain ⟨nA, hnA⟩ : ∃ y, v.nA = y := ⟨_, rfl⟩
      obtain ⟨mA, hmA⟩ : ∃ y, v.mA = y := ⟨_, rfl⟩
      go_upto_region 6 with fail
      refine wp_name ?_
      intro w3 hw3
      obtain ⟨gV, hgV⟩ : ∃ y, y = wr.heap.size := ⟨_, rfl⟩
      rw [← hgV]
      have bV3 : w3.heap[gV]? = some (.cells v.arr 64 (0, 0)) := by rw [hgV]; exact (by rw [← hw3]; simp only [heap_alloc_if, World.size_alloc]; repeat (first | rw [if_pos trivial] | rw [if_neg (by omega)] | rw [if_pos (by omega)]); try rfl)
      clear hgV
      have hb3 : Below wr.heap.size wr w3 := by rw [← hw3]; exact (by repeat (first | with_reducible exact Below.refl _ _ | (with_reducible refine Below.drew ?_) | (with_reducible refine below_drewN ?_ _) | (with_reducible refine Below.alloc ?_ ?_ _; rotate_left; (first | omega | (simp <;> omega))) | (with_reducible refine Below.setCell ?_ ?_ _; rotate_left; (first | omega | (simp <;> omega)))))
      clear hw3
      have l33 : Later w3 w3 := Later.refl
      have BV3 := boxed bV3
      have hO3 := hO.below hb3
      have hb13 : Below w1.heap.size w1 w3 := hbr.trans (hb3.mono hbr.size)
      go_wp2_with fail
      go_loopw [30] (fun i wq => ∃ (j : Nat) (q1 : List IDE), j ≤ v.names.length ∧ i = .int .i64 j ∧ Hid (q1 = q ++ (v.names.take j).map NamedE.ref) ∧ Hid (q1.length = q.length + j) ∧ OutI (gF + 1) w1.heap.size q1 wq ∧ KI w1.heap.size w3 wq) (fun i _ => v.names.length - (intOf i).toNat)
      case atStart => exact ⟨0, q, by omega, rfl, hide (by simp), hide rfl, hO3, KI.refl⟩
      case round =>
        clear lrr lr1
        obtain ⟨j, q1, hj, rfl, hq1, hq1n, hO4, hk4⟩ := hrel
        have lrr : Later wr wr := Later.refl
        have hb14 : Below w1.heap.size w1 wr := hb13.trans hk4.b
        have bV4 := hk4.cells bV3 (by decide) (by decide)
        have BV4 := boxed bV4
        have hvo4 : ViewOk wr v := (H1.v v hmem).below hb14
        by_cases hlt2 : j < v.names.length
        · obtain ⟨nb, no, nm, hnA2, hnm, NC⟩ := names_get hvo4.n hlt2
          rw [hnA] at hnA2
          subst hnA2
          have hji : (j : Int) < (v.names.length : Int) := by omega
          have hTn := hide (take_snoc_get hnm)
          clear hnm
          obtain ⟨OA, OC, bO, hown⟩ := hO4
          go_upto_region 9 with fail
          refine wp_name ?_
          intro w5 hw5
          obtain ⟨B5, l5⟩ := box1 hw5
          have l55 : Later w5 w5 := Later.refl
          have hb5 : Below wr.heap.size wr w5 := by rw [← hw5]; exact (by repeat (first | with_reducible exact Below.refl _ _ | (with_reducible refine Below.drew ?_) | (with_reducible refine below_drewN ?_ _) | (with_reducible refine Below.alloc ?_ ?_ _; rotate_left; (first | omega | (simp <;> omega))) | (with_reducible refine Below.setCell ?_ ?_ _; rotate_left; (first | omega | (simp <;> omega)))))
          clear hw5
          have bO5 := blk_below bO hb5
          have BO5 := boxed bO5
          have hown5 := hown.below hb5
          have hz14 := hb14.size
          have hz5 := hb5.size
          have hq1b : q1.length ≤ 1000 := by rw [hq1n.out]; have := hqn.out; omega
          go_wp2_with (at_builtin; refine wpList_app1 rfl (.tmp 34) (.tmp 37) rfl IDE.enc idT nm.ref rfl rfl rfl (hown5.later _) (by rfl) (by omega) (by unfold maxLen; omega) (show w1.heap.size ≤ w5.heap.size by omega) ?_; intro A' c' w6 ho hm hb hg hat; obtain ⟨bO6, E1, E2⟩ := out_app bO5 hown5 ⟨hg, hat⟩ ho hb (by show w1.heap.size ≤ gF + 1; omega); have BO6 := boxed bO6; have l66 : Later w6 w6 := Later.refl)
          go_roundw
          case rel => exact ⟨j + 1, q1 ++ [nm.ref], by omega, by go_num, hide (by rw [hq1.out, hTn.out, List.map_append, List.append_assoc]; rfl), hide (by rw [List.length_append, hq1n.out]; rfl), E1, (hk4.trans (KI.of_below hb5 hz14)).trans E2⟩
          case measure => simp [intOf]; omega
        · have hj' : j = v.names.length := by omega
          subst hj'
          rw [List.take_length] at hq1
          obtain ⟨wN, rfl⟩ : ∃ z, z = wr := ⟨_, rfl⟩
          go_wp2_with fail
          go_loopw [43] (fun i wq => ∃ (n : Nat) (q2 : List IDE), n ≤ v.mail.length ∧ i = .int .i64 n ∧ Hid (q2 = q1 ++ (v.mail.take n).flatMap rootsM) ∧ Hid (q2.length ≤ q1.length + 7 * n) ∧ OutI (gF + 1) w1.heap.size q2 wq ∧ KI w1.heap.size w3 wq) (fun i _ => v.mail.length - (intOf i).toNat)
          case atStart => exact ⟨0, q1, by omega, rfl, hide (by simp), hide (by simp), hO4, hk4⟩
          case round =>
            clear lrr hO4 hk4 hb14 bV4 BV4 hvo4
            obtain ⟨n, q2, hn, rfl, hq2, hq2n, hO4, hk4⟩ := hrel
            have lrr : Later wr wr := Later.refl
            have hb14 : Below w1.heap.size w1 wr := hb13.trans hk4.b
            have hvo4 : ViewOk wr v := (H1.v v hmem).below hb14
            have hq2b : q2.length ≤ 1000 := by have := hq2n.out; have := hq1n.out; have := hqn.out; omega
            by_cases hlt3 : n < v.mail.length
            · obtain ⟨mb, mo, m, hmA2, hm, hmm, MC⟩ := mails_get hvo4.m hlt3
              rw [hmA] at hmA2
              subst hmA2
              have hni : (n : Int) < (v.mail.length : Int) := by omega
              have hTm := hide (take_snoc_get hm)
              have hmf := hvf.a m hmm
              clear hm
              obtain ⟨aA, haA⟩ : ∃ y, m.A = y := ⟨_, rfl⟩
              obtain ⟨OA, OC, bO, hown⟩ := hO4
              go_upto_region 14 with fail
              refine wp_name ?_
              intro w5 hw5
              obtain ⟨gM, hgM⟩ : ∃ y, y = wr.heap.size := ⟨_, rfl⟩
              rw [← hgM]
              have bM5 : w5.heap[gM]? = some (.cells #[.int .i64 m.iM, .int .i64 m.iS, .int .i64 m.tM, .int .i64 m.tS, .string m.method, .slice aA m.args.length m.c] 66 (0, 0)) := by rw [hgM]; exact (by rw [← hw5]; simp only [heap_alloc_if, World.size_alloc]; repeat (first | rw [if_pos trivial] | rw [if_neg (by omega)] | rw [if_pos (by omega)]); try rfl)
              clear hgM
              have BM5 := boxed bM5
              have l55 : Later w5 w5 := Later.refl
              have hb5 : Below wr.heap.size wr w5 := by rw [← hw5]; exact (by repeat (first | with_reducible exact Below.refl _ _ | (with_reducible refine Below.drew ?_) | (with_reducible refine below_drewN ?_ _) | (with_reducible refine Below.alloc ?_ ?_ _; rotate_left; (first | omega | (simp <;> omega))) | (with_reducible refine Below.setCell ?_ ?_ _; rotate_left; (first | omega | (simp <;> omega)))))
              clear hw5
              have bO5 := blk_below bO hb5
              have BO5 := boxed bO5
              have hown5 := hown.below hb5
              have hz14 := hb14.size
              have hz5 := hb5.size
              have hk5 : KI w1.heap.size w3 w5 := hk4.trans (KI.of_below hb5 hz14)
              go_upto_region 15 with (at_builtin; refine wpList_app1 rfl (.tmp 47) (.tmp 50) rfl IDE.enc idT m.dst rfl rfl rfl (hown5.later _) (by rfl) (by omega) (by unfold maxLen; omega) (show w1.heap.size ≤ w5.heap.size by omega) ?_; intro A' c' w6 ho hm hb hg hat; obtain ⟨bO6, E1, E2⟩ := out_app bO5 hown5 ⟨hg, hat⟩ ho hb (by show w1.heap.size ≤ gF + 1; omega); have BO6 := boxed bO6; have l66 : Later w6 w6 := Later.refl)
              refine wp_name ?_
              intro w7 hw7
              rw [hw7] at E1 E2
              clear hw7 BO6 bO6
              have hk7 : KI w1.heap.size w3 w7 := hk5.trans E2
              have bM7 := E2.cells bM5 (by decide) (by decide)
              have BM7 := boxed bM7
              have l77 : Later w7 w7 := Later.refl
              clear BM5 BO5 bO5 hown5 ho hb hg hat l66 l55
              go_wp2_with fail
              go_loopw [55] (fun i wq => ∃ (t : Nat) (q3 : List IDE), t ≤ m.args.length ∧ i = .int .i64 t ∧ Hid (q3 = (q2 ++ [m.dst]) ++ ((m.args.take t).filter fun a => a.kind == 2).map ValE.ref) ∧ Hid (q3.length ≤ q2.length + 1 + t) ∧ OutI (gF + 1) w1.heap.size q3 wq ∧ KI w1.heap.size w3 wq) (fun i _ => m.args.length - (intOf i).toNat)
              case atStart => exact ⟨0, q2 ++ [m.dst], by omega, rfl, hide (by simp), hide (by simp), E1, hk7⟩
              case round =>
                clear lrr hk4 hb14 hvo4 E1 hk7 bM7 BM7 l77
                obtain ⟨t, q3, ht, rfl, hq3, hq3n, hO4, hk4⟩ := hrel
                have lrr : Later wr wr := Later.refl
                have hb14 : Below w1.heap.size w1 wr := hb13.trans hk4.b
                have hvo4 : ViewOk wr v := (H1.v v hmem).below hb14
                have hq3b : q3.length ≤ 2000 := by have := hq3n.out; omega
                by_cases hlt4 : t < m.args.length
                · obtain ⟨ab, ao, a, haA2, ha, AC⟩ := ValE.get (hvo4.a m hmm) hlt4
                  rw [haA] at haA2
                  subst haA2
                  have hti : (t : Int) < (m.args.length : Int) := by omega
                  have hTa := hide (take_snoc_get ha)
                  clear ha
                  have hz14 := hb14.size
                  cases hkd : (a.kind == 2)
                  · go_wp2_with fail
                    go_roundw
                    case rel =>
                      have hb5 : Below wr.heap.size wr (wr.alloc (.cells a.arr 100)) := (Below.refl _ _).alloc (Nat.le_refl _) _
                      exact ⟨t + 1, q3, by omega, by go_num, hide (by rw [hq3.out, hTa.out, List.filter_append]; simp [hkd]), hide (by have := hq3n.out; omega), hO4.below hb5, hk4.trans (KI.of_below hb5 hz14)⟩
                    case measure => simp [intOf]; omega
                  · obtain ⟨OA, OC, bO, hown⟩ := hO4
                    go_upto_region 19 with fail
                    refine wp_name ?_
                    intro w5 hw5
                    obtain ⟨B5, l5⟩ := box1 hw5
                    have l55 : Later w5 w5 := Later.refl
                    have hb5 : Below wr.heap.size wr w5 := by rw [← hw5]; exact (by repeat (first | with_reducible exact Below.refl _ _ | (with_reducible refine Below.drew ?_) | (with_reducible refine below_drewN ?_ _) | (with_reducible refine Below.alloc ?_ ?_ _; rotate_left; (first | omega | (simp <;> omega))) | (with_reducible refine Below.setCell ?_ ?_ _; rotate_left; (first | omega | (simp <;> omega)))))
                    clear hw5
                    have bO5 := blk_below bO hb5
                    have BO5 := boxed bO5
                    have hown5 := hown.below hb5
                    have hz5 := hb5.size
                    go_wp2_with (at_builtin; refine wpList_app1 rfl (.tmp 62) (.tmp 65) rfl IDE.enc idT a.ref rfl rfl rfl (hown5.later _) (by rfl) (by omega) (by unfold maxLen; omega) (show w1.heap.size ≤ w5.heap.size by omega) ?_; intro A' c' w6 ho hm hb hg hat; obtain ⟨bO6, E1, E2⟩ := out_app bO5 hown5 ⟨hg, hat⟩ ho hb (by show w1.heap.size ≤ gF + 1; omega); have BO6 := boxed bO6; have l66 : Later w6 w6 := Later.refl)
                    go_roundw
                    case rel => exact ⟨t + 1, q3 ++ [a.ref], by omega, by go_num, hide (by rw [hq3.out, hTa.out, List.filter_append]; simp [hkd]), hide (by rw [List.length_append]; have := hq3n.out; simp only [List.length_singleton]; omega), E1, (hk4.trans (KI.of_below hb5 hz14)).trans E2⟩
                    case measure => simp [intOf]; omega
                · have ht' : t = m.args.length := by omega
                  subst ht'
                  rw [List.take_length] at hq3
                  go_wp2_with fail
                  go_roundw
                  case rel => exact ⟨n + 1, q3, by omega, by go_num, hide (by rw [hq3.out, hTm.out, List.flatMap_append, hq2.out]; simp [rootsM]), hide (by have := hq3n.out; have := hq2n.out; omega), hO4, hk4⟩
                  case measure => simp [intOf]; omega
            · have hn' : n = v.mail.length := by omega
              subst hn'
              rw [List.take_length] at hq2
              go_wp2_with fail
              go_roundw
              case rel => exact ⟨k + 1, q2, by omega, by go_num, hide (by rw [hq2.out, hq1.out, hT.out, List.flatMap_append, hq.out]; simp [rootsO]), hide (by have := hq2n.out; have := hq1n.out; have := hqn.out; omega), hO4, hb14⟩
              case measure => simp [intOf]; omega
    · have hk' : k = V.length := by omega
      subst hk'
      rw [List.take_length] at hq
      have bF := blk_below b1 hbr
      have BF := boxed bF
      obtain ⟨wz, rfl⟩ : ∃ z, z = wr := ⟨_, rfl⟩
      go_wp2_with (go_at_call 35; refine (flights_mk A c V g wz).mono ?_; rintro e w' ⟨rfl, rfl⟩)
      refine wp_name ?_
      intro w5 hw5
      have b5 : w5.heap[wz.heap.size]? = some (.cells #[.slice A V.length c, .map (some g)] 93 (0, 0)) := (by rw [← hw5]; simp only [heap_alloc_if, World.size_alloc]; repeat (first | rw [if_pos trivial] | rw [if_neg (by omega)] | rw [if_pos (by omega)]); try rfl)
      have hb5 : Below wz.heap.size wz w5 := by rw [← hw5]; exact (by repeat (first | with_reducible exact Below.refl _ _ | (with_reducible refine Below.drew ?_) | (with_reducible refine below_drewN ?_ _) | (with_reducible refine Below.alloc ?_ ?_ _; rotate_left; (first | omega | (simp <;> omega))) | (with_reducible refine Below.setCell ?_ ?_ _; rotate_left; (first | omega | (simp <;> omega)))))
      have hz5 : w5.heap.size = wz.heap.size + 1 := by rw [← hw5]; simp
      clear hw5
      have hb15 : Below w1.heap.size w1 w5 := hbr.trans (hb5.mono hbr.size)
      have hz15 := hb15.size
      have hO5 := hO.below hb5
      have bF5 := blk_below bF hb5
      clear lrr BF
      refine wp_rangeV (gf := 64) (lb := #[.pointer (some ⟨wz.heap.size, 0, none⟩)]) rfl (enters_of Tryz.func64 (by kernel_rfl) rfl) (flights_stops 8 (by omega) wz.heap.size A c V g w1 H1 hM1 hf w5 hb15 b5) (by omega) (Below.refl _ _) (fun _ => rfl)
        (fun pre W => InvRt V w1 gF A c g w5.heap.size (pre.map Subtype.val) W)
        (fun _ _ => False)
        ?hI (fun _ _ _ _ h _ _ => h) (fun _ _ h => by obtain ⟨q, -, -, -, -, h, -⟩ := h; exact h) ?h0 (blks := fun p => [(p.1.1.arr, 64), (p.1.2.arr, 87)]) (tm := ?tm) ?hassign ?hbody ?hdone (fun _ _ _ _ _ h _ => h.elim)
      case h0 =>
        exact ⟨q, hide (by rw [hq.out]; simp), hide (by have := hqn.out; simp only [List.map_nil, List.length_nil]; omega), hO5, hb15, Nat.le_refl _, bF5⟩
      case hI =>
        rintro s W W' row ⟨q, h1, h2, h3, h4, h5, h6⟩ hg hr
        have hne : ∀ (k : Nat) (cs : Array Value) (t : TypeId) (fr : Nat × Nat), W.heap[k]? = some (.cells cs t fr) → row ≠ some k := fun k cs t fr hk e => by
          obtain ⟨_, o, ho, hc⟩ := hr k e
          rw [hk] at ho; injection ho with ho; subst ho; cases hc
        exact ⟨q, h1, h2, h3.grown hg fun r e => (hr r e).2, h4.grown hg h4.size fun k e => by have := (hr k e).1; omega, Nat.le_trans h5 hg.size, (hg.block _ (blk_lt h6) (fun e => hne _ _ _ _ h6 e.symm)).trans h6⟩
      case hassign =>
        intro l p W Bx K hB hK
        have hR := flight_isRow ((H1.v p.1.1 p.2.1).g p.1.2 p.2.2)
        replace hK : ∀ a', a' = _ → K a' ((W.alloc (.cells p.1.1.arr 64)).alloc (.cells p.1.2.arr 87)) := hK
        simp only [FlX.encs]
        gi_wp2
        rfl
      case hbody =>
        clear hO hO5 hb15 bF5 b5 hb5 hbr bF hq hqn
        rintro l pre ⟨⟨v, x⟩, hvm, hxm⟩ Bx W hBx hblk hinv hlen
        have bV : W.heap[Bx]? = some (.cells v.arr 64 (0, 0)) := hblk 0 _ _ rfl
        have bX : W.heap[Bx + 1]? = some (.cells x.arr 87 (0, 0)) := hblk 1 _ _ rfl
        have BV := boxed bV
        have BX := boxed bX
        have lWW : Later W W := Later.refl
        have hxf := (hf.v v hvm).g x hxm
        have hp6 := hxf.l
        have hm4 := hxf.m
        obtain ⟨q, hq, hqn, hO, hbW, hzW, bF⟩ := hinv
        have hxo1 : FlightOk w1 x := (H1.v v hvm).g x hxm
        have hxo : FlightOk W x := hxo1.below hbW
        have BF := boxed bF
        have hB1 : w1.heap.size ≤ W.heap.size := hbW.size
        have MR := FlightE.mrow BX hxo
        have hMr := msg_isRow hxo
        have hqb : q.length ≤ 2000 := by have := hqn.out; rw [List.length_map] at this; omega
        have hFin : ∀ (W' : World) (q' : List IDE), KI w1.heap.size W W' → q' = q ++ rootsF V (v, x) → (rootsF V (v, x)).length ≤ 28 → OutI (gF + 1) w1.heap.size q' W' → ∀ a, roundPost w5.heap.size w1.heap.size (fun pre W => InvRt V w1 gF A c g w5.heap.size (pre.map Subtype.val) W) (fun _ _ => False) (pre ++ [(⟨(v, x), hvm, hxm⟩ : FlX V)]) W .normal a W' := fun W' q' hk he hn hO' a =>
          .inl ⟨rfl, hk.keepsFrom, hk.kpV, by show InvRt V w1 gF A c g w5.heap.size ((pre ++ [(⟨(v, x), hvm, hxm⟩ : FlX V)]).map Subtype.val) W'; rw [List.map_append]; exact InvRt.of hq hqn hbW hzW bF hk he hn hO'⟩
        clear hblk
        obtain ⟨q0, hq0⟩ : ∃ b, (x.msg.kind == 0) = b := ⟨_, rfl⟩
        obtain ⟨q17, hq17⟩ : ∃ b, (x.msg.kind == 17) = b := ⟨_, rfl⟩
        obtain ⟨q1, hq1⟩ : ∃ b, (x.msg.kind == 1) = b := ⟨_, rfl⟩
        have H0 : Hid (x.msg.kind = 0 ↔ q0 = true) := hide (by rw [← hq0]; simp)
        have H17 : Hid (x.msg.kind = 17 ↔ q17 = true) := hide (by rw [← hq17]; simp)
        have H1' : Hid (x.msg.kind = 1 ↔ q1 = true) := hide (by rw [← hq1]; simp)
        have hbm : Below W.heap.size W (W.alloc (.cells x.msg.arr 85)) := (Below.refl _ _).alloc (Nat.le_refl _) _
        have hkm : KI w1.heap.size W (W.alloc (.cells x.msg.arr 85)) := KI.of_below hbm hB1
        cases q0
        · cases q17
          · cases q1
            · have hrF : rootsF V (v, x) = [] := by
                unfold rootsF
                rw [if_neg (fun h => by have := H0.out.1 h; cases this), if_neg (fun h => by have := H17.out.1 h; cases this), if_neg (fun h => by have := H1'.out.1 h; cases this)]
              gi_wp2
              exact hFin _ q hkm (by rw [hrF]; simp) (by rw [hrF]; simp) (hO.below hbm) _
            · have hk1 := H1'.out.2 rfl
              have hk0 : ¬ x.msg.kind = 0 := fun h => by have := H0.out.1 h; cases this
              have hk17 : ¬ x.msg.kind = 17 := fun h => by have := H17.out.1 h; cases this
              have hrF := hide (show rootsF V (v, x) = x.msg.parcel.mail.flatMap fun l => x.msg.parcel.id :: l.args.map (refId V v.machine x.dst) by unfold rootsF; rw [if_neg hk0, if_neg hk17, if_pos hk1])
              clear hk0 hk17 H0 H17 H1'
              have hrn := hide (show (rootsF V (v, x)).length ≤ 28 by
                rw [hrF.out]
                have : ∀ (l : List LetterE), (∀ y ∈ l, y.args.length ≤ 6) → (l.flatMap fun l => x.msg.parcel.id :: l.args.map (refId V v.machine x.dst)).length ≤ 7 * l.length := by
                  intro l
                  induction l with
                  | nil => intro _; simp
                  | cons y l ih =>
                    intro h
                    have h1 := ih fun z hz => h z (List.mem_cons_of_mem _ hz)
                    have h2 := h y List.mem_cons_self
                    rw [List.flatMap_cons, List.length_append, List.length_cons, List.length_cons, List.length_map]
                    omega
                have := this x.msg.parcel.mail hxf.a
                omega)
              obtain ⟨fA, hfA⟩ : ∃ fA, x.msg.parcel.mA = fA := ⟨_, rfl⟩
              gi_wp2
              refine wpIn_name ?_
              intro w3 hw3
              have bM3 : w3.heap[W.heap.size]? = some (.cells x.msg.arr 85 (0, 0)) := (by rw [← hw3]; simp only [heap_alloc_if, World.size_alloc]; repeat (first | rw [if_pos trivial] | rw [if_neg (by omega)] | rw [if_pos (by omega)]); try rfl)
              have hb3 : Below W.heap.size W w3 := by rw [← hw3]; exact (by repeat (first | with_reducible exact Below.refl _ _ | (with_reducible refine Below.drew ?_) | (with_reducible refine below_drewN ?_ _) | (with_reducible refine Below.alloc ?_ ?_ _; rotate_left; (first | omega | (simp <;> omega))) | (with_reducible refine Below.setCell ?_ ?_ _; rotate_left; (first | omega | (simp <;> omega)))))
              have hz3 : w3.heap.size = W.heap.size + 1 := by rw [← hw3]; simp
              clear hw3
              obtain ⟨gM, hgM⟩ : ∃ y, y = W.heap.size := ⟨_, rfl⟩
              rw [← hgM] at bM3 ⊢
              clear hgM
              have hO3 := hO.below hb3
              gi_loopw [110] (fun i wr => ∃ (j : Nat) (q1 : List IDE), j ≤ x.msg.parcel.mail.length ∧ i = .int .i64 j ∧ Hid (q1 = q ++ (x.msg.parcel.mail.take j).flatMap fun l => x.msg.parcel.id :: l.args.map (refId V v.machine x.dst)) ∧ Hid (q1.length ≤ q.length + 7 * j) ∧ OutI (gF + 1) w1.heap.size q1 wr ∧ KI w1.heap.size w3 wr) (fun i _ => x.msg.parcel.mail.length - (intOf i).toNat)
              case atStart => exact ⟨0, q, by omega, rfl, hide (by simp), hide (by simp), hO3, KI.refl⟩
              case round =>
                obtain ⟨j, q1, hj, rfl, hq1, hq1n, hO4, hk4⟩ := hrel
                have lrr : Later wr wr := Later.refl
                have bM4 := hk4.cells bM3 (by decide) (by decide)
                have BM4 := boxed bM4
                have hk0r : KI w1.heap.size W wr := (KI.of_below hb3 hB1).trans hk4
                have hbr : Below w1.heap.size w1 wr := hbW.trans hk0r.b
                by_cases hlt : j < x.msg.parcel.mail.length
                · obtain ⟨mb, mo, m, hmA, hm, hmm, MC⟩ := letters_get (hxo1.p.m.below hbr) hlt
                  rw [hfA] at hmA
                  subst hmA
                  have hji : (j : Int) < (x.msg.parcel.mail.length : Int) := by omega
                  have hT := hide (take_snoc_get hm)
                  have hmf := hxf.a m hmm
                  have hmo := hxo1.p.l m hmm
                  clear hm
                  obtain ⟨OA, OC, bO, hown⟩ := hO4
                  have BO4 := boxed bO
                  have hq1b : q1.length ≤ 3000 := by have := hq1n.out; omega
                  have hbn : Below wr.heap.size wr (wr.alloc (.cells m.arr 72)) := (Below.refl _ _).alloc (Nat.le_refl _) _
                  have hownn := hown.below hbn
                  have hzr : w1.heap.size ≤ wr.heap.size := hbr.size
                  gi_wp2_with (gi_at_builtin; refine wpListIn_app1 rfl (.tmp 114) (.tmp 118) rfl IDE.enc idT x.msg.parcel.id rfl rfl (by simp) hownn (by rfl) (by omega) (by unfold maxLen; omega) (by simp; omega) ?_; intro A' c' w4 ho hst hb; obtain ⟨bO6, E1, E2⟩ := out_app (blk_below bO hbn) hownn hst ho hb (by show w1.heap.size ≤ gF + 1; omega); have BO6 := boxed bO6; have l44 : Later w4 w4 := Later.refl; have BL6 := boxed (E2.cells (heap_alloc_new wr _) (by decide) (by decide)); have l66 : Later (w4.setCell ⟨gF + 1, 0, none⟩ (.slice A' (q1.length + 1) c')) (w4.setCell ⟨gF + 1, 0, none⟩ (.slice A' (q1.length + 1) c')) := Later.refl)
                  have hkn : KI w1.heap.size wr (wr.alloc (.cells m.arr 72)) := KI.of_below hbn hzr
                  have hk7 := hkn.trans E2
                  have hkW7 := hk0r.trans hk7
                  refine ⟨trivial, ?_⟩
                  refine (CallsIn.inRound l (callsIn_wide.2 (roots1_any A c V g v x m.args m.A m.c w1 H1 hM1 hf (q1 ++ [x.msg.parcel.id]) _ (hbW.trans hkW7.b) (gF + 1) gF Bx (Bx + 1) (by omega) E1 (hkW7.cells bF (by decide) (by decide)) (hkW7.cells bV (by decide) (by decide)) (hkW7.cells bX (by decide) (by decide)) (fun u hu => SlAt.below hmo ((hbW.trans hkW7.b).trans hu.b)) hmf (by rw [List.length_append, List.length_singleton]; omega)))).mono ?_
                  rintro r w9 ⟨rfl, hO9, hk9⟩
                  gi_wp2
                  go_roundw
                  case rel => exact ⟨j + 1, _, by omega, by go_num, hide (by rw [hq1.out, hT.out, List.flatMap_append]; simp), hide (by rw [List.length_append, List.length_append, List.length_map, List.length_singleton]; have := hq1n.out; omega), hO9, (hk4.trans hk7).trans hk9⟩
                  case measure => simp [intOf]; omega
                · have hj' : j = x.msg.parcel.mail.length := by omega
                  subst hj'
                  rw [List.take_length] at hq1
                  gi_wp2
                  exact hFin _ q1 hk0r (by rw [hq1.out, hrF.out]) hrn.out hO4 _
          · have hk17 := H17.out.2 rfl
            have hk0 : ¬ x.msg.kind = 0 := fun h => by have := H0.out.1 h; cases this
            have hrF := hide (show rootsF V (v, x) = [refId V v.machine x.dst x.msg.ref] by unfold rootsF; rw [if_neg hk0, if_pos hk17])
            clear hk0 H0 H17 H1'
            obtain ⟨w7, hw7⟩ : ∃ z, z = (W.alloc (.cells x.msg.arr 85)).alloc (.cells x.msg.ref.arr 69) := ⟨_, rfl⟩
            have hk7 : KI w1.heap.size W w7 := by rw [hw7]; exact hkm.trans (KI.of_below ((Below.refl _ _).alloc (Nat.le_refl _) _) (Nat.le_trans hB1 hbm.size))
            have hr7 : w7.heap[W.heap.size + 1]? = some (.cells x.msg.ref.arr 69 (0, 0)) := (by rw [← hw7.symm]; simp only [heap_alloc_if, World.size_alloc]; repeat (first | rw [if_pos trivial] | rw [if_neg (by omega)] | rw [if_pos (by omega)]); try rfl)
            obtain ⟨lr, hlr⟩ : ∃ l, l = [x.msg.ref] := ⟨_, rfl⟩
            have hO7 : OutI (gF + 1) w1.heap.size q w7 := by rw [hw7]; exact (hO.below hbm).below ((Below.refl _ _).alloc (Nat.le_refl _) _)
            have hcl := roots1_any A c V g v x lr (some ⟨W.heap.size + 1, 0, none⟩) 1 w1 H1 hM1 hf q w7 (hbW.trans hk7.b) (gF + 1) gF Bx (Bx + 1) (by omega) hO7 (hk7.cells bF (by decide) (by decide)) (hk7.cells bV (by decide) (by decide)) (hk7.cells bX (by decide) (by decide)) (fun u hu => by rw [hlr]; exact blk_slAt RefE.enc (fr := (0, 0)) (e := 69) (hu.cells hr7 (by decide) (by decide)) [x.msg.ref] rfl) (by rw [hlr]; simp) (by omega)
            rw [show lr.length = 1 by rw [hlr]; rfl, hw7] at hcl
            rw [hw7] at hk7
            clear hr7 hO7 hw7
            gi_wp2
            refine ⟨trivial, ?_⟩
            refine (CallsIn.inRound l (callsIn_wide.2 hcl)).mono ?_
            rintro r w9 ⟨rfl, hO9, hk9⟩
            gi_wp2
            exact hFin _ _ (hk7.trans hk9) (by rw [hrF.out, hlr]; rfl) (by rw [hrF.out]; simp) hO9 _
        · have hk0 := H0.out.2 rfl
          have hrF := hide (show rootsF V (v, x) = numId V v.machine x.dst x.msg.number :: x.msg.letter.args.map (refId V v.machine x.dst) by unfold rootsF; rw [if_pos hk0])
          clear hk0 H0 H17 H1'
          have hcalls : ∀ u, Below w1.heap.size w1 u → Calls Tryz.prog 43 #[fleetV A c V g, .int .i64 v.machine, .int .i64 x.dst, .int .u64 x.msg.number] u (NumPost V v.machine x.dst x.msg.number u) := fun u hu => numbered_any A c V g v.machine x.dst x.msg.number u (H1.below hu) (hM1.below hu) hf
          obtain ⟨val, hval⟩ : ∃ y, numId V v.machine x.dst x.msg.number = y := ⟨_, rfl⟩
          unfold NumPost at hcalls
          rw [hval] at hcalls
          have Hval := hide hval
          clear hval
          obtain ⟨W0, hW0⟩ : ∃ z, z = w1 := ⟨_, rfl⟩
          subst hW0
          obtain ⟨q', hqq⟩ : ∃ z, z = q := ⟨_, rfl⟩
          subst hqq
          obtain ⟨OA, OC, bO, hown⟩ := hO
          gi_wp2
          refine wpIn_name ?_
          intro w3 hw3
          obtain ⟨gR, hgR⟩ : ∃ y, y = W.heap.size := ⟨_, rfl⟩
          rw [← hgR]
          have bR3 : w3.heap[gR]? = some (.cells x.msg.arr 85 (0, 0)) := by rw [hgR]; exact (by rw [← hw3]; simp only [heap_alloc_if, World.size_alloc]; repeat (first | rw [if_pos trivial] | rw [if_neg (by omega)] | rw [if_pos (by omega)]); try rfl)
          clear hgR
          have hb3 : Below W.heap.size W w3 := by rw [← hw3]; exact (by repeat (first | with_reducible exact Below.refl _ _ | (with_reducible refine Below.drew ?_) | (with_reducible refine below_drewN ?_ _) | (with_reducible refine Below.alloc ?_ ?_ _; rotate_left; (first | omega | (simp <;> omega))) | (with_reducible refine Below.setCell ?_ ?_ _; rotate_left; (first | omega | (simp <;> omega)))))
          clear hw3
          have hk3 : KI W0.heap.size W w3 := KI.of_below hb3 hB1
          have bO3 := blk_below bO hb3
          have bF3 := blk_below bF hb3
          have bV3 := blk_below bV hb3
          have bX3 := blk_below bX hb3
          have hfo3 := hown.below hb3
          have hz3 : W0.heap.size ≤ w3.heap.size := Nat.le_trans hB1 hb3.size
          obtain ⟨row, hrowe⟩ : ∃ q, q = (Value.slice OA q'.length OC).ownBlock := ⟨_, rfl⟩
          have hrow : ∀ k, row = some k → k < w3.heap.size := fun k hk => (World.ownsRow.lt hfo3 k (hrowe ▸ hk)).2
          have hrowB : ∀ k, row = some k → W0.heap.size ≤ k := fun k hk => (World.ownsRow.lt hfo3 k (hrowe ▸ hk)).1
          have hOld : ∀ u, w3.drew.grownBy u row → ∀ (k : Nat) (cs : Array Value) (t : TypeId), w3.heap[k]? = some (.cells cs t (0, 0)) → 24 ≠ t → u.heap[k]? = some (.cells cs t (0, 0)) := fun u hu k cs t hk ht => (hu.block k (blk_lt hk) (fun e => own_off hfo3 hk ht (by rw [← hrowe]; exact e.symm))).trans hk
          have HO : ∀ u, w3.drew.grownBy u row → u.heap[gF + 1]? = _ := fun u hu => hOld u hu _ _ _ bO3 (by decide)
          have HF : ∀ u, w3.drew.grownBy u row → u.heap[gF]? = _ := fun u hu => hOld u hu _ _ _ bF3 (by decide)
          have HVb : ∀ u, w3.drew.grownBy u row → u.heap[Bx]? = _ := fun u hu => hOld u hu _ _ _ bV3 (by decide)
          have HXb : ∀ u, w3.drew.grownBy u row → u.heap[Bx + 1]? = _ := fun u hu => hOld u hu _ _ _ bX3 (by decide)
          have HRb : ∀ u, w3.drew.grownBy u row → u.heap[gR]? = _ := fun u hu => hOld u hu _ _ _ bR3 (by decide)
          have hBU : ∀ u, w3.drew.grownBy u row → Below W0.heap.size W0 u := fun u hu => (hbW.trans hk3.b).drew.grown hu (by exact hz3) hrowB
          refine wpIn_region_invA (last := 11) (ap := 10) (row := row) (by kernel_rfl) (by kernel_rfl) ?hQ (R := specRA [.is (.slice OA q'.length OC), .is (fleetV A c V g), .is (.pointer (some ⟨Bx, 0, none⟩)), .is (.int .i64 v.machine), .is (.pointer (some ⟨Bx + 1, 0, none⟩)), .is (.int .i64 x.dst), .is (.pointer (some ⟨gR, 1, none⟩)), .is (.int .u64 x.msg.number), .is val.v, SpecA.blk hrow (fun g => .slice (some ⟨g, 0, none⟩) 1 1) val.arr 24, .any]) (J := appI W0.heap.size q' val OA OC) (specRA_mono (B := w3.heap.size) (row := row) _) (appI_mono _ _ _ _ _) (by kernel_rfl) (by kernel_rfl) (by kernel_rfl) (Own.below hfo3 (Below.refl _ _).drew) (steps_all ?_) ?_ ?_ (fun h => absurd h (by decide))
          case hQ =>
            rintro ⟨a, u, h⟩
            exact roundPost_lets (Bl := w5.heap.size) (B := W0.heap.size) (I := fun pre W => InvRt V W0 gF A c g w5.heap.size (pre.map Subtype.val) W) (Ir := fun _ _ => False) (xs := pre ++ [(⟨(v, x), hvm, hxm⟩ : FlX V)]) (W := W) ⟨a, u, h⟩
          · refine ⟨?_, ?_, ?_, ?_, ?_, ?_, ?_, ?_, ?_, ?_, ?_, ?_, trivial⟩
            · intro hne hne2 a u lu hN hO K hK
              (try simp only [Nat.zero_add, Nat.reduceAdd] at hN hK)
              have e0 : a.tmps.getD 4 undef = .pointer (some ⟨gF + 1, 0, none⟩) := (hO 4 (out_get (by kernel_rfl))).trans rfl
              simp only [Array.getD_eq_getD_getElem?] at e0
              have X := boxed (HO u lu)
              have luu : Later u u := Later.refl
              rw [if_pos (by rfl)]
              go_simp
              exact hK _ _ Later.refl rfl
            · intro hne hne2 a u lu hN hO K hK
              (try simp only [Nat.zero_add, Nat.reduceAdd] at hN hK)
              have e0 : a.tmps.getD 3 undef = .pointer (some ⟨gF, 0, none⟩) := (hO 3 (out_get (by kernel_rfl))).trans rfl
              simp only [Array.getD_eq_getD_getElem?] at e0
              have X := boxed (HF u lu)
              have luu : Later u u := Later.refl
              rw [if_pos (by rfl)]
              go_simp
              exact hK _ _ Later.refl rfl
            · intro hne hne2 a u lu hN hO K hK
              (try simp only [Nat.zero_add, Nat.reduceAdd] at hN hK)
              have e0 : a.tmps.getD 13 undef = .pointer (some ⟨Bx, 0, none⟩) := (hO 13 (out_get (by kernel_rfl))).trans rfl
              simp only [Array.getD_eq_getD_getElem?] at e0
              rw [if_pos (by rfl)]
              go_simp
              exact hK _ _ Later.refl rfl
            · intro hne hne2 a u lu hN hO K hK
              (try simp only [Nat.zero_add, Nat.reduceAdd] at hN hK)
              have e0 : a.tmps.getD 83 undef = .pointer (some ⟨Bx, 0, none⟩) := hN 2 (needs_get (by kernel_rfl))
              simp only [Array.getD_eq_getD_getElem?] at e0
              have X := boxed (HVb u lu)
              have luu : Later u u := Later.refl
              rw [if_pos (by rfl)]
              go_simp
              exact hK _ _ Later.refl rfl
            · intro hne hne2 a u lu hN hO K hK
              (try simp only [Nat.zero_add, Nat.reduceAdd] at hN hK)
              have e0 : a.tmps.getD 14 undef = .pointer (some ⟨Bx + 1, 0, none⟩) := (hO 14 (out_get (by kernel_rfl))).trans rfl
              simp only [Array.getD_eq_getD_getElem?] at e0
              rw [if_pos (by rfl)]
              go_simp
              exact hK _ _ Later.refl rfl
            · intro hne hne2 a u lu hN hO K hK
              (try simp only [Nat.zero_add, Nat.reduceAdd] at hN hK)
              have e0 : a.tmps.getD 85 undef = .pointer (some ⟨Bx + 1, 0, none⟩) := hN 4 (needs_get (by kernel_rfl))
              simp only [Array.getD_eq_getD_getElem?] at e0
              have X := boxed (HXb u lu)
              have luu : Later u u := Later.refl
              rw [if_pos (by rfl)]
              go_simp
              exact hK _ _ Later.refl rfl
            · intro hne hne2 a u lu hN hO K hK
              (try simp only [Nat.zero_add, Nat.reduceAdd] at hN hK)
              have e0 : a.tmps.getD 16 undef = .pointer (some ⟨gR, 0, none⟩) := (hO 16 (out_get (by kernel_rfl))).trans rfl
              simp only [Array.getD_eq_getD_getElem?] at e0
              rw [if_pos (by rfl)]
              go_simp
              exact hK _ _ Later.refl rfl
            · intro hne hne2 a u lu hN hO K hK
              (try simp only [Nat.zero_add, Nat.reduceAdd] at hN hK)
              have e0 : a.tmps.getD 87 undef = .pointer (some ⟨gR, 1, none⟩) := hN 6 (needs_get (by kernel_rfl))
              simp only [Array.getD_eq_getD_getElem?] at e0
              have X := boxed (HRb u lu)
              have luu : Later u u := Later.refl
              rw [if_pos (by rfl)]
              go_simp
              exact hK _ _ Later.refl rfl
            · intro hne hne2 a u lu hN hO K hK
              (try simp only [Nat.zero_add, Nat.reduceAdd] at hN hK)
              have e0 : a.tmps.getD 82 undef = fleetV A c V g := hN 1 (needs_get (by kernel_rfl))
              simp only [Array.getD_eq_getD_getElem?] at e0
              have e1 : a.tmps.getD 84 undef = .int .i64 v.machine := hN 3 (needs_get (by kernel_rfl))
              simp only [Array.getD_eq_getD_getElem?] at e1
              have e2 : a.tmps.getD 86 undef = .int .i64 x.dst := hN 5 (needs_get (by kernel_rfl))
              simp only [Array.getD_eq_getD_getElem?] at e2
              have e3 : a.tmps.getD 88 undef = .int .u64 x.msg.number := hN 7 (needs_get (by kernel_rfl))
              simp only [Array.getD_eq_getD_getElem?] at e3
              rw [if_pos (by rfl)]
              go_simp
              refine (hcalls u (hBU u lu)).mono ?_
              rintro q u' ⟨rfl, hb⟩
              exact hK _ _ ⟨hb⟩ rfl
            · intro hne hne2 a u lu hN hO K hK
              (try simp only [Nat.zero_add, Nat.reduceAdd] at hN hK)
              have e0 : a.tmps.getD 89 undef = val.v := hN 8 (needs_get (by kernel_rfl))
              simp only [Array.getD_eq_getD_getElem?] at e0
              rw [if_pos (by rfl)]
              go_simp
              exact hK _ _ inferInstance ⟨u.heap.size, lu.size, rfl, heap_alloc_new _ _⟩
            · intro hne hne2 a u lu hN hO K hK
              (try simp only [Nat.zero_add, Nat.reduceAdd] at hN hK)
              exact absurd rfl hne2
            · intro hne hne2 a u lu hN hO K hK
              (try simp only [Nat.zero_add, Nat.reduceAdd] at hN hK)
              exact absurd rfl hne
          · intro op hop
            simp only [List.getElem?_toArray, List.getElem?_cons_succ, List.getElem?_cons_zero] at hop
            injection hop with hop
            subst hop
            intro a u lu hst hN hO K hK
            have e1 : a.tmps.getD 81 undef = .slice OA q'.length OC := hN 0 (needs_get (by kernel_rfl))
            obtain ⟨gq, hgB, e4, hq⟩ : ∃ g, w3.heap.size ≤ g ∧ a.tmps.getD 90 undef = .slice (some ⟨g, 0, none⟩) 1 1 ∧ u.heap[g]? = some (.cells val.arr 24 (0, 0)) := hN 9 (needs_get (by kernel_rfl))
            refine step_app2 (P := Tryz.prog) rfl (.tmp 81) (.tmp 90) (by rfl) IDE.enc idT _ _ [val] q' (.slice OA q'.length OC) e1 e4 (m := 1) (n := q'.length + 1) rfl rfl hst (blk_slAt IDE.enc (fr := (0, 0)) (e := 24) hq [val] rfl) (by omega) (by unfold maxLen; omega) (Nat.le_trans hz3 lu.size) ?_
            intro A' c' u' ho' hm' hst'
            exact hK _ u' (by rw [hrowe]; exact hst'.1) trivial ⟨A', c', rfl, ho'⟩
          intro op hop a u hI K hK
          simp only [List.getElem?_toArray, List.getElem?_cons_succ, List.getElem?_cons_zero] at hop
          injection hop with hop
          subst hop
          have e6 : a.tmps.getD 4 undef = .pointer (some ⟨gF + 1, 0, none⟩) := (hI.out 4 (out_get (by kernel_rfl))).trans rfl
          obtain ⟨A', c', e5, ho5⟩ : ∃ A' c', a.tmps.getD 91 undef = .slice A' (q'.length + 1) c' ∧ Own IDE.cells 2 24 W0.heap.size u (.slice A' (q'.length + 1) c') (q' ++ [val]) := hI.st
          have hgu := hI.grown
          have hdf : a.defers = [] := hI.defers.trans rfl
          have luu : Later u u := Later.refl
          have XO := boxed (HO u hgu)
          simp only [Array.getD_eq_getD_getElem?] at e5 e6
          rw [if_pos (by rfl)]
          go_simp
          refine hK _ _ ?_
          have hTm := tmps_of (L := [81, 82, 83, 84, 85, 86, 87, 88, 89, 90, 91]) hI.size (fun t ht => hI.out t (fun hm => ht hm))
          clear hK K e5 e6 hI
          obtain ⟨atm, adf⟩ := a
          dsimp only at hTm hdf
          subst hdf
          simp only [List.foldl_cons, List.foldl_nil, List.setIfInBounds_toArray, List.set_cons_succ, List.set_cons_zero] at hTm
          generalize atm.getD 91 undef = v10 at hTm
          generalize atm.getD 81 undef = v0 at hTm
          generalize atm.getD 82 undef = v1 at hTm
          generalize atm.getD 83 undef = v2 at hTm
          generalize atm.getD 84 undef = v3 at hTm
          generalize atm.getD 85 undef = v4 at hTm
          generalize atm.getD 86 undef = v5 at hTm
          generalize atm.getD 87 undef = v6 at hTm
          generalize atm.getD 88 undef = v7 at hTm
          generalize atm.getD 89 undef = v8 at hTm
          generalize atm.getD 90 undef = v9 at hTm
          subst hTm
          obtain ⟨E1, E2⟩ := out_end bO3 hfo3 hrowe hgu ho5 hz3 (by show W0.heap.size ≤ gF + 1; omega)
          have hk7 := hk3.trans E2
          have BR7 := boxed (E2.cells bR3 (by decide) (by decide))
          have bF7 := hk7.cells bF (by decide) (by decide)
          have bV7 := hk7.cells bV (by decide) (by decide)
          have bX7 := hk7.cells bX (by decide) (by decide)
          clear hOld HO HF HVb HXb HRb hBU hrow hrowB hgu XO
          generalize hw7 : u.setCell ⟨gF + 1, 0, none⟩ (.slice A' (q'.length + 1) c') = w7 at E1 E2 hk7 BR7 bF7 bV7 bX7 ⊢
          have l77 : Later w7 w7 := Later.refl
          clear hw7
          gi_wp2
          refine ⟨trivial, ?_⟩
          refine (CallsIn.inRound l (callsIn_wide.2 (roots1_any A c V g v x x.msg.letter.args x.msg.letter.A x.msg.letter.c W0 H1 hM1 hf (q' ++ [val]) _ (hbW.trans hk7.b) (gF + 1) gF Bx (Bx + 1) (by omega) E1 bF7 bV7 bX7 (fun u hu => SlAt.below hxo1.l ((hbW.trans hk7.b).trans hu.b)) hxf.l (by rw [List.length_append, List.length_singleton]; omega)))).mono ?_
          rintro r w9 ⟨rfl, hO9, hk9⟩
          gi_wp2
          exact hFin _ _ (hk7.trans hk9) (by rw [hrF.out, Hval.out]; simp) (by rw [hrF.out, List.length_cons, List.length_map]; omega) hO9 _
      case hdone =>
        clear hO hO5 hb15 bF5 b5 hb5 hbr bF hq hqn
        rintro D ys W hD hS ⟨q, hq, hqn, hO, hbW, hzW, bF⟩ hK
        have hys : ys.length ≤ 30 := by
          have h2 := flightsP_len (V := V) (L := V) fun u hu => (hf.v u hu).f
          have h3 : ys.length = (ys.map Subtype.val).length := by rw [List.length_map]
          rw [h3, hS]
          rw [flightsP_all] at h2
          omega
        rw [hS] at hq
        have hq2 : q.length ≤ 5000 := by have := hqn.out; rw [List.length_map] at this; omega
        obtain ⟨OA, OC, bO, hown⟩ := hO
        have BO := boxed bO
        have HD := there_of hK
        have hDl := blk_lt hK
        have lWW : Later W W := Later.refl
        have hbwW : Below w.heap.size w W := hbw.trans (hbW.mono hbw.size)
        have hSl := (hown.at_ IDE.enc).2.2
        have HSet : ∀ u [Later W u], Calls Tryz.prog 45 #[.slice OA q.length OC] u (SetIPost q u) := fun u i => setI_any OA OC q u (hSl.below i.below) (by omega)
        go_wp2_with (go_at_call 45; refine (HSet _).mono ?_; rintro r w8 ⟨s8, SA, SC, hs8, rfl, hos, hb8⟩; have l8 := later hb8)
        have lW8 : Below W.heap.size W w8 := below_of
        have hsl8 := (hos.at_ IDE.enc).2.2
        have hs8n : s8.length ≤ 5000 := by rw [hs8.out]; have := setI_len q; omega
        obtain ⟨lz, hlz⟩ : ∃ l : List IDE, l = [zeroI] := ⟨_, rfl⟩
        have hbz : Below w8.heap.size w8 (w8.alloc (.cells #[.int .i64 0, .int .i64 0] 24)) := (Below.refl _ _).alloc (Nat.le_refl _) _
        have hcm := minusI_any SA SC s8 (some ⟨w8.heap.size, 0, none⟩) 1 lz (w8.alloc (.cells #[.int .i64 0, .int .i64 0] 24)) (hsl8.below hbz) (by rw [hlz]; exact blk_slAt IDE.enc (fr := (0, 0)) (e := 24) (heap_alloc_new _ _) [zeroI] rfl) (by omega) (by rw [hlz]; simp)
        rw [show lz.length = 1 by rw [hlz]; rfl] at hcm
        refine hcm.mono ?_
        rintro r w10 ⟨q2, A2, c2, hq2, rfl, ho2, hb2⟩
        have hW8 := lW8.size
        have hz0 := hbwW.size
        have hzb := hbw.size
        have hbW10 : Below W.heap.size W w10 := lW8.trans ((hbz.mono hW8).trans (hb2.mono (Nat.le_trans hW8 hbz.size)))
        have hK10 := blk_below hK hbW10
        have hz10 := hb2.size
        have hzz := hbz.size
        have hqr := hide (show q2 = rootsV V by
          rw [hq2.out, hs8.out, setI_self (setI_sorted _), hlz, hq.out]
          unfold rootsV rootsRaw
          exact List.filter_congr fun y _ => by simp)
        go_wp2_with fail
        refine ret_marked rfl hK10 (results_tmp rfl _ _ _) ⟨q2, A2, c2, hqr, rfl, (own_putObj ho2 (by omega)).mono (by omega), putObj_below (hbwW.trans (hbW10.mono hz0)) (by omega)⟩
end Go.Proofs.YtpkfenlfgdbkcaaGreatDoor
