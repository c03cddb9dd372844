/-
  Contracts of the functions of this seat that each theorem names: what a call returns, and that it writes nothing that was there before. The conditions stand in each theorem.
-/
import Derived.Test.YtpkfenlfgdbkcaaGreatDoorP59Home
import Derived.Test.YtpkfenlfgdbkcaaGreatDoorGrp41
set_option linter.unusedSimpArgs false
set_option linter.unusedVariables false
namespace Go.Proofs.YtpkfenlfgdbkcaaGreatDoor
open Go.RowKit
attribute [local go_sem] Oper.semAt_some Instr.makeFunc
attribute [local simp] heap_drew
attribute [local go_sem ↓] load_view_pre load_flight_pre load_msg_pre store_view_pre store_flight_pre store_msg_pre load_scion_pre store_scion_pre
attribute [local go_sem] load_view load_flight load_msg store_view store_flight store_msg load_scion store_scion view_isRow zero_isRow scion_isRow zeroS_isRow rowFree_new setRow_new view_arr0 view_arr2 view_arr3 view_arr4 view_arr5 view_arr6 view_arr9 view_arr10 flight_arr0 flight_arr1 flight_arr2 flight_arr3 flight_arr6 flight_arr7 flight_arr8 flight_arr9 flight_arr10 flight_arr11 flight_arr12 flight_arr13 flight_arr17 flight_arr18 flight_arr19 flight_arr20 flight_arr21 flight_arr22 flight_arr23 flight_arr24 flight_arr25 msg_arr0 msg_arr1 msg_arr4 msg_arr5 msg_arr6 msg_arr7 msg_arr8 msg_arr9 msg_arr10 msg_arr11 msg_arr15 msg_arr16 msg_arr17 msg_arr18 msg_arr19 msg_arr20 msg_arr21 msg_arr22 msg_arr23
theorem grT : ElemT Tryz.prog 95 36 1 24 := ElemT.mk' (z := .agg #[.slice none 0 0]) Tryz.underlying95 (by kernel_rfl) rfl
theorem valsT : ElemT Tryz.prog 39 100 4 32 := ElemT.mk' (z := .agg #[.int .i64 0, .int .i64 0, .int .i64 0, .int .i64 0]) Tryz.underlying39 (by kernel_rfl) rfl
theorem ndsT : ElemT Tryz.prog 34 41 5 56 := ElemT.mk' (z := .agg #[.int .i64 0, .int .i64 0, .int .i64 0, .int .i64 0, .slice none 0 0]) Tryz.underlying34 (by kernel_rfl) rfl
def viewGr (v : ViewE) : GrE := ⟨v.oA, v.oc, v.objects⟩
/-- A graph that the views hold, or one that the call has made: seen from W; w1: the world ahead of the call's own. -/
def GrOk (w1 W : World) (x : GrE) : Prop := NodesAt w1 x.A x.l ∨ OwnG w1.heap.size W x.A x.c x.l
theorem OwnG.keptG {base : Nat} {W W' : World} {A : Option Addr} {c : Nat} {o : List NodeE} {row : Option Nat} (h : OwnG base W A c o) (hg : W.grownBy W' row) (hr : ∀ r, row = some r → ∃ o, W.heap[r]? = some o ∧ ∀ cs t fr, o = .cells cs t fr → t ≠ 41 ∧ t ≠ 100) : OwnG base W' A c o := by
  refine ⟨h.s.kept hg ?_, fun m hm => (h.f m hm).kept hg ?_, h.c⟩
  · cases hv : (Value.slice A o.length c).ownBlock with
    | none => exact .inl rfl
    | some g =>
      refine .inr fun e => ?_
      obtain ⟨cs, hc⟩ := own_type h.s hv
      obtain ⟨o, ho, hh⟩ := hr g e.symm
      rw [hc] at ho
      injection ho with ho
      exact (hh _ _ _ ho.symm).1 rfl
  · cases hv : (Value.slice m.A m.fields.length m.c).ownBlock with
    | none => exact .inl rfl
    | some g =>
      refine .inr fun e => ?_
      obtain ⟨cs, hc⟩ := own_type (h.f m hm) hv
      obtain ⟨o, ho, hh⟩ := hr g e.symm
      rw [hc] at ho
      injection ho with ho
      exact (hh _ _ _ ho.symm).2 rfl
theorem OwnG.mono {base base' : Nat} {W : World} {A : Option Addr} {c : Nat} {o : List NodeE} (h : OwnG base W A c o) (hb : base' ≤ base) : OwnG base' W A c o := ⟨h.s.mono hb, fun m hm => (h.f m hm).mono hb, h.c⟩
theorem OwnG.setG {base : Nat} {W : World} {A : Option Addr} {c : Nat} {o : List NodeE} (h : OwnG base W A c o) {g i : Nat} {cs : Array Value} {t : TypeId} {fr : Nat × Nat} (hg : W.heap[g]? = some (.cells cs t fr)) (h1 : t ≠ 41) (h2 : t ≠ 100) (v : Value) : OwnG base (W.setCell ⟨g, i, none⟩ v) A c o :=
  h.keptG (grown_setCell W ⟨g, i, none⟩ v) fun r e => by
    injection e with e
    subst e
    exact ⟨_, hg, fun cs' t' fr' e => by injection e with _ e _; rw [← e]; exact ⟨h1, h2⟩⟩
theorem OwnG.stepG {base0 : Nat} {W W' : World} {A : Option Addr} {c : Nat} {o : List NodeE} {v v' : Value} {base : Nat} {gs : List GrE} (h : OwnG base0 W A c o) (ho : Own GrE.cells 1 36 base W v gs) (hs : Step W W' v v') : OwnG base0 W' A c o :=
  h.keptG hs.1 fun r e => by
    obtain ⟨cs, hc⟩ := own_type ho e
    exact ⟨_, hc, fun cs' t' fr' e => by injection e with _ e _; rw [← e]; exact ⟨by decide, by decide⟩⟩
theorem GrOk.nodes {w1 W : World} {x : GrE} (h : GrOk w1 W x) (hb : Below w1.heap.size w1 W) : NodesAt W x.A x.l := h.elim (fun h => h.below hb) (fun h => h.nodes)
theorem GrOk.below {w1 W W' : World} {x : GrE} (h : GrOk w1 W x) (hb : Below W.heap.size W W') : GrOk w1 W' x := h.imp id fun h => h.below hb
/-- A block that is no row of nodes or values has changed. -/
theorem GrOk.kept {w1 W W' : World} {x : GrE} {row : Option Nat} (h : GrOk w1 W x) (hg : W.grownBy W' row) (hr : ∀ r, row = some r → ∃ o, W.heap[r]? = some o ∧ ∀ cs t fr, o = .cells cs t fr → t ≠ 41 ∧ t ≠ 100) : GrOk w1 W' x := by
  refine h.imp id fun h => ⟨h.s.kept hg ?_, fun m hm => (h.f m hm).kept hg ?_, h.c⟩
  · cases hv : (Value.slice x.A x.l.length x.c).ownBlock with
    | none => exact .inl rfl
    | some g =>
      refine .inr fun e => ?_
      obtain ⟨cs, hc⟩ := own_type h.s hv
      obtain ⟨o, ho, hh⟩ := hr g e.symm
      rw [hc] at ho
      injection ho with ho
      exact (hh _ _ _ ho.symm).1 rfl
  · cases hv : (Value.slice m.A m.fields.length m.c).ownBlock with
    | none => exact .inl rfl
    | some g =>
      refine .inr fun e => ?_
      obtain ⟨cs, hc⟩ := own_type (h.f m hm) hv
      obtain ⟨o, ho, hh⟩ := hr g e.symm
      rw [hc] at ho
      injection ho with ho
      exact (hh _ _ _ ho.symm).2 rfl
theorem GrOk.set {w1 W : World} {x : GrE} (h : GrOk w1 W x) {g i : Nat} {cs : Array Value} {t : TypeId} {fr : Nat × Nat} (hg : W.heap[g]? = some (.cells cs t fr)) (h1 : t ≠ 41) (h2 : t ≠ 100) (v : Value) : GrOk w1 (W.setCell ⟨g, i, none⟩ v) x :=
  h.kept (grown_setCell W ⟨g, i, none⟩ v) fun r e => by
    injection e with e
    subst e
    exact ⟨_, hg, fun cs' t' fr' e => by injection e with _ e _; rw [← e]; exact ⟨h1, h2⟩⟩
theorem GrOk.step {w1 W W' : World} {x : GrE} {v v' : Value} {base : Nat} {gs : List GrE} (h : GrOk w1 W x) (ho : Own GrE.cells 1 36 base W v gs) (hs : Step W W' v v') : GrOk w1 W' x :=
  h.kept hs.1 fun r e => by
    obtain ⟨cs, hc⟩ := own_type ho e
    exact ⟨_, hc, fun cs' t' fr' e => by injection e with _ e _; rw [← e]; exact ⟨by decide, by decide⟩⟩
theorem graphRow : Tryz.prog.underlying 36 = some (.struct (Tryz.prog.fieldsOf 36)) := by kernel_rfl
theorem graphN : (Tryz.prog.info? 36).map (·.size) = some 1 := by kernel_rfl
/-- What holds between two flights. -/
def InvGr (V : List ViewE) (w1 : World) (gF : Nat) (A : Option Addr) (c g z : Nat) (pre : List (ViewE × FlightE)) (W : World) : Prop :=
  ∃ gs OA OC, Hid (conGs gs = V.map (fun v => conL v.objects) ++ movesOf V pre) ∧ Hid (gs.length ≤ V.length + pre.length) ∧ (∀ x ∈ gs, GrOk w1 W x ∧ x.l.length ≤ 12 ∧ ∀ n ∈ x.l, n.fields.length ≤ 6) ∧ W.heap[gF + 1]? = some (.cells #[.slice OA gs.length OC] 95 (0, 0)) ∧ Own GrE.cells 1 36 w1.heap.size W (.slice OA gs.length OC) gs ∧ Below w1.heap.size w1 W ∧ z ≤ W.heap.size ∧ W.heap[gF]? = some (.cells #[.slice A V.length c, .map (some g)] 93 (0, 0))
theorem InvGr.below {V : List ViewE} {w1 : World} {gF : Nat} {A : Option Addr} {c g z : Nat} {pre pre' : List (ViewE × FlightE)} {W W' : World} (h : InvGr V w1 gF A c g z pre W) (hb : Below W.heap.size W W') (hm : movesOf V pre' = movesOf V pre) (hl : pre.length ≤ pre'.length) : InvGr V w1 gF A c g z pre' W' := by
  obtain ⟨gs, OA, OC, h1, h2, h3, h4, h5, h6, h7, h8⟩ := h
  exact ⟨gs, OA, OC, hide (by rw [hm]; exact h1.out), hide (by have := h2.out; omega), fun x hx => ⟨(h3 x hx).1.below hb, (h3 x hx).2⟩, blk_below h4 hb, h5.below hb, h6.trans (hb.mono h6.size), Nat.le_trans h7 hb.size, blk_below h8 hb⟩
theorem movesOf_app (V : List ViewE) (a b : List (ViewE × FlightE)) : movesOf V (a ++ b) = movesOf V a ++ movesOf V b := by unfold movesOf; rw [List.flatMap_append]
theorem keepsFrom_of {B : Nat} {W W' : World} (hb : Below W.heap.size W W') : KeepsFrom B W W' := ⟨hb.size, fun k o _ h _ => blk_below h hb⟩
/-- The own list of values before and behind an append. -/
def appV (base : Nat) (fs : List ValE) (x : ValE) (FA : Option Addr) (FC : Nat) (b : Bool) (v : Value) (u : World) : Prop :=
  match b with
  | true => ∃ A' c', v = .slice A' (fs.length + 1) c' ∧ Own ValE.cells 4 100 base u (.slice A' (fs.length + 1) c') (fs ++ [x])
  | false => Own ValE.cells 4 100 base u (.slice FA fs.length FC) fs
theorem appV_mono (base : Nat) (fs : List ValE) (x : ValE) (FA : Option Addr) (FC : Nat) : ∀ b v w w', Later w w' → appV base fs x FA FC b v w → appV base fs x FA FC b v w' := fun b v w w' l h => by
  cases b with
  | true =>
    obtain ⟨A', c', h1, h2⟩ := h
    exact ⟨A', c', h1, h2.below l.below⟩
  | false => exact Own.below h l.below
def GraphPost (V : List ViewE) (w : World) (r : Ending) (w' : World) : Prop := ∃ o OA OC, Hid (conL o = (graphV V).1) ∧ r = .returned (.tuple #[.agg #[.slice OA o.length OC], .int .i64 ((graphV V).2 : Nat)]) ∧ OwnG w.heap.size w' OA OC o ∧ Below w.heap.size w w'
set_option maxRecDepth 100000 in
set_option maxHeartbeats 16000000 in
theorem graph_any (A : Option Addr) (c : Nat) (V : List ViewE) (w : World) (H : ViewsAt w A V) (hf : FewV V) :
    Calls Tryz.prog 15 #[.slice A V.length c] w (GraphPost V w) := by
  have hl := hf.l
  have HV := H.later
  have hl' : V.length ≤ 9223372036854775807 := by omega
  have HO : ∀ u [Later w u], Calls Tryz.prog 34 #[.slice A V.length c] u (OfPost A c V u) := fun u i => of_any A c V u (HV u) hf
  refine calls_marks Tryz.func15 rfl ?_
  simp only [Tryz.ntmps15, List.size_toArray, List.length_cons, List.length_nil, Nat.reduceAdd, Nat.reduceSub, Array.replicate_succ, Array.replicate_zero, List.push_toArray, List.append_toArray, List.nil_append, List.cons_append]
  go_upto_region 2 with (go_at_call 34; refine (HO _).mono ?_; rintro r wf ⟨g, rfl, hM, hbf⟩; have lf := later hbf)
  refine wp_name ?_
  intro w1 hw1
  have b1 : w1.heap[wf.heap.size]? = some (.cells #[.slice A V.length c, .map (some g)] 93 (0, 0)) := (by rw [← hw1]; simp only [heap_alloc_if, World.size_alloc]; repeat (first | rw [if_pos trivial] | rw [if_neg (by omega)] | rw [if_pos (by omega)]); try rfl)
  have hb1 : Below wf.heap.size wf w1 := by rw [← hw1]; exact (by repeat (first | with_reducible exact Below.refl _ _ | (with_reducible refine Below.drew ?_) | (with_reducible refine below_drewN ?_ _) | (with_reducible refine Below.alloc ?_ ?_ _; rotate_left; (first | omega | (simp <;> omega))) | (with_reducible refine Below.setCell ?_ ?_ _; rotate_left; (first | omega | (simp <;> omega)))))
  have hz1 : w1.heap.size = wf.heap.size + 1 := by rw [← hw1]; simp
  have r0 : (w.alloc (.cells #[.slice none 0 0] 36)).heap[w.heap.size]? = some (.cells #[.slice none 0 0] 36 (0, 0)) := heap_alloc_new _ _
  have r1 := blk_below (blk_below r0 hbf) hb1
  clear hw1 r0
  have lw1 : Later w w1 := by have : Later wf w1 := ⟨hb1⟩; exact (show Later w wf by infer_instance).trans this
  have hM1 := hM.below hb1
  have H1 := HV w1
  have hbw := lw1.below
  clear hM hbf lf hb1 HO
  have hgF := blk_lt b1
  obtain ⟨gF, hgF'⟩ : ∃ x, x = wf.heap.size := ⟨_, rfl⟩
  rw [← hgF'] at b1 hgF hz1 ⊢
  clear hgF'
  go_upto_region 3 with fail
  refine wp_name ?_
  intro w2 hw2
  have b2 : w2.heap[w1.heap.size]? = some (.cells #[.slice none 0 0] 95 (0, 0)) := (by rw [← hw2]; simp only [heap_alloc_if, World.size_alloc]; repeat (first | rw [if_pos trivial] | rw [if_neg (by omega)] | rw [if_pos (by omega)]); try rfl)
  have hb2 : Below w1.heap.size w1 w2 := by rw [← hw2]; exact (by repeat (first | with_reducible exact Below.refl _ _ | (with_reducible refine Below.drew ?_) | (with_reducible refine below_drewN ?_ _) | (with_reducible refine Below.alloc ?_ ?_ _; rotate_left; (first | omega | (simp <;> omega))) | (with_reducible refine Below.setCell ?_ ?_ _; rotate_left; (first | omega | (simp <;> omega)))))
  have hz2 : w2.heap.size = w1.heap.size + 1 := by rw [← hw2]; simp
  clear hw2
  have l2 := later hb2
  rw [hz1] at b2
  go_wp2_with fail
  go_loopw [18] (fun i wr => ∃ (k : Nat) (gs : List GrE) (OA : Option Addr) (OC : Nat), k ≤ V.length ∧ i = .int .i64 k ∧ Hid (gs = (V.take k).map viewGr) ∧ Hid (gs.length = k) ∧ wr.heap[gF + 1]? = some (.cells #[.slice OA gs.length OC] 95 (0, 0)) ∧ Own GrE.cells 1 36 w1.heap.size wr (.slice OA gs.length OC) gs ∧ Below w1.heap.size w1 wr) (fun i _ => V.length - (intOf i).toNat)
  case atStart => exact ⟨0, [], none, 0, by omega, rfl, hide (by simp), hide rfl, b2, Own.nil, hb2⟩
  case round =>
    clear b2 hb2 hz2 l2
    obtain ⟨k, gs, OA, OC, hk, rfl, hgs, hgl, bO, hown, hbr⟩ := hrel
    have lr : Later w1 wr := ⟨hbr⟩
    have lrr : Later wr wr := Later.refl
    by_cases hlt : k < V.length
    · obtain ⟨b, o, v, rfl, hv, hmem, LV, -, -, -, hvo⟩ := (H1.later wr).get hlt
      have hki : (k : Int) < (V.length : Int) := by omega
      have hT := hide (take_snoc_get hv)
      clear hv
      go_upto_region 6 with fail
      refine wp_name ?_
      intro w3 hw3
      obtain ⟨B3, l3⟩ := box1 hw3
      have l33 : Later w3 w3 := Later.refl
      have hb3 : Below wr.heap.size wr w3 := by rw [← hw3]; exact (by repeat (first | with_reducible exact Below.refl _ _ | (with_reducible refine Below.drew ?_) | (with_reducible refine below_drewN ?_ _) | (with_reducible refine Below.alloc ?_ ?_ _; rotate_left; (first | omega | (simp <;> omega))) | (with_reducible refine Below.setCell ?_ ?_ _; rotate_left; (first | omega | (simp <;> omega)))))
      clear hw3
      have bO3 := blk_below bO hb3
      have hown3 := hown.below hb3
      have BO := boxed bO3
      have hb13 : Below w1.heap.size w1 w3 := hbr.trans (hb3.mono hbr.size)
      have hgl10 : gs.length ≤ 5 := by rw [hgl.out]; omega
      go_wp2_with (at_builtin; refine wpList_app1 rfl (.tmp 22) (.tmp 25) rfl GrE.enc grT (viewGr v) rfl rfl rfl (hown3.later _) (by rfl) (by omega) (by unfold maxLen; omega) hb13.size ?_; intro A' c' w4 ho hm hb hg hat; have bO4 : w4.heap[gF + 1]? = some (.cells #[.slice OA gs.length OC] 95 (0, 0)) := (hg.block _ (blk_lt bO3) (fun e => own_off hown3 bO3 (by decide) e.symm)).trans bO3; have BO4 := boxed bO4; have l44 : Later w4 w4 := Later.refl)
      go_roundw
      case rel =>
        refine ⟨k + 1, gs ++ [viewGr v], A', c', by omega, by go_num, hide (by rw [hgs.out, hT.out, List.map_append]; rfl), hide (by rw [List.length_append, hgl.out]; rfl), ?_, ?_, ?_⟩
        · have := blk_set bO4 0 (.slice A' (gs.length + 1) c')
          rw [List.length_append, List.length_singleton]
          exact this
        · rw [List.length_append, List.length_singleton]
          exact ho.far (p := ⟨gF + 1, 0, none⟩) (own_off ho bO4 (by decide)) _
        · exact (hb13.trans hb).setCell (p := ⟨gF + 1, 0, none⟩) (by show w1.heap.size ≤ gF + 1; omega) _
      case measure => simp [intOf]; omega
    · have hk' : k = V.length := by omega
      subst hk'
      rw [List.take_length] at hgs
      have bF := blk_below b1 hbr
      have BF := boxed bF
      obtain ⟨wz, rfl⟩ : ∃ z, z = wr := ⟨_, rfl⟩
      go_wp2_with (go_at_call 35; refine (flights_mk A c V g wz).mono ?_; rintro e w' ⟨rfl, rfl⟩)
      refine wp_name ?_
      intro w5 hw5
      have b5 : w5.heap[wz.heap.size]? = some (.cells #[.slice A V.length c, .map (some g)] 93 (0, 0)) := (by rw [← hw5]; simp only [heap_alloc_if, World.size_alloc]; repeat (first | rw [if_pos trivial] | rw [if_neg (by omega)] | rw [if_pos (by omega)]); try rfl)
      have hb5 : Below wz.heap.size wz w5 := by rw [← hw5]; exact (by repeat (first | with_reducible exact Below.refl _ _ | (with_reducible refine Below.drew ?_) | (with_reducible refine below_drewN ?_ _) | (with_reducible refine Below.alloc ?_ ?_ _; rotate_left; (first | omega | (simp <;> omega))) | (with_reducible refine Below.setCell ?_ ?_ _; rotate_left; (first | omega | (simp <;> omega)))))
      have hz5 : w5.heap.size = wz.heap.size + 1 := by rw [← hw5]; simp
      clear hw5
      have hb15 : Below w1.heap.size w1 w5 := hbr.trans (hb5.mono hbr.size)
      have hz15 := hb15.size
      have bO5 := blk_below bO hb5
      have hown5 := hown.below hb5
      have hzO := blk_lt bO
      have bF5 := blk_below bF hb5
      clear lr lrr BF
      refine wp_rangeV (gf := 64) (lb := #[.pointer (some ⟨wz.heap.size, 0, none⟩)]) rfl (enters_of Tryz.func64 (by kernel_rfl) rfl) (flights_stops 8 (by omega) wz.heap.size A c V g w1 H1 hM1 hf w5 hb15 b5) (by omega) (Below.refl _ _) (fun _ => rfl)
        (fun pre W => InvGr V w1 gF A c g w5.heap.size (pre.map Subtype.val) W)
        (fun _ _ => False)
        ?hI (fun _ _ _ _ h _ _ => h) (fun _ _ h => by obtain ⟨gs, OA, OC, -, -, -, -, -, -, h, -⟩ := h; exact h) ?h0 (blks := fun p => [(p.1.1.arr, 64), (p.1.2.arr, 87)]) (tm := ?tm) ?hassign ?hbody ?hdone (fun _ _ _ _ _ h _ => h.elim)
      case h0 =>
        refine ⟨gs, OA, OC, hide ?_, hide (by rw [hgl.out]; exact Nat.le_add_right _ _), fun x hx => ?_, bO5, hown5, hb15, Nat.le_refl _, bF5⟩
        · rw [hgs.out]
          simp [conGs, movesOf, viewGr]
        · rw [hgs.out] at hx
          obtain ⟨v, hv, rfl⟩ := List.mem_map.1 hx
          exact ⟨.inl (H1.v v hv).o, (hf.v v hv).o, (hf.v v hv).d⟩
      case hI =>
        rintro s W W' row ⟨gs, OA, OC, h1, h2, h3, h4, h5, h6, h7, h8⟩ hg hr
        have hne : ∀ (k : Nat) (cs : Array Value) (t : TypeId) (fr : Nat × Nat), W.heap[k]? = some (.cells cs t fr) → row ≠ some k := fun k cs t fr hk e => by
          obtain ⟨_, o, ho, hc⟩ := hr k e
          rw [hk] at ho; injection ho with ho; subst ho; cases hc
        refine ⟨gs, OA, OC, h1, h2, fun x hx => ⟨(h3 x hx).1.kept hg fun r e => ?_, (h3 x hx).2⟩, (hg.block _ (blk_lt h4) (fun e => hne _ _ _ _ h4 e.symm)).trans h4, h5.kept hg ?_, ?_, Nat.le_trans h7 hg.size, (hg.block _ (blk_lt h8) (fun e => hne _ _ _ _ h8 e.symm)).trans h8⟩
        · obtain ⟨_, o, ho, hc⟩ := hr r e
          exact ⟨o, ho, fun cs t fr e => by subst e; cases hc⟩
        · cases hv : (Value.slice OA gs.length OC).ownBlock with
          | none => exact .inl rfl
          | some k =>
            obtain ⟨cs, hc⟩ := own_type h5 hv
            exact .inr fun e => hne _ _ _ _ hc e.symm
        · exact h6.grown hg h6.size fun k e => by have := (hr k e).1; omega
      case hassign =>
        intro l p W Bx K hB hK
        have hR := flight_isRow ((H1.v p.1.1 p.2.1).g p.1.2 p.2.2)
        replace hK : ∀ a', a' = _ → K a' ((W.alloc (.cells p.1.1.arr 64)).alloc (.cells p.1.2.arr 87)) := hK
        simp only [FlX.encs]
        gi_wp2
        rfl
      case hbody =>
        clear bO5 hown5 hb15 bF5 b5 hb5 hown hbr bF hgs hgl
        rintro l pre ⟨⟨v, x⟩, hvm, hxm⟩ Bx W hBx hblk hinv hlen
        have bV : W.heap[Bx]? = some (.cells v.arr 64 (0, 0)) := hblk 0 _ _ rfl
        have bX : W.heap[Bx + 1]? = some (.cells x.arr 87 (0, 0)) := hblk 1 _ _ rfl
        have BV := boxed bV
        have BX := boxed bX
        have lWW : Later W W := Later.refl
        have hxf := (hf.v v hvm).g x hxm
        have hp6 := hxf.p
        have hinv' := hinv
        obtain ⟨gs, OA, OC, hgs, hgl, hok, bO, hown, hbW, hzW, bF⟩ := hinv'
        have hxo : FlightOk W x := ((H1.v v hvm).g x hxm).below hbW
        have BF := boxed bF
        have BO := boxed bO
        have hB1 : w1.heap.size ≤ W.heap.size := hbW.size
        obtain ⟨q1, hq1⟩ : ∃ q, (x.msg.kind == 1) = q := ⟨_, rfl⟩
        have Hq : Hid (x.msg.kind = 1 ↔ q1 = true) := hide (by rw [← hq1]; simp)
        clear hblk
        cases q1
        · have hmv := hide (show movesOf V ((pre ++ [(⟨(v, x), hvm, hxm⟩ : FlX V)]).map Subtype.val) = movesOf V (pre.map Subtype.val) by
            rw [List.map_append, movesOf_app]
            have : ¬ x.msg.kind = 1 := fun h => by have := Hq.out.1 h; cases this
            simp [movesOf, this])
          gi_wp2
          have hb : Below W.heap.size W (W.alloc (.cells x.msg.parcel.arr 76)) := (Below.refl _ _).alloc (Nat.le_refl _) _
          exact .inl ⟨rfl, keepsFrom_of hb, KpV.of_below hb hB1, hinv.below hb hmv.out (by simp)⟩
        · have hkd := Hq.out.2 rfl
          obtain ⟨fA, hfA⟩ : ∃ fA, x.msg.parcel.fA = fA := ⟨_, rfl⟩
          gi_wp2
          refine wpIn_name ?_
          intro W2 hW2
          have bP2 : W2.heap[W.heap.size]? = some (.cells #[.int .u64 x.msg.parcel.number, .int .i64 x.msg.parcel.iM, .int .i64 x.msg.parcel.iS, .int .i64 x.msg.parcel.kind, .int .i64 x.msg.parcel.clas, .slice fA x.msg.parcel.fields.length x.msg.parcel.fc, .slice x.msg.parcel.mA x.msg.parcel.mail.length x.msg.parcel.mc, .slice x.msg.parcel.wA x.msg.parcel.wn x.msg.parcel.wc] 76 (0, 0)) := (by rw [← hW2]; simp only [heap_alloc_if, World.size_alloc]; repeat (first | rw [if_pos trivial] | rw [if_neg (by omega)] | rw [if_pos (by omega)]); try rfl)
          have bN2 : W2.heap[W.heap.size + 1]? = some (.cells #[.int .i64 x.msg.parcel.iM, .int .i64 x.msg.parcel.iS, .int .i64 x.msg.parcel.kind, .int .i64 x.msg.parcel.clas, .slice none 0 0] 41 (0, 0)) := (by rw [← hW2]; simp only [heap_alloc_if, World.size_alloc]; repeat (first | rw [if_pos trivial] | rw [if_neg (by omega)] | rw [if_pos (by omega)]); try rfl)
          have hb2 : Below W.heap.size W W2 := by rw [← hW2]; exact (by repeat (first | with_reducible exact Below.refl _ _ | (with_reducible refine Below.drew ?_) | (with_reducible refine below_drewN ?_ _) | (with_reducible refine Below.alloc ?_ ?_ _; rotate_left; (first | omega | (simp <;> omega))) | (with_reducible refine Below.setCell ?_ ?_ _; rotate_left; (first | omega | (simp <;> omega)))))
          clear hW2
          gi_loopw [49] (fun i wr => ∃ (j : Nat) (fs : List ValE) (FA : Option Addr) (FC : Nat), j ≤ x.msg.parcel.fields.length ∧ i = .int .i64 j ∧ Hid (fs = (x.msg.parcel.fields.take j).map (refVal V v.machine x.dst)) ∧ Hid (fs.length = j) ∧ wr.heap[W.heap.size + 1]? = some (.cells #[.int .i64 x.msg.parcel.iM, .int .i64 x.msg.parcel.iS, .int .i64 x.msg.parcel.kind, .int .i64 x.msg.parcel.clas, .slice FA fs.length FC] 41 (0, 0)) ∧ Own ValE.cells 4 100 W.heap.size wr (.slice FA fs.length FC) fs ∧ Below W.heap.size W wr) (fun i _ => x.msg.parcel.fields.length - (intOf i).toNat)
          case atStart => exact ⟨0, [], none, 0, by omega, rfl, hide (by simp), hide rfl, bN2, Own.nil, hb2⟩
          case round =>
            obtain ⟨j, fs, FA, FC, hj, rfl, hfs, hfl, bN, hfo, hbr⟩ := hrel
            have lrr : Later wr wr := Later.refl
            have hbr1 : Below w1.heap.size w1 wr := hbW.trans (hbr.mono hB1)
            by_cases hlt : j < x.msg.parcel.fields.length
            · obtain ⟨rb, ro, r, hrA, hr, RC⟩ := RefE.get ((hxo.p.f).below hbr) hlt
              rw [hfA] at hrA
              subst hrA
              have hji : (j : Int) < (x.msg.parcel.fields.length : Int) := by omega
              have hT := hide (take_snoc_get hr)
              clear hr
              have hcalls : ∀ u, Below w1.heap.size w1 u → Calls Tryz.prog 36 #[fleetV A c V g, .int .i64 v.machine, .int .i64 x.dst, r.v] u (ValPost V v.machine x.dst r u) := fun u hu => value_any A c V g v.machine x.dst r u (H1.below hu) (hM1.below hu) hf
              obtain ⟨val, hval⟩ : ∃ y, refVal V v.machine x.dst r = y := ⟨_, rfl⟩
              unfold ValPost at hcalls
              rw [hval] at hcalls
              have Hval := hide hval
              have hfl5 : fs.length ≤ 6 := by rw [hfl.out]; have := hxf.p; omega
              clear hval
              gi_wp2
              refine wpIn_name ?_
              intro w3 hw3
              obtain ⟨gR, hgR⟩ : ∃ y, y = wr.heap.size := ⟨_, rfl⟩
              rw [← hgR]
              have bR3 : w3.heap[gR]? = some (.cells r.arr 69 (0, 0)) := by rw [hgR]; exact (by rw [← hw3]; simp only [heap_alloc_if, World.size_alloc]; repeat (first | rw [if_pos trivial] | rw [if_neg (by omega)] | rw [if_pos (by omega)]); try rfl)
              clear hgR
              have hb3 : Below wr.heap.size wr w3 := by rw [← hw3]; exact (by repeat (first | with_reducible exact Below.refl _ _ | (with_reducible refine Below.drew ?_) | (with_reducible refine below_drewN ?_ _) | (with_reducible refine Below.alloc ?_ ?_ _; rotate_left; (first | omega | (simp <;> omega))) | (with_reducible refine Below.setCell ?_ ?_ _; rotate_left; (first | omega | (simp <;> omega)))))
              clear hw3
              have hb13 : Below w1.heap.size w1 w3 := hbr1.trans (hb3.mono hbr1.size)
              have hbW3 : Below W.heap.size W w3 := hbr.trans (hb3.mono hbr.size)
              have bN3 := blk_below bN hb3
              have bF3 := blk_below (blk_below bF hbr) hb3
              have bV3 := blk_below (blk_below bV hbr) hb3
              have bX3 := blk_below (blk_below bX hbr) hb3
              have hfo3 := hfo.below hb3
              obtain ⟨row, hrowe⟩ : ∃ q, q = (Value.slice FA fs.length FC).ownBlock := ⟨_, rfl⟩
              have hrow : ∀ k, row = some k → k < w3.heap.size := fun k hk => (World.ownsRow.lt hfo3 k (hrowe ▸ hk)).2
              have hrowB : ∀ k, row = some k → W.heap.size ≤ k := fun k hk => (World.ownsRow.lt hfo3 k (hrowe ▸ hk)).1
              have hOld : ∀ u, w3.drew.grownBy u row → ∀ (k : Nat) (cs : Array Value) (t : TypeId), w3.heap[k]? = some (.cells cs t (0, 0)) → 100 ≠ t → u.heap[k]? = some (.cells cs t (0, 0)) := fun u hu k cs t hk ht => (hu.block k (blk_lt hk) (fun e => own_off hfo3 hk ht (by rw [← hrowe]; exact e.symm))).trans hk
              have HN : ∀ u, w3.drew.grownBy u row → u.heap[W.heap.size + 1]? = _ := fun u hu => hOld u hu _ _ _ bN3 (by decide)
              have HF : ∀ u, w3.drew.grownBy u row → u.heap[gF]? = _ := fun u hu => hOld u hu _ _ _ bF3 (by decide)
              have HVb : ∀ u, w3.drew.grownBy u row → u.heap[Bx]? = _ := fun u hu => hOld u hu _ _ _ bV3 (by decide)
              have HXb : ∀ u, w3.drew.grownBy u row → u.heap[Bx + 1]? = _ := fun u hu => hOld u hu _ _ _ bX3 (by decide)
              have HRb : ∀ u, w3.drew.grownBy u row → u.heap[gR]? = _ := fun u hu => hOld u hu _ _ _ bR3 (by decide)
              have hBU : ∀ u, w3.drew.grownBy u row → Below W.heap.size W u := fun u hu => hbW3.drew.grown hu (by exact hbW3.size) hrowB
              refine wpIn_region_invA (last := 12) (ap := 10) (row := row) (by kernel_rfl) (by kernel_rfl) ?hQ (R := specRA [.is (.pointer (some ⟨W.heap.size + 1, 4, none⟩)), .is (.slice FA fs.length FC), .is (fleetV A c V g), .is (.pointer (some ⟨Bx, 0, none⟩)), .is (.int .i64 v.machine), .is (.pointer (some ⟨Bx + 1, 0, none⟩)), .is (.int .i64 x.dst), .is r.v, .is val.v, SpecA.blk hrow (fun g => .slice (some ⟨g, 0, none⟩) 1 1) val.arr 100, .any, .is (.pointer (some ⟨W.heap.size + 1, 4, none⟩))]) (J := appV W.heap.size fs val FA FC) (specRA_mono (B := w3.heap.size) (row := row) _) (appV_mono _ _ _ _ _) (by kernel_rfl) (by kernel_rfl) (by kernel_rfl) (Own.below hfo3 (Below.refl _ _).drew) (steps_all ?_) ?_ ?_ (fun h => absurd h (by decide))
              case hQ =>
                rintro ⟨a, u, h⟩
                exact roundPost_lets (Bl := w5.heap.size) (B := w1.heap.size) (I := fun pre W => InvGr V w1 gF A c g w5.heap.size (pre.map Subtype.val) W) (Ir := fun _ _ => False) (xs := pre ++ [(⟨(v, x), hvm, hxm⟩ : FlX V)]) (W := W) ⟨a, u, h⟩
              · refine ⟨?_, ?_, ?_, ?_, ?_, ?_, ?_, ?_, ?_, ?_, ?_, ?_, ?_, trivial⟩
                · intro hne hne2 a u lu hN hO K hK
                  (try simp only [Nat.zero_add, Nat.reduceAdd] at hN hK)
                  have e0 : a.tmps.getD 11 undef = .pointer (some ⟨W.heap.size + 1, 0, none⟩) := (hO 11 (out_get (by kernel_rfl))).trans rfl
                  simp only [Array.getD_eq_getD_getElem?] at e0
                  rw [if_pos (by rfl)]
                  go_simp
                  exact hK _ _ Later.refl rfl
                · intro hne hne2 a u lu hN hO K hK
                  (try simp only [Nat.zero_add, Nat.reduceAdd] at hN hK)
                  have e0 : a.tmps.getD 53 undef = .pointer (some ⟨W.heap.size + 1, 4, none⟩) := hN 0 (needs_get (by kernel_rfl))
                  simp only [Array.getD_eq_getD_getElem?] at e0
                  have X := boxed (HN u lu)
                  have luu : Later u u := Later.refl
                  rw [if_pos (by rfl)]
                  go_simp
                  exact hK _ _ Later.refl rfl
                · intro hne hne2 a u lu hN hO K hK
                  (try simp only [Nat.zero_add, Nat.reduceAdd] at hN hK)
                  have e0 : a.tmps.getD 4 undef = .pointer (some ⟨gF, 0, none⟩) := (hO 4 (out_get (by kernel_rfl))).trans rfl
                  simp only [Array.getD_eq_getD_getElem?] at e0
                  have X := boxed (HF u lu)
                  have luu : Later u u := Later.refl
                  rw [if_pos (by rfl)]
                  go_simp
                  exact hK _ _ Later.refl rfl
                · intro hne hne2 a u lu hN hO K hK
                  (try simp only [Nat.zero_add, Nat.reduceAdd] at hN hK)
                  have e0 : a.tmps.getD 8 undef = .pointer (some ⟨Bx, 0, none⟩) := (hO 8 (out_get (by kernel_rfl))).trans rfl
                  simp only [Array.getD_eq_getD_getElem?] at e0
                  rw [if_pos (by rfl)]
                  go_simp
                  exact hK _ _ Later.refl rfl
                · intro hne hne2 a u lu hN hO K hK
                  (try simp only [Nat.zero_add, Nat.reduceAdd] at hN hK)
                  have e0 : a.tmps.getD 56 undef = .pointer (some ⟨Bx, 0, none⟩) := hN 3 (needs_get (by kernel_rfl))
                  simp only [Array.getD_eq_getD_getElem?] at e0
                  have X := boxed (HVb u lu)
                  have luu : Later u u := Later.refl
                  rw [if_pos (by rfl)]
                  go_simp
                  exact hK _ _ Later.refl rfl
                · intro hne hne2 a u lu hN hO K hK
                  (try simp only [Nat.zero_add, Nat.reduceAdd] at hN hK)
                  have e0 : a.tmps.getD 9 undef = .pointer (some ⟨Bx + 1, 0, none⟩) := (hO 9 (out_get (by kernel_rfl))).trans rfl
                  simp only [Array.getD_eq_getD_getElem?] at e0
                  rw [if_pos (by rfl)]
                  go_simp
                  exact hK _ _ Later.refl rfl
                · intro hne hne2 a u lu hN hO K hK
                  (try simp only [Nat.zero_add, Nat.reduceAdd] at hN hK)
                  have e0 : a.tmps.getD 58 undef = .pointer (some ⟨Bx + 1, 0, none⟩) := hN 5 (needs_get (by kernel_rfl))
                  simp only [Array.getD_eq_getD_getElem?] at e0
                  have X := boxed (HXb u lu)
                  have luu : Later u u := Later.refl
                  rw [if_pos (by rfl)]
                  go_simp
                  exact hK _ _ Later.refl rfl
                · intro hne hne2 a u lu hN hO K hK
                  (try simp only [Nat.zero_add, Nat.reduceAdd] at hN hK)
                  have e0 : a.tmps.getD 13 undef = .pointer (some ⟨gR, 0, none⟩) := (hO 13 (out_get (by kernel_rfl))).trans rfl
                  simp only [Array.getD_eq_getD_getElem?] at e0
                  have X := boxed (HRb u lu)
                  have luu : Later u u := Later.refl
                  rw [if_pos (by rfl)]
                  go_simp
                  exact hK _ _ Later.refl rfl
                · intro hne hne2 a u lu hN hO K hK
                  (try simp only [Nat.zero_add, Nat.reduceAdd] at hN hK)
                  have e0 : a.tmps.getD 55 undef = fleetV A c V g := hN 2 (needs_get (by kernel_rfl))
                  simp only [Array.getD_eq_getD_getElem?] at e0
                  have e1 : a.tmps.getD 57 undef = .int .i64 v.machine := hN 4 (needs_get (by kernel_rfl))
                  simp only [Array.getD_eq_getD_getElem?] at e1
                  have e2 : a.tmps.getD 59 undef = .int .i64 x.dst := hN 6 (needs_get (by kernel_rfl))
                  simp only [Array.getD_eq_getD_getElem?] at e2
                  have e3 : a.tmps.getD 60 undef = r.v := hN 7 (needs_get (by kernel_rfl))
                  simp only [Array.getD_eq_getD_getElem?] at e3
                  rw [if_pos (by rfl)]
                  go_simp
                  refine (hcalls u (hbW.trans ((hBU u lu).mono hB1))).mono ?_
                  rintro q u' ⟨rfl, hb⟩
                  exact hK _ _ ⟨hb⟩ rfl
                · intro hne hne2 a u lu hN hO K hK
                  (try simp only [Nat.zero_add, Nat.reduceAdd] at hN hK)
                  have e0 : a.tmps.getD 61 undef = val.v := hN 8 (needs_get (by kernel_rfl))
                  simp only [Array.getD_eq_getD_getElem?] at e0
                  rw [if_pos (by rfl)]
                  go_simp
                  exact hK _ _ inferInstance ⟨u.heap.size, lu.size, rfl, heap_alloc_new _ _⟩
                · intro hne hne2 a u lu hN hO K hK
                  (try simp only [Nat.zero_add, Nat.reduceAdd] at hN hK)
                  exact absurd rfl hne2
                · intro hne hne2 a u lu hN hO K hK
                  (try simp only [Nat.zero_add, Nat.reduceAdd] at hN hK)
                  have e0 : a.tmps.getD 11 undef = .pointer (some ⟨W.heap.size + 1, 0, none⟩) := (hO 11 (out_get (by kernel_rfl))).trans rfl
                  simp only [Array.getD_eq_getD_getElem?] at e0
                  rw [if_pos (by rfl)]
                  go_simp
                  exact hK _ _ Later.refl rfl
                · intro hne hne2 a u lu hN hO K hK
                  (try simp only [Nat.zero_add, Nat.reduceAdd] at hN hK)
                  exact absurd rfl hne
              · intro op hop
                simp only [List.getElem?_toArray, List.getElem?_cons_succ, List.getElem?_cons_zero] at hop
                injection hop with hop
                subst hop
                intro a u lu hst hN hO K hK
                have e1 : a.tmps.getD 54 undef = .slice FA fs.length FC := hN 1 (needs_get (by kernel_rfl))
                obtain ⟨gq, hgB, e4, hq⟩ : ∃ g, w3.heap.size ≤ g ∧ a.tmps.getD 62 undef = .slice (some ⟨g, 0, none⟩) 1 1 ∧ u.heap[g]? = some (.cells val.arr 100 (0, 0)) := hN 9 (needs_get (by kernel_rfl))
                refine step_app2 (P := Tryz.prog) rfl (.tmp 54) (.tmp 62) (by rfl) ValE.enc valsT _ _ [val] fs (.slice FA fs.length FC) e1 e4 (m := 1) (n := fs.length + 1) rfl rfl hst (blk_slAt ValE.enc (fr := (0, 0)) (e := 100) hq [val] rfl) (by omega) (by unfold maxLen; omega) (Nat.le_trans hbW3.size lu.size) ?_
                intro A' c' u' ho' hm' hst'
                exact hK _ u' (by rw [hrowe]; exact hst'.1) trivial ⟨A', c', rfl, ho'⟩
              intro op hop a u hI K hK
              simp only [List.getElem?_toArray, List.getElem?_cons_succ, List.getElem?_cons_zero] at hop
              injection hop with hop
              subst hop
              have e6 : a.tmps.getD 64 undef = .pointer (some ⟨W.heap.size + 1, 4, none⟩) := hI.got 11 (by decide) rfl
              obtain ⟨A', c', e5, ho5⟩ : ∃ A' c', a.tmps.getD 63 undef = .slice A' (fs.length + 1) c' ∧ Own ValE.cells 4 100 W.heap.size u (.slice A' (fs.length + 1) c') (fs ++ [val]) := hI.st
              have hgu := hI.grown
              have hdf : a.defers = [] := hI.defers.trans rfl
              have luu : Later u u := Later.refl
              have hOu := HN u hgu
              have XO := boxed hOu
              have hBu := hBU u hgu
              simp only [Array.getD_eq_getD_getElem?] at e5 e6
              rw [if_pos (by rfl)]
              go_simp
              refine hK _ _ ?_
              have hTm := tmps_of (L := [53, 54, 55, 56, 57, 58, 59, 60, 61, 62, 63, 64]) hI.size (fun t ht => hI.out t (fun hm => ht hm))
              clear hK K e5 e6 hI
              obtain ⟨atm, adf⟩ := a
              dsimp only at hTm hdf
              subst hdf
              simp only [List.foldl_cons, List.foldl_nil, List.setIfInBounds_toArray, List.set_cons_succ, List.set_cons_zero] at hTm
              generalize atm.getD 53 undef = v0 at hTm
              generalize atm.getD 54 undef = v1 at hTm
              generalize atm.getD 55 undef = v2 at hTm
              generalize atm.getD 56 undef = v3 at hTm
              generalize atm.getD 57 undef = v4 at hTm
              generalize atm.getD 58 undef = v5 at hTm
              generalize atm.getD 59 undef = v6 at hTm
              generalize atm.getD 60 undef = v7 at hTm
              generalize atm.getD 61 undef = v8 at hTm
              generalize atm.getD 62 undef = v9 at hTm
              generalize atm.getD 63 undef = v10 at hTm
              generalize atm.getD 64 undef = v11 at hTm
              subst hTm
              gi_wp2
              go_roundw
              case rel =>
                refine ⟨j + 1, fs ++ [val], A', c', by omega, by go_num, hide (by rw [hfs.out, hT.out, List.map_append, ← Hval.out]; rfl), hide (by rw [List.length_append, hfl.out]; rfl), ?_, ?_, hBu.setCell (p := ⟨W.heap.size + 1, 4, none⟩) (by show W.heap.size ≤ W.heap.size + 1; omega) _⟩
                · have := blk_set hOu 4 (.slice A' (fs.length + 1) c')
                  rw [List.length_append, List.length_singleton]
                  exact this
                · rw [List.length_append, List.length_singleton]
                  exact ho5.far (p := ⟨W.heap.size + 1, 4, none⟩) (own_off ho5 hOu (by decide)) _
              case measure => simp [intOf]; omega
            · have hj' : j = x.msg.parcel.fields.length := by omega
              subst hj'
              rw [List.take_length] at hfs
              have bOr := blk_below bO hbr
              have BOr := boxed bOr
              have BN := boxed bN
              have hownr := hown.below hbr
              have hgs35 : gs.length ≤ 35 := by have := hgl.out; rw [List.length_map] at this; omega
              have hfs6 : fs.length ≤ 6 := by rw [hfl.out]; exact hp6
              have hfc := (hfo.at_ ValE.enc).2.1
              have hfm := hfo.cap_le
              have hbr1 : Below w1.heap.size w1 wr := hbW.trans (hbr.mono hB1)
              have hbn : Below wr.heap.size wr (wr.alloc (.cells #[.int .i64 x.msg.parcel.iM, .int .i64 x.msg.parcel.iS, .int .i64 x.msg.parcel.kind, .int .i64 x.msg.parcel.clas, .slice FA fs.length FC] 41)) := (Below.refl _ _).alloc (Nat.le_refl _) _
              have hownn := hownr.below hbn
              have hzr : w1.heap.size ≤ wr.heap.size := hbr1.size
              gi_wp2_with (gi_at_builtin; refine wpListIn_app1 rfl (.tmp 66) (.tmp 70) rfl GrE.enc grT ⟨some ⟨wr.heap.size, 0, none⟩, 1, [⟨x.msg.parcel.iM, x.msg.parcel.iS, x.msg.parcel.kind, x.msg.parcel.clas, FA, FC, fs⟩]⟩ rfl rfl (by simp) hownn (by rfl) (by omega) (by unfold maxLen; omega) (by simp; omega) ?_; intro A' c' w4 ho hst hb; have bO4 := hst.keep hownn (blk_below bOr hbn) (by decide); have BO4 := boxed bO4; have l44 : Later w4 w4 := Later.refl)
              have hKp : ∀ (k : Nat) (ob : Obj), W.heap[k]? = some ob → (∀ cs t fr, ob = .cells cs t fr → t ≠ 36 ∧ t ≠ 95) → (w4.setCell ⟨gF + 1, 0, none⟩ (.slice A' (gs.length + 1) c')).heap[k]? = some ob := fun k ob hk ht => by
                have hkn := blk_below (blk_below hk hbr) hbn
                have hne : k ≠ gF + 1 := fun e => by
                  subst e
                  rw [bO] at hk
                  injection hk with hk
                  exact (ht _ _ _ hk.symm).2 rfl
                refine (blk_far (p := ⟨gF + 1, 0, none⟩) hne _).trans ((hst.1.block k (blk_lt hkn) fun e => ?_).trans hkn)
                obtain ⟨cs, hc⟩ := own_type hownn e.symm
                rw [hkn] at hc
                injection hc with hc
                exact (ht _ _ _ hc).1 rfl
              have hbw : Below w1.heap.size W (w4.setCell ⟨gF + 1, 0, none⟩ (.slice A' (gs.length + 1) c')) := (((hbr.trans (hbn.mono hbr.size)).mono hB1).trans hb).setCell (p := ⟨gF + 1, 0, none⟩) (by show w1.heap.size ≤ gF + 1; omega) _
              refine .inl ⟨rfl, ⟨hbw.size, fun k ob _ hk hc => hKp k ob hk fun cs t fr e => by subst e; cases hc⟩, ⟨hbw, fun k cs t ht hk => hKp k _ hk fun cs' t' fr e => ?_⟩, gs ++ [⟨some ⟨wr.heap.size, 0, none⟩, 1, [⟨x.msg.parcel.iM, x.msg.parcel.iS, x.msg.parcel.kind, x.msg.parcel.clas, FA, FC, fs⟩]⟩], A', c', hide ?_, hide ?_, fun y hy => ?_, ?_, ?_, hbW.trans hbw, Nat.le_trans hzW hbw.size, hKp gF _ bF fun cs t fr e => ?_⟩
              · injection e with _ e _
                rw [← e]
                rcases ht with rfl | rfl <;> exact ⟨by decide, by decide⟩
              · show conGs _ = _
                rw [List.map_append, movesOf_app, ← List.append_assoc, ← hgs.out]
                unfold conGs
                rw [List.map_append]
                congr 1
                simp [movesOf, hkd, movedN, conL, NodeE.con, hfs.out]
              · rw [List.length_append, List.map_append, List.length_append]
                have := hgl.out
                simp only [List.length_map, List.length_singleton] at this ⊢
                omega
              · rcases List.mem_append.1 hy with hy | hy
                · exact ⟨((((hok y hy).1.below hbr).below hbn).step hownn hst).set bO4 (by decide) (by decide) _, (hok y hy).2⟩
                · rw [List.mem_singleton] at hy
                  subst hy
                  refine ⟨.inr ?_, by simp, fun n hn => ?_⟩
                  · have hgn : (wr.alloc (.cells #[.int .i64 x.msg.parcel.iM, .int .i64 x.msg.parcel.iS, .int .i64 x.msg.parcel.kind, .int .i64 x.msg.parcel.clas, .slice FA fs.length FC] 41)).heap[wr.heap.size]? = _ := heap_alloc_new _ _
                    have ho0 : OwnG w1.heap.size (wr.alloc (.cells #[.int .i64 x.msg.parcel.iM, .int .i64 x.msg.parcel.iS, .int .i64 x.msg.parcel.kind, .int .i64 x.msg.parcel.clas, .slice FA fs.length FC] 41)) (some ⟨wr.heap.size, 0, none⟩) 1 [⟨x.msg.parcel.iM, x.msg.parcel.iS, x.msg.parcel.kind, x.msg.parcel.clas, FA, FC, fs⟩] :=
                      ⟨own_built NodeE.enc hgn hzr rfl rfl (by simp [maxLen]), fun m hm => by
                        rw [List.mem_singleton] at hm
                        subst hm
                        exact (hfo.below hbn).mono hB1, fun m hm => by
                        rw [List.mem_singleton] at hm
                        subst hm
                        exact ⟨hfc, hfm⟩⟩
                    exact (ho0.stepG hownn hst).setG bO4 (by decide) (by decide) _
                  · rw [List.mem_singleton] at hn
                    subst hn
                    exact hfs6
              · have := blk_set bO4 0 (.slice A' (gs.length + 1) c')
                rw [List.length_append, List.length_singleton]
                exact this
              · rw [List.length_append, List.length_singleton]
                exact ho.far (p := ⟨gF + 1, 0, none⟩) (own_off ho bO4 (by decide)) _
              · injection e with _ e _
                rw [← e]
                exact ⟨by decide, by decide⟩
      case hdone =>
        clear bO5 hown5 hb15 bF5 b5 hb5 hown hbr bF hgs hgl
        rintro D ys W hD hS ⟨gs, OA, OC, hgs, hgl, hok, bO, hown, hbW, hzW, bF⟩ hK
        rw [hS] at hgs
        have hgl2 : gs.length ≤ 35 := by
          have h1 := hgl.out
          rw [hS] at h1
          have h2 := flightsP_len (V := V) (L := V) fun u hu => (hf.v u hu).f
          rw [flightsP_all] at h2
          omega
        have BO := boxed bO
        have HD := there_of hK
        have hDl := blk_lt hK
        have lWW : Later W W := Later.refl
        have hbwW : Below w.heap.size w W := hbw.trans (hbW.mono hbw.size)
        have hrW := blk_below r1 hbW
        have BR := boxed hrW
        have hSl := (hown.at_ GrE.enc).2.2
        have HU : ∀ u [Later W u], Calls Tryz.prog 37 #[.slice OA gs.length OC] u (UnionSPost gs u) := fun u i => by
          have hG : GraphsAt W OA gs := ⟨hSl, fun x hx => (hok x hx).1.nodes hbW⟩
          refine unionS_any OA OC gs u (hG.later u) (by omega) ?_ (fun x hx => by have := (hok x hx).2.1; omega) (fun x hx n hn => by have := (hok x hx).2.2 n hn; omega)
          have : ∀ l : List GrE, (∀ x ∈ l, x.l.length ≤ 12) → (conGs l).flatten.length ≤ 12 * l.length := by
            intro l
            induction l with
            | nil => intro _; simp [conGs]
            | cons y l ih =>
              intro h
              have h1 := ih fun x hx => h x (List.mem_cons_of_mem _ hx)
              have h2 := h y List.mem_cons_self
              have h3 : (conL y.l).length = y.l.length := by unfold conL; rw [List.length_map]
              unfold conGs at h1 ⊢
              rw [List.map_cons, List.flatten_cons, List.length_append, h3, List.length_cons]
              omega
          have := this gs fun x hx => (hok x hx).2.1
          omega
        have hgr := hide (show unionC (conGs gs) = graphV V by unfold graphV graphsV; rw [hgs.out])
        go_wp2_with (go_at_call 37; refine (HU _).mono ?_; rintro r w8 ⟨o, UA, UC, ho, rfl, hog, hb8⟩; have l8 := later hb8)
        have lW8 : Below W.heap.size W w8 := below_of
        have hr8 := blk_below hrW lW8
        have q := blk_set hr8 0 (.slice UA o.length UC)
        have hwz : w.heap.size < W.heap.size := Nat.lt_of_lt_of_le (blk_lt r1) hbW.size
        have hr1 := blk_lt r1
        have hDw : D ≠ w.heap.size := by omega
        refine ret_marked rfl ?_ (results_cell_tmp rfl rfl rfl (loadVar_row graphRow graphN rfl (by rw [putObj_eq, putAt_heap (fun e => hDw e.symm)]; exact q))) ⟨o, UA, UC, hide (by rw [ho.out, hgr.out]), by rw [hgr.out]; rfl, ?_, ?_⟩
        · exact (blk_far (p := ⟨w.heap.size, 0, none⟩) hDw _).trans (blk_below hK lW8)
        · have h8 : OwnG W.heap.size (w8.setCell ⟨w.heap.size, 0, none⟩ (.slice UA o.length UC)) UA UC o := OwnG.mono (hog.setG hr8 (by decide) (by decide) _) (Nat.le_refl _)
          have hK8 : (w8.setCell ⟨w.heap.size, 0, none⟩ (.slice UA o.length UC)).heap[D]? = _ := (blk_far (p := ⟨w.heap.size, 0, none⟩) hDw _).trans (blk_below hK lW8)
          rw [putObj_eq]
          exact OwnG.mono (h8.keptG (row := some D) ⟨rfl, rfl, rfl, by simp [putAt_size], fun k _ hk => putAt_heap (fun e => hk (by rw [e]))⟩ fun r e => by injection e with e; subst e; exact ⟨_, hK8, fun cs t fr e => by cases e⟩) hbwW.size
        · exact putObj_below ((hbwW.trans (lW8.mono hbwW.size)).setCell (p := ⟨w.heap.size, 0, none⟩) (Nat.le_refl _) _) (by omega)
end Go.Proofs.YtpkfenlfgdbkcaaGreatDoor
