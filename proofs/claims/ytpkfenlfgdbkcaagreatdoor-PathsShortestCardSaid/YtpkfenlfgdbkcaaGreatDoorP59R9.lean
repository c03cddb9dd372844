/-
  Contracts of the functions of this seat that each theorem names: what a call returns, and that it writes nothing that was there before. The conditions stand in each theorem.
-/
import Derived.Test.YtpkfenlfgdbkcaaGreatDoorGrp47
import Derived.Test.YtpkfenlfgdbkcaaGreatDoorP59R7
import Derived.Deep.RegionHeld3
set_option linter.unusedSimpArgs false
set_option linter.unusedVariables false
namespace Go.Proofs.YtpkfenlfgdbkcaaGreatDoor
open Go.RowKit
attribute [local go_sem] Oper.semAt_some Instr.makeFunc
attribute [local simp] heap_drew
attribute [local go_sem ↓] load_view_pre load_flight_pre load_msg_pre store_view_pre store_flight_pre store_msg_pre load_scion_pre store_scion_pre
attribute [local go_sem] load_view load_flight load_msg store_view store_flight store_msg load_scion store_scion view_isRow zero_isRow scion_isRow zeroS_isRow rowFree_new setRow_new view_arr0 view_arr2 view_arr3 view_arr4 view_arr5 view_arr6 view_arr9 view_arr10 flight_arr0 flight_arr1 flight_arr2 flight_arr3 flight_arr6 flight_arr7 flight_arr8 flight_arr9 flight_arr10 flight_arr11 flight_arr12 flight_arr13 flight_arr17 flight_arr18 flight_arr19 flight_arr20 flight_arr21 flight_arr22 flight_arr23 flight_arr24 flight_arr25 msg_arr0 msg_arr1 msg_arr4 msg_arr5 msg_arr6 msg_arr7 msg_arr8 msg_arr9 msg_arr10 msg_arr11 msg_arr15 msg_arr16 msg_arr17 msg_arr18 msg_arr19 msg_arr20 msg_arr21 msg_arr22 msg_arr23
attribute [local go_sem ↓] run_eql_id run_neq_id
/-- The reference's roots of a flight, in its order. -/
def rrootsF (V : List ViewE) (frm : Int) (x : FlightE) : List IDE :=
  if x.msg.kind = 0 then x.msg.letter.args.map (refId V frm x.dst) ++ [numId V frm x.dst x.msg.number]
  else if x.msg.kind = 17 then [refId V frm x.dst x.msg.ref]
  else if x.msg.kind = 1 then x.msg.parcel.mail.flatMap fun l => x.msg.parcel.id :: l.args.map (refId V frm x.dst)
  else []
theorem flight_msg_row {w0 W : World} {g : Nat} {x : FlightE} (h : Boxed w0 g x.arr 87) (hx : FlightOk W x) : ∀ u [Later w0 u], rowOf u g 2 39 = some x.msg.arr := fun u i => rowOf_eq (MsgE.arr_size hx) fun j v hj => by
  rw [((h u).2 (2 + j)).1]
  have : x.arr[j + 2]? = x.msg.arr[j]? := by simp [FlightE.arr, FlightE.cells, MsgE.arr]
  rw [Nat.add_comm, this, hj]
theorem own_one {w : World} {g base : Nat} {x : IDE} (hb : base ≤ g) (h : w.heap[g]? = some (.cells #[.int .i64 x.machine, .int .i64 x.serial] 24 (0, 0))) : Own IDE.cells 2 24 base w (.slice (some ⟨g, 0, none⟩) 1 1) [x] := own_built IDE.enc h hb rfl rfl (by simp [maxLen])
theorem Own.stepKept {α : Type} {f : α → List Value} {s : Nat} {e : TypeId} {base b' : Nat} {w0 w w' : World} {v v' x : Value} {l l' : List α} (h' : Own f s e b' w v' l') (hv : Own f s e base w0 v l) (hz : w0.heap.size ≤ b') (hs : Step w w' v x) : Own f s e b' w' v' l' := by
  refine h'.kept hs.1 ?_
  rcases h'.form with ⟨rfl, -⟩ | ⟨g', cap', rfl, hb', -⟩
  · exact .inl rfl
  · right
    rcases hv.form with ⟨rfl, -⟩ | ⟨g, cap, rfl, -, hg, -⟩
    · intro hc; cases hc
    · intro hc
      injection hc with hc
      have hc : g' = g := hc
      omega
set_option maxRecDepth 200000 in
set_option maxHeartbeats 8000000 in
theorem refFlightRoots_any (A : Option Addr) (c : Nat) (V : List ViewE) (frm : Int) (x : FlightE) (w : World) (H : ViewsAt w A V) (hf : FewV V) (hx : FlightOk w x) (hfx : FewF x) :
    Calls Tryz.prog 59 #[.slice A V.length c, .int .i64 frm, x.v] w (IdsPost (rrootsF V frm x) w) := by
  have HV := H.later
  have hxo := hx.later
  have hR := flight_isRow hx
  have hRm := msg_isRow hx
  have hfl := hfx.l
  have hfm := hfx.m
  unfold IdsPost
  have hres := hide (show rrootsF V frm x = if x.msg.kind = 0 then x.msg.letter.args.map (refId V frm x.dst) ++ [numId V frm x.dst x.msg.number]
  else if x.msg.kind = 17 then [refId V frm x.dst x.msg.ref]
  else if x.msg.kind = 1 then x.msg.parcel.mail.flatMap fun l => x.msg.parcel.id :: l.args.map (refId V frm x.dst)
  else [] from rfl)
  generalize rrootsF V frm x = RES at hres ⊢
  go_enter Tryz.func59, Tryz.ntmps59
  go_upto_region 1 with fail
  refine wp_name ?_
  intro w0 hw0
  have b5 : w0.heap[w.heap.size]? = some (.cells x.arr 87 (0, 0)) := (by rw [← hw0]; simp only [heap_alloc_if, World.size_alloc]; repeat (first | rw [if_pos trivial] | rw [if_neg (by omega)] | rw [if_pos (by omega)]); try rfl)
  have hb0 : Below w.heap.size w w0 := by rw [← hw0]; exact (by repeat (first | with_reducible exact Below.refl _ _ | (with_reducible refine Below.drew ?_) | (with_reducible refine below_drewN ?_ _) | (with_reducible refine Below.alloc ?_ ?_ _; rotate_left; (first | omega | (simp <;> omega))) | (with_reducible refine Below.setCell ?_ ?_ _; rotate_left; (first | omega | (simp <;> omega)))))
  clear hw0
  have lw0 : Later w w0 := ⟨hb0⟩
  have l00 : Later w0 w0 := Later.refl
  have B5 := boxed b5
  have R5 := flight_msg_row B5 hx
  obtain ⟨x0, -, -, -, -, -⟩ := FlightE.box B5
  clear B5
  go_upto_region 2 with fail
  refine wp_name ?_
  intro w1 hw1
  have b7 : w1.heap[w0.heap.size]? = some (.cells x.msg.arr 85 (0, 0)) := (by rw [← hw1]; simp only [heap_alloc_if, World.size_alloc]; repeat (first | rw [if_pos trivial] | rw [if_neg (by omega)] | rw [if_pos (by omega)]); try rfl)
  have hb1 : Below w0.heap.size w0 w1 := by rw [← hw1]; exact (by repeat (first | with_reducible exact Below.refl _ _ | (with_reducible refine Below.drew ?_) | (with_reducible refine below_drewN ?_ _) | (with_reducible refine Below.alloc ?_ ?_ _; rotate_left; (first | omega | (simp <;> omega))) | (with_reducible refine Below.setCell ?_ ?_ _; rotate_left; (first | omega | (simp <;> omega)))))
  clear hw1
  have l01 : Later w0 w1 := ⟨hb1⟩
  have lw1 : Later w w1 := lw0.trans l01
  have l11 : Later w1 w1 := Later.refl
  have B7 := boxed b7
  clear b7 R5
  obtain ⟨g7, h7⟩ : ∃ z, z = w0.heap.size := ⟨_, rfl⟩
  rw [← h7] at B7 ⊢
  clear h7
  obtain ⟨g5, h5⟩ : ∃ z, z = w.heap.size := ⟨_, rfl⟩
  rw [← h5] at x0 ⊢
  have H5 := hide h5
  clear h5
  obtain ⟨q0, hq0⟩ : ∃ q, (x.msg.kind == 0) = q := ⟨_, rfl⟩
  obtain ⟨q17, hq17⟩ : ∃ q, (x.msg.kind == 17) = q := ⟨_, rfl⟩
  obtain ⟨q1, hq1⟩ : ∃ q, (x.msg.kind == 1) = q := ⟨_, rfl⟩
  have H0 : Hid (x.msg.kind = 0 ↔ q0 = true) := hide (by rw [← hq0]; simp)
  have H17 : Hid (x.msg.kind = 17 ↔ q17 = true) := hide (by rw [← hq17]; simp)
  have H1 : Hid (x.msg.kind = 1 ↔ q1 = true) := hide (by rw [← hq1]; simp)
  cases q0
  · cases q17
    · cases q1
      · have hr := hide (show RES = [] by rw [hres.out, if_neg (by rw [H0.out]; simp), if_neg (by rw [H17.out]; simp), if_neg (by rw [H1.out]; simp)])
        go_wp2_with fail
        go_ret
        exact ⟨[], none, 0, hide hr.out.symm, rfl, Own.nil, below_of⟩
      · have hr := hide (show RES = x.msg.parcel.mail.flatMap fun l => x.msg.parcel.id :: l.args.map (refId V frm x.dst) by rw [hres.out, if_neg (by rw [H0.out]; simp), if_neg (by rw [H17.out]; simp), if_pos (by rw [H1.out])])
        have HRf : ∀ (l : LetterE), l ∈ x.msg.parcel.mail → ∀ u [Later w u], Calls Tryz.prog 92 #[.slice A V.length c, .int .i64 frm, .int .i64 x.dst, .slice l.A l.args.length l.c] u (IdsPost (l.args.map (refId V frm x.dst)) u) := fun l hl u i => refRefs_any A c V frm x.dst l.A l.c l.args u (HV u) hf ((hxo u).p.l l hl) (by have := hfx.a l hl; omega)
        have cx : ∀ u [Later w1 u], u.cell? ⟨g5, 0, none⟩ = some (.int .i64 x.dst) ∧ u.cell? ⟨g7, 17, none⟩ = some (.int .i64 x.msg.parcel.iM) ∧ u.cell? ⟨g7, 18, none⟩ = some (.int .i64 x.msg.parcel.iS) ∧ u.cell? ⟨g7, 22, none⟩ = some (.slice x.msg.parcel.mA x.msg.parcel.mail.length x.msg.parcel.mc) := fun u i => by
          haveI := l01.trans i
          exact ⟨x0 u, by rw [((B7 u).2 17).1]; exact msg_arr17 x.msg, by rw [((B7 u).2 18).1]; exact msg_arr18 x.msg, by rw [((B7 u).2 22).1]; exact msg_arr22 x.msg⟩
        clear hres H0 H17 H1
        go_upto_region 9 with fail
        refine wp_name ?_
        intro w2 hw2
        have ho2 : Own IDE.cells 2 24 w1.heap.size w2 (.slice (some ⟨w1.heap.size, 0, none⟩) 0 0) ([] : List IDE) := Own.empty_blk (Nat.le_refl _) (by rw [← hw2]; exact heap_alloc_new _ _)
        have hb2 : Below w1.heap.size w1 w2 := by rw [← hw2]; exact (by repeat (first | with_reducible exact Below.refl _ _ | (with_reducible refine Below.drew ?_) | (with_reducible refine below_drewN ?_ _) | (with_reducible refine Below.alloc ?_ ?_ _; rotate_left; (first | omega | (simp <;> omega))) | (with_reducible refine Below.setCell ?_ ?_ _; rotate_left; (first | omega | (simp <;> omega)))))
        clear hw2 B7 x0
        have hxo1 := hxo w1
        have hxf := hfx.a
        obtain ⟨ML, hML⟩ : ∃ z, z = x.msg.parcel.mail := ⟨_, rfl⟩
        have hmN := hide (show ML.length ≤ 4 by rw [hML]; exact hfx.m)
        have hMo : ∀ u [Later w1 u], SlAt LetterE.cells 4 u x.msg.parcel.mA ML := fun u i => by rw [hML]; exact (hxo1.p.m).below i.below
        rw [← hML] at hr cx HRf hxf
        clear hML
        go_wp2_with fail
        go_loopw [8, 9] (fun ov kv wr => ∃ (k : Nat) (q : List IDE) (QA : Option Addr) (QC : Nat), k ≤ ML.length ∧ kv = .int .i64 k ∧ ov = .slice QA q.length QC ∧ Hid (q = (ML.take k).flatMap fun l => x.msg.parcel.id :: l.args.map (refId V frm x.dst)) ∧ Hid (q.length ≤ 7 * k) ∧ Own IDE.cells 2 24 w1.heap.size wr (.slice QA q.length QC) q ∧ Below w1.heap.size w1 wr) (fun _ kv _ => ML.length - (intOf kv).toNat)
        case atStart => exact ⟨0, [], _, _, by omega, rfl, rfl, hide rfl, hide (by simp), ho2, hb2⟩
        clear ho2 hb2
        case round =>
          obtain ⟨k, q, QA, QC, hk, rfl, rfl, hq, hqk, hoq, hbr⟩ := hrel
          have lrr : Later wr wr := Later.refl
          have l1r : Later w1 wr := ⟨hbr⟩
          have lwr : Later w wr := lw1.trans l1r
          obtain ⟨cd0, cd1, cd2, cd3⟩ := cx wr
          by_cases hlt : k < ML.length
          rotate_left
          · have hkk : k = ML.length := by omega
            subst hkk
            rw [List.take_length] at hq
            go_wp2_with fail
            go_ret
            exact ⟨q, QA, QC, hide (by rw [hr.out, hq.out]), rfl, hoq.mono lw1.below.size, lwr.below⟩
          have hki : (k : Int) < (ML.length : Int) := by omega
          have hkb : k < 4 := by have := hmN.out; omega
          obtain ⟨mb, mo, m, hmA, hm, hmm, MC⟩ := letters_get (hMo w1) hlt
          rw [hmA] at cx cd3
          have hT := hide (take_snoc_get hm)
          have hmf := hxf m hmm
          have HRm : ∀ u [Later w u], Calls Tryz.prog 92 #[.slice A V.length c, .int .i64 frm, .int .i64 x.dst, .slice m.A m.args.length m.c] u (IdsPost (m.args.map (refId V frm x.dst)) u) := HRf m hmm
          unfold IdsPost at HRm
          clear hm HRf
          have hq7 : q.length ≤ 28 := by have := hqk.out; have := hmN.out; omega
          have cy : ∀ u [Later w1 u], u.cell? ⟨g5, 0, none⟩ = some (.int .i64 x.dst) ∧ u.cell? ⟨g7, 17, none⟩ = some (.int .i64 x.msg.parcel.iM) ∧ u.cell? ⟨g7, 18, none⟩ = some (.int .i64 x.msg.parcel.iS) ∧ u.cell? ⟨g7, 22, none⟩ = some (.slice (some ⟨mb, mo, none⟩) ML.length x.msg.parcel.mc) ∧ u.cell? ⟨mb, mo + k * 4 + 3, none⟩ = some (.slice m.A m.args.length m.c) := fun u i => ⟨(cx u).1, (cx u).2.1, (cx u).2.2.1, (cx u).2.2.2, (MC u).2.2.2⟩
          clear cx MC cd0 cd1 cd2 cd3
          obtain ⟨c0, c1, c2, c3, c4⟩ := cy wr
          go_upto_region 12 with fail
          go_region_held3 (fun w' => w'.cell? ⟨g5, 0, none⟩ = some (.int .i64 x.dst) ∧ w'.cell? ⟨g7, 17, none⟩ = some (.int .i64 x.msg.parcel.iM) ∧ w'.cell? ⟨g7, 18, none⟩ = some (.int .i64 x.msg.parcel.iS) ∧ w'.cell? ⟨g7, 22, none⟩ = some (.slice (some ⟨mb, mo, none⟩) ML.length x.msg.parcel.mc) ∧ w'.cell? ⟨mb, mo + k * 4 + 3, none⟩ = some (.slice m.A m.args.length m.c)) (exact cy _)
            ((first
              | (go_at_call 92
                 refine (HRm _).mono ?_
                 rintro r w6 ⟨q6, QA6, QC6, hq6, rfl, hoq6, hb6⟩
                 have l6 := later hb6
                 have hq6l : q6.length ≤ 6 := by rw [hq6.out, List.length_map]; exact hmf
                 first
                   | (have hz6 := (show Below wr.heap.size wr _ from below_of).trans hb6
                      have hoq7 := hoq6.mono (show wr.heap.size ≤ _ from (show Below wr.heap.size wr _ from below_of).size))
                   | skip)
              | (refine step_app2 (P := Tryz.prog) rfl (.tmp 54) (.tmp 58) (by rfl) IDE.enc idT _ _ [x.msg.parcel.id] q (.slice QA q.length QC) (by rfl) (by rfl) (m := 1) (n := q.length + 1) rfl rfl (hoq.later _) (blk_slAt IDE.enc (fr := (0, 0)) (e := 24) (by first | exact (by (simp only [heap_drew, heap_alloc_if, World.size_alloc]); (repeat (first | rw [if_pos rfl] | rw [if_neg (by omega)] | rw [if_pos (by omega)])); try rfl) | exact blk_below (heap_alloc_new _ _) below_of) [x.msg.parcel.id] rfl) (by omega) (by unfold maxLen; omega) (show Below w1.heap.size w1 _ from below_of).size ?_
                 intro A9 c9 w9 ho9 hm9 hst9
                 have hoW := hoq.later
                 have hb9 : Below w1.heap.size w1 w9 := below_stepA (hoW _) hst9 (show Below w1.heap.size w1 _ from below_of) (show Below w1.heap.size w1 _ from below_of).size
                 have l19 : Later w1 w9 := ⟨hb9⟩
                 have lw9 : Later w w9 := lw1.trans l19
                 have l99 : Later w9 w9 := Later.refl
                 first
                   | (have hoq8 := (hoq7.later _).stepKept hoq (Nat.le_refl _) hst9)
                   | skip)
              | (first
                   | (refine step_app2 (P := Tryz.prog) rfl (.tmp 59) (.tmp 71) (by rfl) IDE.enc idT _ _ q6 (q ++ [x.msg.parcel.id]) (.slice A9 (q.length + 1) c9) (by rfl) (by rfl) (m := q6.length) (n := q.length + 1 + q6.length) rfl (by rw [List.length_append]; rfl) (ho9.later _) ((hoq8.later _).at_ IDE.enc).2.2 (by omega) (by unfold maxLen; omega) (show Below w1.heap.size w1 _ from below_of).size ?_)
                   | (refine step_app2 (P := Tryz.prog) rfl (.tmp 59) (.tmp 71) (by rfl) IDE.enc idT _ _ q6 (q ++ [x.msg.parcel.id]) (.slice A9 (q.length + 1) c9) (by rfl) (by rfl) (m := q6.length) (n := q.length + 1 + q6.length) rfl (by rw [List.length_append]; rfl) (ho9.later _) ((hoq6.later _).at_ IDE.enc).2.2 (by omega) (by unfold maxLen; omega) (show Below w1.heap.size w1 _ from below_of).size ?_)
                 intro A8 c8 w8 ho8 hm8 hst8
                 have hoV := ho9.later
                 have hb8 : Below w1.heap.size w1 w8 := below_stepA (hoV _) hst8 (show Below w1.heap.size w1 _ from below_of) (show Below w1.heap.size w1 _ from below_of).size
                 have l18 : Later w1 w8 := ⟨hb8⟩)
              | fail))
          all_goals go_wp2_with fail
          all_goals go_roundw
          case rel => exact ⟨k + 1, (q ++ [x.msg.parcel.id]) ++ q6, A8, c8, by omega, by go_num, by rw [List.length_append, List.length_append]; rfl, hide (by rw [hT.out, List.flatMap_append, ← hq.out, hq6.out]; simp), hide (by rw [List.length_append, List.length_append, List.length_singleton]; have := hqk.out; omega), by rw [List.length_append, List.length_append]; exact ho8, hb8⟩
          case measure => simp [intOf]; omega
    · have hr := hide (show RES = [refId V frm x.dst x.msg.ref] by rw [hres.out, if_neg (by rw [H0.out]; simp), if_pos (by rw [H17.out])])
      have hcall : ∀ u [Later w u], Calls Tryz.prog 94 #[.slice A V.length c, .int .i64 frm, .int .i64 x.dst, x.msg.ref.v] u (IdPost V frm x.dst x.msg.ref u) := fun u i => refRefID_any A c V frm x.dst x.msg.ref u (HV u) hf
      obtain ⟨val, hval⟩ : ∃ y, refId V frm x.dst x.msg.ref = y := ⟨_, rfl⟩
      unfold IdPost at hcall
      rw [hval] at hcall
      have Hval := hide hval
      clear hval
      go_wp2_with (go_at_call 94; refine (hcall _).mono ?_; rintro r w6 ⟨rfl, hb6⟩; have l6 := later hb6)
      go_ret
      exact ⟨[val], some ⟨w6.heap.size, 0, none⟩, 1, hide (by rw [hr.out, Hval.out]), rfl, own_one (show Below w.heap.size w w6 from below_of).size (heap_alloc_new _ _), below_of⟩
  · have hr := hide (show RES = x.msg.letter.args.map (refId V frm x.dst) ++ [numId V frm x.dst x.msg.number] by rw [hres.out, if_pos (by rw [H0.out])])
    have HRf : ∀ u [Later w u], Calls Tryz.prog 92 #[.slice A V.length c, .int .i64 frm, .int .i64 x.dst, .slice x.msg.letter.A x.msg.letter.args.length x.msg.letter.c] u (IdsPost (x.msg.letter.args.map (refId V frm x.dst)) u) := fun u i => refRefs_any A c V frm x.dst x.msg.letter.A x.msg.letter.c x.msg.letter.args u (HV u) hf (hxo u).l (by omega)
    have HNm : ∀ u [Later w u], Calls Tryz.prog 93 #[.slice A V.length c, .int .i64 frm, .int .i64 x.dst, .int .u64 x.msg.number] u (NumPost V frm x.dst x.msg.number u) := fun u i => refNumbered_any A c V frm x.dst x.msg.number u (HV u) hf
    unfold IdsPost at HRf
    unfold NumPost at HNm
    obtain ⟨N, hN⟩ : ∃ y, numId V frm x.dst x.msg.number = y := ⟨_, rfl⟩
    rw [hN] at HNm
    rw [hN] at hr
    clear hN
    have cx : ∀ u [Later w1 u], u.cell? ⟨g5, 0, none⟩ = some (.int .i64 x.dst) ∧ u.cell? ⟨g7, 15, none⟩ = some (.slice x.msg.letter.A x.msg.letter.args.length x.msg.letter.c) ∧ u.cell? ⟨g7, 1, none⟩ = some (.int .u64 x.msg.number) := fun u i => by
      haveI := l01.trans i
      exact ⟨x0 u, by rw [((B7 u).2 15).1]; exact msg_arr15 x.msg, by rw [((B7 u).2 1).1]; exact msg_arr1 x.msg⟩
    go_upto_region 4 with fail
    refine wp_name ?_
    intro w2 hw2
    have hb12 : Below w1.heap.size w1 w2 := by rw [← hw2]; exact below_of
    clear hw2
    have l12 : Later w1 w2 := ⟨hb12⟩
    have lw2 : Later w w2 := lw1.trans l12
    have l22 : Later w2 w2 := Later.refl
    have cx2 : ∀ u [Later w2 u], u.cell? ⟨g5, 0, none⟩ = some (.int .i64 x.dst) ∧ u.cell? ⟨g7, 15, none⟩ = some (.slice x.msg.letter.A x.msg.letter.args.length x.msg.letter.c) ∧ u.cell? ⟨g7, 1, none⟩ = some (.int .u64 x.msg.number) := fun u i => by haveI := l12.trans i; exact cx u
    obtain ⟨c0, c1, c2⟩ := cx2 w2
    clear cx B7 x0
    go_region_held3 (fun w' => w'.cell? ⟨g5, 0, none⟩ = some (.int .i64 x.dst) ∧ w'.cell? ⟨g7, 15, none⟩ = some (.slice x.msg.letter.A x.msg.letter.args.length x.msg.letter.c) ∧ w'.cell? ⟨g7, 1, none⟩ = some (.int .u64 x.msg.number)) (exact cx2 _)
      ((first
        | (go_at_call 92
           refine (HRf _).mono ?_
           rintro r w6 ⟨q, QA, QC, hq, rfl, hoq, hb6⟩
           have l6 := later hb6
           have hoq1 := hoq.mono (show w2.heap.size ≤ _ from (show Below w2.heap.size w2 _ from below_of).size))
        | (go_at_call 93
           refine (HNm _).mono ?_
           rintro r w7 ⟨rfl, hb7⟩
           have l7 := later hb7)
        | (have hql : q.length ≤ 1000 := by rw [hq.out, List.length_map]; omega
           refine step_app2 (P := Tryz.prog) rfl (.tmp 23) (.tmp 31) (by rfl) IDE.enc idT _ _ [N] q (.slice QA q.length QC) (by rfl) (by rfl) (m := 1) (n := q.length + 1) rfl rfl (hoq1.later _) (blk_slAt IDE.enc (fr := (0, 0)) (e := 24) (by first | exact (by (simp only [heap_drew, heap_alloc_if, World.size_alloc]); (repeat (first | rw [if_pos rfl] | rw [if_neg (by omega)] | rw [if_pos (by omega)])); try rfl) | exact blk_below (heap_alloc_new _ _) below_of) [N] rfl) (by omega) (by unfold maxLen; omega) (show Below w2.heap.size w2 _ from below_of).size ?_
           intro A9 c9 w9 ho9 hm9 hst9
           have hoW := hoq1.later
           have hb9 : Below w2.heap.size w2 w9 := below_stepA (hoW _) hst9 (show Below w2.heap.size w2 _ from below_of) (show Below w2.heap.size w2 _ from below_of).size
           have l29 : Later w2 w9 := ⟨hb9⟩)))
    all_goals go_wp2_with fail
    all_goals go_ret
    all_goals exact ⟨q ++ [N], A9, c9, hide (by rw [hr.out, hq.out]), by rw [List.length_append]; rfl, by rw [List.length_append]; exact ho9.mono lw2.below.size, lw2.below.trans (hb9.mono lw2.below.size)⟩
end Go.Proofs.YtpkfenlfgdbkcaaGreatDoor
