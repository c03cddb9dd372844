/-
  Contracts of the functions of this seat that each theorem names: what a call returns, and that it writes nothing that was there before. The conditions stand in each theorem.
-/
import Derived.Test.YthigjlllhnajbaaC25Pair1
namespace Go.Proofs.Ythigjlllhnajbaa
open Go.RowKit
/-! An append onto a field of the pair, in a region that draws its order: W the world ahead, OWN the slice's Own in it, v the slice, X the element, bx the block that must stay, i4 i6 i7 i10 the operations (load, buildSlice, append, store). -/
attribute [local go_sem ↓] run_neq_id run_eql_id
set_option maxRecDepth 100000 in
set_option maxHeartbeats 8000000 in
theorem receive_any {base p : Nat} {sv nv cv ov lv : Value} {st : PairS} {ls : List LA} (w : World) (P : PairAt base p w sv nv cv ov lv st ls) (hb : base ≤ w.heap.size) (h1 : st.inn ≤ st.toClient.length) (hl : st.stubs.length ≤ 1000) (hlc : st.toClient.length ≤ 1000) :
    Calls Try.prog 24 #[.pointer (some ⟨p, 0, none⟩)] w (PPost base p w st.receive) := by
  obtain ⟨sA, sC, rfl, hsc, hsm, hsS⟩ := P.k.s.slAt StubE.enc
  obtain ⟨nA, nC, rfl, hnc, hnm, hnS⟩ := P.k.n.slAt ScionE.enc
  obtain ⟨cA, cC, rfl, hcc, hcm, hcS⟩ := P.k.c.slAt ScionE.enc
  obtain ⟨oA, oC, rfl, hoc, hom, hoS⟩ := P.k.o.slAt ScionE.enc
  obtain ⟨lA, lC, rfl, hlc, hlm, hlS⟩ := P.k.l.slAt LA.enc
  have BP := boxed P.h
  have hPl := blk_lt P.h
  have hPb := P.b
  have HS : ∀ u [Later w u], SlAt StubE.cells 12 u sA st.stubs := fun u i => hsS.below i.below
  have HC : ∀ u [Later w u], SlAt ScionE.cells 12 u cA st.toClient := fun u i => hcS.below i.below
  have lw : Later w w := Later.refl
  go_enter Try.func24, Try.ntmps24
  by_cases he : st.inn = st.toClient.length
  · have he' : ((st.inn : Int) == (st.toClient.length : Int)) = true := by simp [he]
    have Hrec := hide (show st.receive = st by unfold PairS.receive; rw [List.getElem?_eq_none (by omega)])
    clear he
    go_upto_region 0 with fail
    (refine wp_region_after (by kernel_rfl) (by kernel_rfl) ?_
     repeat (any_goals (first | go_big_quiet_skip | (go_big_quiet_want; go_big_quiet_op; first | go_big_quiet_on | go_big_quiet_call (fail)) | quiet_step (fail) | (refine wpQuiet_step (fun K hK => ?_); go_simp; split <;> (refine hK _ ?_; clear hK K))))
     all_goals (refine wpQuiet_nil ?_; intro _ hw'; obtain ⟨u', hw''⟩ := hw'; subst hw''; obtain ⟨wd, hbd⟩ := u'; simp only [After.val_mk]))
    have ld := later hbd
    go_wp2_with fail
    refine bodyPost_ret (results_none rfl _ _ _) rfl ?_
    rw [Hrec.out]
    exact ⟨rfl, ⟨_, _, _, _, _, ls, P.later _⟩, (below_of (b := w)).mono hb⟩
  · have he' : ((st.inn : Int) == (st.toClient.length : Int)) = false := by simp; omega
    have hil : (st.inn : Int) < (st.toClient.length : Int) := by omega
    have hi0 : (0 : Int) ≤ (st.inn : Int) := by omega
    have hin : st.inn < st.toClient.length := by omega
    have e4 := natC st.inn (by omega)
    obtain ⟨g1, o1, x, rfl, hx, C1⟩ := ScionE.get (HC w) hin
    have Hx := hide hx
    clear he hx
    go_upto_region 0 with fail
    (refine wp_region_after (by kernel_rfl) (by kernel_rfl) ?_
     repeat (any_goals (first | go_big_quiet_skip | (go_big_quiet_want; go_big_quiet_op; first | go_big_quiet_on | go_big_quiet_call (fail)) | quiet_step (fail) | (refine wpQuiet_step (fun K hK => ?_); go_simp; split <;> (refine hK _ ?_; clear hK K))))
     all_goals (refine wpQuiet_nil ?_; intro _ hw'; obtain ⟨u', hw''⟩ := hw'; subst hw''; obtain ⟨wd, hbd⟩ := u'; simp only [After.val_mk]))
    have ld := later hbd
    go_upto_region 1 with fail
    refine wp_name ?_
    intro w1 hw1
    have l1 := later_name' hw1 (inferInstance : Later wd _)
    clear hw1
    go_region_held3 (fun w' => ∀ b [Later b w1], Later b w') ((intro b _; infer_instance)) (fail)
    go_upto_region 2 with fail
    refine wp_name ?_
    intro w2 hw2
    have bx2 : w2.heap[w1.heap.size]? = some (.cells x.arr 43 (0, 0)) := by rw [← hw2]; exact heap_alloc_new _ _
    have l2 := later_name' hw2 (inferInstance : Later w1 _)
    have hb02 : Below w.heap.size w w2 := below_of
    have P2 := P.below hb02
    have hz1 : w.heap.size ≤ w1.heap.size := (show Below w.heap.size w w1 from below_of).size
    have hpx : p ≠ w1.heap.size := by omega
    clear hw2
    go_upto_region 3 with fail
    refine wp_name ?_
    intro w3 hw3
    have hp3 : w3.heap[p]? = some (.cells #[.slice sA st.stubs.length sC, .slice nA st.scions.length nC, .slice (some ⟨g1, o1, none⟩) st.toClient.length cC, .slice oA st.toOwner.length oC, .int .i64 st.sent, .int .i64 st.got, .int .i64 st.out, .int .i64 ((st.inn + 1 : Nat) : Int), .int .i64 st.round, .int .i64 st.applied, .int .u64 st.next, .slice lA ls.length lC] tPa (0, 0)) := by rw [← hw3]; exact (blk_set P2.h 7 _).trans rfl
    have k3 : Slices base w3 (.slice sA st.stubs.length sC) (.slice nA st.scions.length nC) (.slice (some ⟨g1, o1, none⟩) st.toClient.length cC) (.slice oA st.toOwner.length oC) (.slice lA ls.length lC) st ls := by rw [← hw3]; exact P2.k.setp P2.h 7 _
    have bx3 : w3.heap[w1.heap.size]? = some (.cells x.arr 43 (0, 0)) := by rw [← hw3]; exact (blk_far hpx.symm _).trans bx2
    have hb3 : Below base w w3 := by rw [← hw3]; exact (hb02.mono hb).setCell P.b _
    have P3 : PairAt base p w3 _ _ _ _ _ { st with inn := st.inn + 1 } ls := ⟨P.b, hp3, k3.nums rfl rfl rfl rfl rfl⟩
    have hz3 : w.heap.size ≤ w3.heap.size := hb3.size
    have hS3 : SlAt StubE.cells 12 w3 sA st.stubs := (k3.s.at_ StubE.enc).2.2
    have HS3 : ∀ u [Later w3 u], SlAt StubE.cells 12 u sA st.stubs := fun u i => hS3.below i.below
    have hnx : ∀ g, (Value.slice sA st.stubs.length sC).ownBlock = some g → g ≠ w1.heap.size := fun g e => by have := (World.ownsRow.lt P.k.s _ e).2; omega
    clear hw3 BP HS HC C1 e4
    have BX := boxed bx3
    have BP := boxed hp3
    have l33 : Later w3 w3 := Later.refl
    have hl63 : st.stubs.length ≤ 9223372036854775807 := by omega
    go_wp2_with fail
    go_loopw [37] (fun iv wr => ∃ k : Nat, k ≤ st.stubs.length ∧ iv = .int .i64 k ∧ (∀ (j : Nat) (s : StubE), j < k → st.stubs[j]? = some s → (stID s x.iDMachine x.iDSerial && !s.weak) = false) ∧ Below w3.heap.size w3 wr) (fun iv _ => st.stubs.length - (intOf iv).toNat)
    case atStart => exact ⟨0, by omega, rfl, fun j s h => absurd h (by omega), Below.refl _ _⟩
    case round =>
      obtain ⟨k, hk, rfl, hno, hbr⟩ := hrel
      have lr := later hbr
      have Hno := hide hno
      clear hno
      by_cases hlt : k < st.stubs.length
      · obtain ⟨b2, o2, y, rfl, hy, C2⟩ := StubE.get (HS3 wr) hlt
        have Hy := hide hy
        clear hy
        go_upto_region 6 with fail
        refine wp_name ?_
        intro w5 hw5
        obtain ⟨B5, l5⟩ := box1 hw5
        clear hw5
        cases hid : ideq y.iDMachine y.iDSerial x.iDMachine x.iDSerial
        · have hp := hide (show (stID y x.iDMachine x.iDSerial && !y.weak) = false by rw [show stID y x.iDMachine x.iDSerial = false from hid]; rfl)
          go_wp2_with fail
          go_roundw
          case rel => exact ⟨k + 1, by omega, by go_num, fun j s hj hs => by
            rcases Nat.lt_or_ge j k with h | h
            · exact Hno.out j s h hs
            · have : j = k := by omega
              subst this
              rw [Hy.out] at hs; injection hs with hs; subst hs; exact hp.out, below_of⟩
          case measure => simp [intOf]; omega
        · cases hyw : y.weak
          · have hany := hide (show st.stubs.any (fun s => stID s x.iDMachine x.iDSerial && !s.weak) = true from List.any_eq_true.2 ⟨y, List.mem_of_getElem? Hy.out, by rw [show stID y x.iDMachine x.iDSerial = true from hid, hyw]; rfl⟩)
            have Hrec := hide (show st.receive = { st with inn := st.inn + 1 } by unfold PairS.receive; rw [Hx.out]; simp only [hany.out, if_true])
            go_wp2_with fail
            refine bodyPost_ret (results_none rfl _ _ _) rfl ?_
            rw [Hrec.out]
            exact ⟨rfl, ⟨_, _, _, _, _, ls, P3.later _⟩, hb3.trans ((below_of (b := w3)).mono (by omega))⟩
          · have hp := hide (show (stID y x.iDMachine x.iDSerial && !y.weak) = false by rw [hyw]; simp)
            go_wp2_with fail
            go_roundw
            case rel => exact ⟨k + 1, by omega, by go_num, fun j s hj hs => by
              rcases Nat.lt_or_ge j k with h | h
              · exact Hno.out j s h hs
              · have : j = k := by omega
                subst this
                rw [Hy.out] at hs; injection hs with hs; subst hs; exact hp.out, below_of⟩
            case measure => simp [intOf]; omega
      · have hk' : k = st.stubs.length := by omega
        subst hk'
        have hany := hide (show st.stubs.any (fun s => stID s x.iDMachine x.iDSerial && !s.weak) = false from List.any_eq_false.2 fun s hs => by
          obtain ⟨j, hj⟩ := List.getElem?_of_mem hs
          rw [Hno.out j s (List.getElem?_eq_some_iff.1 hj).1 hj]; decide)
        have Hrec := hide (show st.receive = { st with inn := st.inn + 1, stubs := dropS st.stubs x.iDMachine x.iDSerial ++ [newStub x] } by unfold PairS.receive; rw [Hx.out]; simp only [hany.out, Bool.false_eq_true, if_false])
        have Pr := P3.later wr
        go_wp2_with (go_at_call 40; refine (drop_any x.iDMachine x.iDSerial _ Pr (by have := hbr.size; omega) hl).mono ?_)
        rintro r w4 ⟨rfl, ⟨sv4, P4⟩, on4⟩
        have hzr := hbr.size
        have bx4 := on4.boxed (blk_below bx3 hbr) hpx.symm
        have hb4 : Below base w w4 := (hb3.trans (hbr.mono (by omega))).trans (on4.below (fun k e => by subst e; exact P.b) (by omega))
        have hz4 : base ≤ w4.heap.size := Nat.le_trans hb hb4.size
        obtain ⟨d, hd⟩ : ∃ d, d = dropS st.stubs x.iDMachine x.iDSerial := ⟨_, rfl⟩
        have hdl : d.length ≤ 1000 := by rw [hd]; exact Nat.le_trans (List.length_filter_le _ _) hl
        have P4' : PairAt base p w4 sv4 (.slice nA st.scions.length nC) (.slice (some ⟨g1, o1, none⟩) st.toClient.length cC) (.slice oA st.toOwner.length oC) (.slice lA ls.length lC) { st with inn := st.inn + 1, stubs := d } ls := by rw [hd]; exact P4
        obtain ⟨sA4, sC4, rfl, -, -, -⟩ := P4'.k.s.slAt StubE.enc
        have hp4 : w4.heap[p]? = some (.cells #[.slice sA4 d.length sC4, .slice nA st.scions.length nC, .slice (some ⟨g1, o1, none⟩) st.toClient.length cC, .slice oA st.toOwner.length oC, .int .i64 st.sent, .int .i64 st.got, .int .i64 st.out, .int .i64 ((st.inn + 1 : Nat) : Int), .int .i64 st.round, .int .i64 st.applied, .int .u64 st.next, .slice lA ls.length lC] tPa (0, 0)) := P4'.h
        have k4 := P4'.k
        have ks4 : Own StubE.cells 12 tSt base w4 (.slice sA4 d.length sC4) d := P4'.k.s
        have hnx4 := own_off ks4 bx4 (by decide)
        rw [← hd] at Hrec
        clear P4 P4' hd on4 BX BP lr l33 hbr Pr
        have BX := boxed bx4
        have BP := boxed hp4
        have l44 : Later w4 w4 := Later.refl
        go_upto_region 9 with fail
        refine wp_region_held_drew (S := fun w' => ∀ i : Nat, w'.cell? ⟨w1.heap.size, i, none⟩ = (x.arr)[i]?) (by kernel_rfl) (fun i => ((BX w4).2 i).1) (fun hHeld => ?_)
        refine wpAnyH_take (i := 0) (oi := _) (v := ?_) rfl (by kernel_rfl) (by kernel_rfl) (by kernel_rfl) (fun _ _ _ h => h) (Or.inl ⟨by rfl, ?_⟩) (by assumption) ?_
        rotate_left 1
        · (intro wy hSw; (try dsimp only at hSw); go_simp; try with_reducible rfl)
        (try simp only [Act.put])
        refine wpAnyH_take (i := 1) (oi := _) (v := ?_) rfl (by kernel_rfl) (by kernel_rfl) (by kernel_rfl) (fun _ _ _ h => h) (Or.inl ⟨by rfl, ?_⟩) (by assumption) ?_
        rotate_left 1
        · (intro wy hSw; (try dsimp only at hSw); go_simp; try with_reducible rfl)
        (try simp only [Act.put])
        refine wpAnyH_take (i := 2) (oi := _) (v := ?_) rfl (by kernel_rfl) (by kernel_rfl) (by kernel_rfl) (fun _ _ _ h => h) (Or.inl ⟨by rfl, ?_⟩) (by assumption) ?_
        rotate_left 1
        · (intro wy hSw; (try dsimp only at hSw); go_simp; try with_reducible rfl)
        (try simp only [Act.put])
        refine wpAnyH_take (i := 3) (oi := _) (v := ?_) rfl (by kernel_rfl) (by kernel_rfl) (by kernel_rfl) (fun _ _ _ h => h) (Or.inl ⟨by rfl, ?_⟩) (by assumption) ?_
        rotate_left 1
        · (intro wy hSw; (try dsimp only at hSw); go_simp; try with_reducible rfl)
        (try simp only [Act.put])
        refine wpAnyH_take (i := 5) (oi := _) (v := ?_) rfl (by kernel_rfl) (by kernel_rfl) (by kernel_rfl) (fun _ _ _ h => h) (Or.inl ⟨by rfl, ?_⟩) (by assumption) ?_
        rotate_left 1
        · (intro wy hSw; (try dsimp only at hSw); go_simp; try with_reducible rfl)
        (try simp only [Act.put])
        refine wpAnyH_take (i := 6) (oi := _) (v := ?_) rfl (by kernel_rfl) (by kernel_rfl) (by kernel_rfl) (fun _ _ _ h => h) (Or.inl ⟨by rfl, ?_⟩) (by assumption) ?_
        rotate_left 1
        · (intro wy hSw; (try dsimp only at hSw); go_simp; try with_reducible rfl)
        (try simp only [Act.put])
        refine wpAnyH_take (i := 7) (oi := _) (v := ?_) rfl (by kernel_rfl) (by kernel_rfl) (by kernel_rfl) (fun _ _ _ h => h) (Or.inl ⟨by rfl, ?_⟩) (by assumption) ?_
        rotate_left 1
        · (intro wy hSw; (try dsimp only at hSw); go_simp; try with_reducible rfl)
        (try simp only [Act.put])
        refine wpAnyH_take (i := 8) (oi := _) (v := ?_) rfl (by kernel_rfl) (by kernel_rfl) (by kernel_rfl) (fun _ _ _ h => h) (Or.inl ⟨by rfl, ?_⟩) (by assumption) ?_
        rotate_left 1
        · (intro wy hSw; (try dsimp only at hSw); go_simp; try with_reducible rfl)
        (try simp only [Act.put])
        refine wpAnyH_take (i := 9) (oi := _) (v := ?_) rfl (by kernel_rfl) (by kernel_rfl) (by kernel_rfl) (fun _ _ _ h => h) (Or.inl ⟨by rfl, ?_⟩) (by assumption) ?_
        rotate_left 1
        · (intro wy hSw; (try dsimp only at hSw); go_simp; try with_reducible rfl)
        (try simp only [Act.put])
        refine wpAnyH_ready (rs := [4, 10]) (by kernel_rfl) (by simp) ?_
        refine AllReadyH.cons (o := _) rfl (fun K9 hK9 => ?_) (AllReadyH.cons (o := _) rfl (fun K9 hK9 => ?_) AllReadyH.nil)
        · go_simp
          refine hK9.out _ _ (by exact fun i => ((BX _).2 i).1) (fun hHeld => ?_)
          clear hK9 K9
          (try simp only [Act.put])
          refine wpAnyH_ready (rs := [10]) (by kernel_rfl) (by simp) ?_
          refine AllReadyH.cons (o := _) rfl (fun K9 hK9 => ?_) AllReadyH.nil
          go_simp
          refine hK9.out _ _ (by exact fun i => ((BX _).2 i).1) (fun hHeld => ?_)
          clear hK9 K9
          (try simp only [Act.put])
          refine wpAnyH_ready (rs := [11]) (by kernel_rfl) (by simp) ?_
          refine AllReadyH.cons (o := _) rfl (fun K9 hK9 => ?_) AllReadyH.nil
          refine step_app2 (P := Try.prog) rfl (.tmp 60) (.tmp 66) (by rfl) StubE.enc stubT _ _ [newStub x] d (.slice sA4 d.length sC4) (by rfl) (by rfl) (m := 1) (n := (d).length + 1) rfl rfl (ks4.later _) (blk_slAt StubE.enc (fr := (0, 0)) (e := 34) (heap_alloc_new _ _) [newStub x] rfl) (by omega) (by unfold maxLen; omega) (by simp only [heap_drew, World.size_alloc]; omega) ?_
          intro A9 c9 w9 ho9 hm9 hst9
          have hst : Step w4 w9 (.slice sA4 d.length sC4) (.slice A9 ((d).length + 1) c9) := Step.trans (Step.of_below (below_of (b := w4))) hst9
          have hp9 := hst.keep ks4 hp4 (by decide)
          have BP9 := boxed hp9
          have hlk : ((d) ++ [newStub x]).length = (d).length + 1 := by simp
          refine hK9.out _ _ (by exact fun i => blk_cell (hst.boxed bx4 hnx4).1 i) (fun hHeld => ?_)
          clear hK9 K9
          (try simp only [Act.put])
          refine wpAnyH_take (i := 12) (oi := _) (v := ?_) rfl (by kernel_rfl) (by kernel_rfl) (by kernel_rfl) (fun _ _ _ h => h) (Or.inl ⟨by rfl, ?_⟩) (by assumption) ?_
          rotate_left 1
          · (intro wy hSw; (try dsimp only at hSw); go_simp; try with_reducible rfl)
          (try simp only [Act.put])
          refine wpAnyH_take (i := 13) (oi := _) (v := ?_) rfl (by kernel_rfl) (by kernel_rfl) (by kernel_rfl) (fun _ _ _ h => h) (Or.inl ⟨by rfl, ?_⟩) (by assumption) ?_
          rotate_left 1
          · (intro wy hSw; (try dsimp only at hSw); go_simp; try with_reducible rfl)
          (try simp only [Act.put])
          refine wpAnyH_ready (rs := [14]) (by kernel_rfl) (by simp) ?_
          refine AllReadyH.cons (o := _) rfl (fun K9 hK9 => ?_) AllReadyH.nil
          go_simp
          refine hK9.out _ _ (by exact fun i => blk_cell ((blk_far hpx.symm _).trans (hst.boxed bx4 hnx4).1) i) (fun hHeld => ?_)
          clear hK9 K9
          (try simp only [Act.put])
          refine wpAnyH_done (by kernel_rfl) ?_ _
          go_end0
          refine ⟨rfl, ?_, (hst.below ks4 hb4 hz4).setCell P.b _⟩
          rw [Hrec.out]
          refine ⟨_, _, _, _, _, ls, ⟨P.b, (blk_set hp9 0 _).trans rfl, ?_⟩⟩
          exact ((k4.stepS hst ho9).setp hp9 0 _).nums rfl rfl rfl rfl rfl
        · go_simp
          refine hK9.out _ _ (by exact fun i => ((BX _).2 i).1) (fun hHeld => ?_)
          clear hK9 K9
          (try simp only [Act.put])
          refine wpAnyH_ready (rs := [4]) (by kernel_rfl) (by simp) ?_
          refine AllReadyH.cons (o := _) rfl (fun K9 hK9 => ?_) AllReadyH.nil
          go_simp
          refine hK9.out _ _ (by exact fun i => ((BX _).2 i).1) (fun hHeld => ?_)
          clear hK9 K9
          (try simp only [Act.put])
          refine wpAnyH_ready (rs := [11]) (by kernel_rfl) (by simp) ?_
          refine AllReadyH.cons (o := _) rfl (fun K9 hK9 => ?_) AllReadyH.nil
          refine step_app2 (P := Try.prog) rfl (.tmp 60) (.tmp 66) (by rfl) StubE.enc stubT _ _ [newStub x] d (.slice sA4 d.length sC4) (by rfl) (by rfl) (m := 1) (n := (d).length + 1) rfl rfl (ks4.later _) (blk_slAt StubE.enc (fr := (0, 0)) (e := 34) (heap_alloc_new _ _) [newStub x] rfl) (by omega) (by unfold maxLen; omega) (by simp only [heap_drew, World.size_alloc]; omega) ?_
          intro A9 c9 w9 ho9 hm9 hst9
          have hst : Step w4 w9 (.slice sA4 d.length sC4) (.slice A9 ((d).length + 1) c9) := Step.trans (Step.of_below (below_of (b := w4))) hst9
          have hp9 := hst.keep ks4 hp4 (by decide)
          have BP9 := boxed hp9
          have hlk : ((d) ++ [newStub x]).length = (d).length + 1 := by simp
          refine hK9.out _ _ (by exact fun i => blk_cell (hst.boxed bx4 hnx4).1 i) (fun hHeld => ?_)
          clear hK9 K9
          (try simp only [Act.put])
          refine wpAnyH_take (i := 12) (oi := _) (v := ?_) rfl (by kernel_rfl) (by kernel_rfl) (by kernel_rfl) (fun _ _ _ h => h) (Or.inl ⟨by rfl, ?_⟩) (by assumption) ?_
          rotate_left 1
          · (intro wy hSw; (try dsimp only at hSw); go_simp; try with_reducible rfl)
          (try simp only [Act.put])
          refine wpAnyH_take (i := 13) (oi := _) (v := ?_) rfl (by kernel_rfl) (by kernel_rfl) (by kernel_rfl) (fun _ _ _ h => h) (Or.inl ⟨by rfl, ?_⟩) (by assumption) ?_
          rotate_left 1
          · (intro wy hSw; (try dsimp only at hSw); go_simp; try with_reducible rfl)
          (try simp only [Act.put])
          refine wpAnyH_ready (rs := [14]) (by kernel_rfl) (by simp) ?_
          refine AllReadyH.cons (o := _) rfl (fun K9 hK9 => ?_) AllReadyH.nil
          go_simp
          refine hK9.out _ _ (by exact fun i => blk_cell ((blk_far hpx.symm _).trans (hst.boxed bx4 hnx4).1) i) (fun hHeld => ?_)
          clear hK9 K9
          (try simp only [Act.put])
          refine wpAnyH_done (by kernel_rfl) ?_ _
          go_end0
          refine ⟨rfl, ?_, (hst.below ks4 hb4 hz4).setCell P.b _⟩
          rw [Hrec.out]
          refine ⟨_, _, _, _, _, ls, ⟨P.b, (blk_set hp9 0 _).trans rfl, ?_⟩⟩
          exact ((k4.stepS hst ho9).setp hp9 0 _).nums rfl rfl rfl rfl rfl
end Go.Proofs.Ythigjlllhnajbaa
