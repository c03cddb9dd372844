/-
  Contracts of the functions of this seat that each theorem names: what a call returns, and that it writes nothing that was there before. The conditions stand in each theorem.
-/
import Derived.Test.YthigjlllhnajbaaC25Step1
namespace Go.Proofs.Ythigjlllhnajbaa
open Go.RowKit
/-! An append onto a field of the pair, in a region that draws its order: W the world ahead, OWN the slice's Own in it, v the slice, X the element, bx the block that must stay, i4 i6 i7 i10 the operations (load, buildSlice, append, store). -/
theorem scb {base p b2 k n nC : Nat} {w : World} {l : List ScionE} {x : ScionE} {u u' : Value} (h : Own ScionE.cells 12 tSc base w (.slice (some ⟨b2, 0, none⟩) n nC) l) (hx : l[k]? = some x) (hu : w.cell? ⟨p, 3, none⟩ = some u) (hu' : w.cell? ⟨p, 5, none⟩ = some u') :
    w.cell? ⟨p, 3, none⟩ = some u ∧ w.cell? ⟨p, 5, none⟩ = some u' ∧ w.cell? ⟨b2, k * 12, none⟩ = some (.int .i64 x.client) ∧ w.cell? ⟨b2, k * 12 + 1, none⟩ = some (.int .u64 x.number) ∧ w.cell? ⟨b2, k * 12 + 2, none⟩ = some (.int .i64 x.iDMachine) ∧ w.cell? ⟨b2, k * 12 + 3, none⟩ = some (.int .i64 x.iDSerial) ∧ w.cell? ⟨b2, k * 12 + 4, none⟩ = some (.int .i64 x.out) ∧ w.cell? ⟨b2, k * 12 + 5, none⟩ = some (.int .i64 x.inn) ∧ w.cell? ⟨b2, k * 12 + 6, none⟩ = some (.int .i64 x.distance) ∧ w.cell? ⟨b2, k * 12 + 7, none⟩ = some (.bool x.touched) ∧ w.cell? ⟨b2, k * 12 + 8, none⟩ = some (.bool x.weak) ∧ w.cell? ⟨b2, k * 12 + 9, none⟩ = some (.bool x.garbage) ∧ w.cell? ⟨b2, k * 12 + 10, none⟩ = some (.int .i64 x.lockMachine) ∧ w.cell? ⟨b2, k * 12 + 11, none⟩ = some (.int .i64 x.lockSerial) :=
  ⟨hu, hu', h.cell ScionE.enc hx (j := 0) rfl, h.cell ScionE.enc hx (j := 1) rfl, h.cell ScionE.enc hx (j := 2) rfl, h.cell ScionE.enc hx (j := 3) rfl, h.cell ScionE.enc hx (j := 4) rfl, h.cell ScionE.enc hx (j := 5) rfl, h.cell ScionE.enc hx (j := 6) rfl, h.cell ScionE.enc hx (j := 7) rfl, h.cell ScionE.enc hx (j := 8) rfl, h.cell ScionE.enc hx (j := 9) rfl, h.cell ScionE.enc hx (j := 10) rfl, h.cell ScionE.enc hx (j := 11) rfl⟩
set_option maxRecDepth 100000 in
set_option maxHeartbeats 8000000 in
theorem step2_any {base p n : Nat} {sv nv cv ov lv : Value} {st : PairS} {ls : List LA} (w : World) (P : PairAt base p w sv nv cv ov lv st ls) (hb : base ≤ w.heap.size) (h1 : st.got ≤ st.toOwner.length) (hl : st.scions.length ≤ 1000) (hlo : st.toOwner.length ≤ 1000) :
    Calls Try.prog 23 #[.pointer (some ⟨p, 0, none⟩), .agg #[.int .u8 2, .int .u8 n]] w (PPost base p w st.take) := by
  obtain ⟨sA, sC, rfl, hsc, hsm, hsS⟩ := P.k.s.slAt StubE.enc
  obtain ⟨nA, nC, rfl, hnc, hnm, hnS⟩ := P.k.n.slAt ScionE.enc
  obtain ⟨cA, cC, rfl, hcc, hcm, hcS⟩ := P.k.c.slAt ScionE.enc
  obtain ⟨oA, oC, rfl, hoc, hom, hoS⟩ := P.k.o.slAt ScionE.enc
  obtain ⟨lA, lC, rfl, hlc, hlm, hlS⟩ := P.k.l.slAt LA.enc
  have BP := boxed P.h
  have hPl := blk_lt P.h
  have hPb := P.b
  obtain ⟨k, hk⟩ : ∃ k, k = st.got := ⟨_, rfl⟩
  rw [← hk] at h1
  have e4 := natC k (by omega)
  go_enter Try.func23, Try.ntmps23
  go_upto_region 1 with fail
  refine wp_name ?_
  intro w1 hw1
  obtain ⟨B1, l1⟩ := box1 hw1
  have hb1 : Below w.heap.size w w1 := below_of
  clear hw1
  have P1 := P.below hb1
  have hp1 : w1.heap[p]? = some (.cells #[.slice sA st.stubs.length sC, .slice nA st.scions.length nC, .slice cA st.toClient.length cC, .slice oA st.toOwner.length oC, .int .i64 st.sent, .int .i64 k, .int .i64 st.out, .int .i64 st.inn, .int .i64 st.round, .int .i64 st.applied, .int .u64 st.next, .slice lA ls.length lC] tPa (0, 0)) := by rw [hk]; exact P1.h
  have k1 := P1.k
  have hb01 := hb1.mono hb
  have hz1 : base ≤ w1.heap.size := Nat.le_trans hb hb1.size
  have kn1 := k1.n
  clear BP
  have BP1 := boxed hp1
  have l11 : Later w1 w1 := Later.refl
  by_cases hlt : k < st.toOwner.length
  · obtain ⟨x, hx⟩ : ∃ x, st.toOwner[k]? = some x := ⟨_, List.getElem?_eq_getElem hlt⟩
    have Hx := hide hx
    have Htk := hide (show st.take = { st with scions := st.scions ++ [x], got := k + 1 } by unfold PairS.take; rw [← hk, hx])
    obtain ⟨b2, hb2⟩ := k1.o.isSome (by intro e; rw [e] at hlt; simp at hlt)
    subst hb2
    have hki : (k : Int) < (st.toOwner.length : Int) := by omega
    have hk0 : (0 : Int) ≤ (k : Int) := by omega
    have hne : (Value.slice (some ⟨b2, 0, none⟩) st.toOwner.length oC).ownBlock ≠ some p := own_off k1.o hp1 (by decide)
    clear hk hx
    go_upto_region 7 with fail
    (refine wp_region_after (by kernel_rfl) (by kernel_rfl) ?_
     repeat (any_goals (first | go_big_quiet_skip | (go_big_quiet_want; go_big_quiet_op; first | go_big_quiet_on | go_big_quiet_call (fail)) | quiet_step (fail) | (refine wpQuiet_step (fun K hK => ?_); go_simp; split <;> (refine hK _ ?_; clear hK K))))
     all_goals (refine wpQuiet_nil ?_; intro _ hw'; obtain ⟨u', hw''⟩ := hw'; subst hw''; obtain ⟨wd, hbd⟩ := u'; simp only [After.val_mk]))
    have ld := later hbd
    go_upto_region 8 with fail
    have hzd : base ≤ wd.heap.size := Nat.le_trans hz1 (show Below w1.heap.size w1 wd from below_of).size
    refine wp_region_held_drew (S := fun w' => (w'.cell? ⟨p, 3, none⟩ = some (.slice (some ⟨b2, 0, none⟩) st.toOwner.length oC) ∧ w'.cell? ⟨p, 5, none⟩ = some (.int .i64 k) ∧ w'.cell? ⟨b2, k * 12, none⟩ = some (.int .i64 x.client) ∧ w'.cell? ⟨b2, k * 12 + 1, none⟩ = some (.int .u64 x.number) ∧ w'.cell? ⟨b2, k * 12 + 2, none⟩ = some (.int .i64 x.iDMachine) ∧ w'.cell? ⟨b2, k * 12 + 3, none⟩ = some (.int .i64 x.iDSerial) ∧ w'.cell? ⟨b2, k * 12 + 4, none⟩ = some (.int .i64 x.out) ∧ w'.cell? ⟨b2, k * 12 + 5, none⟩ = some (.int .i64 x.inn) ∧ w'.cell? ⟨b2, k * 12 + 6, none⟩ = some (.int .i64 x.distance) ∧ w'.cell? ⟨b2, k * 12 + 7, none⟩ = some (.bool x.touched) ∧ w'.cell? ⟨b2, k * 12 + 8, none⟩ = some (.bool x.weak) ∧ w'.cell? ⟨b2, k * 12 + 9, none⟩ = some (.bool x.garbage) ∧ w'.cell? ⟨b2, k * 12 + 10, none⟩ = some (.int .i64 x.lockMachine) ∧ w'.cell? ⟨b2, k * 12 + 11, none⟩ = some (.int .i64 x.lockSerial))) (by kernel_rfl) (scb (k1.o.later wd) Hx.out ((BP1 wd).2 3).1 ((BP1 wd).2 5).1) (fun hHeld => ?_)
    refine wpAnyH_take (i := 0) (oi := _) (v := ?_) rfl (by kernel_rfl) (by kernel_rfl) (by kernel_rfl) (fun _ _ _ h => h) (Or.inl ⟨by rfl, ?_⟩) (by assumption) ?_
    rotate_left 1
    · (intro wy hSw; (try dsimp only at hSw); go_simp; try with_reducible rfl)
    (try simp only [Act.put])
    refine wpAnyH_take (i := 1) (oi := _) (v := ?_) rfl (by kernel_rfl) (by kernel_rfl) (by kernel_rfl) (fun _ _ _ h => h) (Or.inl ⟨by rfl, ?_⟩) (by assumption) ?_
    rotate_left 1
    · (intro wy hSw; (try dsimp only at hSw); go_simp; try with_reducible rfl)
    (try simp only [Act.put])
    refine wpAnyH_take (i := 2) (oi := _) (v := ?_) rfl (by kernel_rfl) (by kernel_rfl) (by kernel_rfl) (fun _ _ _ h => h) (Or.inl ⟨by rfl, ?_⟩) (by assumption) ?_
    rotate_left 1
    · (intro wy hSw; (try dsimp only at hSw); go_simp; try with_reducible rfl)
    (try simp only [Act.put])
    refine wpAnyH_take (i := 3) (oi := _) (v := ?_) rfl (by kernel_rfl) (by kernel_rfl) (by kernel_rfl) (fun _ _ _ h => h) (Or.inl ⟨by rfl, ?_⟩) (by assumption) ?_
    rotate_left 1
    · (intro wy hSw; (try dsimp only at hSw); go_simp; try with_reducible rfl)
    (try simp only [Act.put])
    refine wpAnyH_take (i := 5) (oi := _) (v := ?_) rfl (by kernel_rfl) (by kernel_rfl) (by kernel_rfl) (fun _ _ _ h => h) (Or.inl ⟨by rfl, ?_⟩) (by assumption) ?_
    rotate_left 1
    · (intro wy hSw; (try dsimp only at hSw); go_simp; try with_reducible rfl)
    (try simp only [Act.put])
    refine wpAnyH_take (i := 6) (oi := _) (v := ?_) rfl (by kernel_rfl) (by kernel_rfl) (by kernel_rfl) (fun _ _ _ h => h) (Or.inl ⟨by rfl, ?_⟩) (by assumption) ?_
    rotate_left 1
    · (intro wy hSw; (try dsimp only at hSw); go_simp; try with_reducible rfl)
    (try simp only [Act.put])
    refine wpAnyH_take (i := 7) (oi := _) (v := ?_) rfl (by kernel_rfl) (by kernel_rfl) (by kernel_rfl) (fun _ _ _ h => h) (Or.inl ⟨by rfl, ?_⟩) (by assumption) ?_
    rotate_left 1
    · (intro wy hSw; (try dsimp only at hSw); go_simp; try with_reducible rfl)
    (try simp only [Act.put])
    refine wpAnyH_take (i := 8) (oi := _) (v := ?_) rfl (by kernel_rfl) (by kernel_rfl) (by kernel_rfl) (fun _ _ _ h => h) (Or.inl ⟨by rfl, ?_⟩) (by assumption) ?_
    rotate_left 1
    · (intro wy hSw; (try dsimp only at hSw); go_simp; try with_reducible rfl)
    (try simp only [Act.put])
    refine wpAnyH_take (i := 9) (oi := _) (v := ?_) rfl (by kernel_rfl) (by kernel_rfl) (by kernel_rfl) (fun _ _ _ h => h) (Or.inl ⟨by rfl, ?_⟩) (by assumption) ?_
    rotate_left 1
    · (intro wy hSw; (try dsimp only at hSw); go_simp; try with_reducible rfl)
    (try simp only [Act.put])
    refine wpAnyH_take (i := 10) (oi := _) (v := ?_) rfl (by kernel_rfl) (by kernel_rfl) (by kernel_rfl) (fun _ _ _ h => h) (Or.inl ⟨by rfl, ?_⟩) (by assumption) ?_
    rotate_left 1
    · (intro wy hSw; (try dsimp only at hSw); go_simp; try with_reducible rfl)
    (try simp only [Act.put])
    refine wpAnyH_take (i := 11) (oi := _) (v := ?_) rfl (by kernel_rfl) (by kernel_rfl) (by kernel_rfl) (fun _ _ _ h => h) (Or.inl ⟨by rfl, ?_⟩) (by assumption) ?_
    rotate_left 1
    · (intro wy hSw; (try dsimp only at hSw); go_simp; try with_reducible rfl)
    (try simp only [Act.put])
    refine wpAnyH_take (i := 12) (oi := _) (v := ?_) rfl (by kernel_rfl) (by kernel_rfl) (by kernel_rfl) (fun _ _ _ h => h) (Or.inl ⟨by rfl, ?_⟩) (by assumption) ?_
    rotate_left 1
    · (intro wy hSw; (try dsimp only at hSw); go_simp; try with_reducible rfl)
    (try simp only [Act.put])
    refine wpAnyH_take (i := 13) (oi := _) (v := ?_) rfl (by kernel_rfl) (by kernel_rfl) (by kernel_rfl) (fun _ _ _ h => h) (Or.inl ⟨by rfl, ?_⟩) (by assumption) ?_
    rotate_left 1
    · (intro wy hSw; (try dsimp only at hSw); go_simp; try with_reducible rfl)
    (try simp only [Act.put])
    refine wpAnyH_take (i := 14) (oi := _) (v := ?_) rfl (by kernel_rfl) (by kernel_rfl) (by kernel_rfl) (fun _ _ _ h => h) (Or.inl ⟨by rfl, ?_⟩) (by assumption) ?_
    rotate_left 1
    · (intro wy hSw; (try dsimp only at hSw); go_simp; try with_reducible rfl)
    (try simp only [Act.put])
    refine wpAnyH_ready (rs := [4, 15]) (by kernel_rfl) (by simp) ?_
    refine AllReadyH.cons (o := _) rfl (fun K9 hK9 => ?_) (AllReadyH.cons (o := _) rfl (fun K9 hK9 => ?_) AllReadyH.nil)
    · go_simp
      refine hK9.out _ _ (by exact scb (k1.o.later _) Hx.out ((BP1 _).2 3).1 ((BP1 _).2 5).1) (fun hHeld => ?_)
      clear hK9 K9
      (try simp only [Act.put])
      refine wpAnyH_ready (rs := [15]) (by kernel_rfl) (by simp) ?_
      refine AllReadyH.cons (o := _) rfl (fun K9 hK9 => ?_) AllReadyH.nil
      go_simp
      refine hK9.out _ _ (by exact scb (k1.o.later _) Hx.out ((BP1 _).2 3).1 ((BP1 _).2 5).1) (fun hHeld => ?_)
      clear hK9 K9
      (try simp only [Act.put])
      refine wpAnyH_ready (rs := [16]) (by kernel_rfl) (by simp) ?_
      refine AllReadyH.cons (o := _) rfl (fun K9 hK9 => ?_) AllReadyH.nil
      refine step_app2 (P := Try.prog) rfl (.tmp 34) (.tmp 45) (by rfl) ScionE.enc scionT _ _ [x] st.scions (.slice nA st.scions.length nC) (by rfl) (by rfl) (m := 1) (n := (st.scions).length + 1) rfl rfl (kn1.later _) (blk_slAt ScionE.enc (fr := (0, 0)) (e := 43) (heap_alloc_new _ _) [x] rfl) (by omega) (by unfold maxLen; omega) (by simp only [heap_drew, World.size_alloc]; omega) ?_
      intro A9 c9 w9 ho9 hm9 hst9
      have hst : Step w1 w9 (.slice nA st.scions.length nC) (.slice A9 ((st.scions).length + 1) c9) := Step.trans (Step.of_below (below_of (b := w1))) hst9
      have hp9 := hst.keep kn1 hp1 (by decide)
      have BP9 := boxed hp9
      have hlk : ((st.scions) ++ [x]).length = (st.scions).length + 1 := by simp
      refine hK9.out _ _ (by exact scb (hst.own k1.o k1.no).1 Hx.out ((blk_cell hp9 3).trans rfl) ((blk_cell hp9 5).trans rfl)) (fun hHeld => ?_)
      clear hK9 K9
      (try simp only [Act.put])
      refine wpAnyH_take (i := 17) (oi := _) (v := ?_) rfl (by kernel_rfl) (by kernel_rfl) (by kernel_rfl) (fun _ _ _ h => h) (Or.inl ⟨by rfl, ?_⟩) (by assumption) ?_
      rotate_left 1
      · (intro wy hSw; (try dsimp only at hSw); go_simp; try with_reducible rfl)
      (try simp only [Act.put])
      refine wpAnyH_take (i := 18) (oi := _) (v := ?_) rfl (by kernel_rfl) (by kernel_rfl) (by kernel_rfl) (fun _ _ _ h => h) (Or.inl ⟨by rfl, ?_⟩) (by assumption) ?_
      rotate_left 1
      · (intro wy hSw; (try dsimp only at hSw); go_simp; try with_reducible rfl)
      (try simp only [Act.put])
      refine wpAnyH_ready (rs := [19]) (by kernel_rfl) (by simp) ?_
      refine AllReadyH.cons (o := _) rfl (fun K9 hK9 => ?_) AllReadyH.nil
      go_simp
      refine hK9.out _ _ (by exact scb ((hst.own k1.o k1.no).1.far (p := ⟨p, 1, none⟩) hne _) Hx.out ((blk_cell (blk_set hp9 1 _) 3).trans rfl) ((blk_cell (blk_set hp9 1 _) 5).trans rfl)) (fun hHeld => ?_)
      clear hK9 K9
      (try simp only [Act.put])
      refine wpAnyH_done (by kernel_rfl) ?_ _
      go_upto_region 9 with fail
      refine wp_name ?_
      intro w4 hw4
      have hp4 : w4.heap[p]? = some (.cells #[.slice sA st.stubs.length sC, .slice A9 (st.scions.length + 1) c9, .slice cA st.toClient.length cC, .slice (some ⟨b2, 0, none⟩) st.toOwner.length oC, .int .i64 st.sent, .int .i64 k, .int .i64 st.out, .int .i64 st.inn, .int .i64 st.round, .int .i64 st.applied, .int .u64 st.next, .slice lA ls.length lC] tPa (0, 0)) := by rw [← hw4]; exact (blk_set hp9 1 _).trans rfl
      have k4 := (k1.stepN hst ho9).setp hp9 1 (.slice A9 (st.scions.length + 1) c9)
      have hb4 := (hst.below kn1 hb01 hz1).setCell (p := ⟨p, 1, none⟩) P.b (.slice A9 (st.scions.length + 1) c9)
      rw [hw4] at k4 hb4
      clear hw4 BP1 BP9 hp9 ho9 hst hst9 hm9
      have BP4 := boxed hp4
      have l44 : Later w4 w4 := Later.refl
      go_wp2_with fail
      go_end0
      refine ⟨rfl, ?_, hb4.setCell P.b _⟩
      rw [Htk.out]
      refine ⟨_, _, _, _, _, ls, ⟨P.b, (blk_set hp4 5 _).trans rfl, ?_⟩⟩
      exact (k4.setp hp4 5 _).nums rfl rfl rfl rfl rfl
    · go_simp
      refine hK9.out _ _ (by exact scb (k1.o.later _) Hx.out ((BP1 _).2 3).1 ((BP1 _).2 5).1) (fun hHeld => ?_)
      clear hK9 K9
      (try simp only [Act.put])
      refine wpAnyH_ready (rs := [4]) (by kernel_rfl) (by simp) ?_
      refine AllReadyH.cons (o := _) rfl (fun K9 hK9 => ?_) AllReadyH.nil
      go_simp
      refine hK9.out _ _ (by exact scb (k1.o.later _) Hx.out ((BP1 _).2 3).1 ((BP1 _).2 5).1) (fun hHeld => ?_)
      clear hK9 K9
      (try simp only [Act.put])
      refine wpAnyH_ready (rs := [16]) (by kernel_rfl) (by simp) ?_
      refine AllReadyH.cons (o := _) rfl (fun K9 hK9 => ?_) AllReadyH.nil
      refine step_app2 (P := Try.prog) rfl (.tmp 34) (.tmp 45) (by rfl) ScionE.enc scionT _ _ [x] st.scions (.slice nA st.scions.length nC) (by rfl) (by rfl) (m := 1) (n := (st.scions).length + 1) rfl rfl (kn1.later _) (blk_slAt ScionE.enc (fr := (0, 0)) (e := 43) (heap_alloc_new _ _) [x] rfl) (by omega) (by unfold maxLen; omega) (by simp only [heap_drew, World.size_alloc]; omega) ?_
      intro A9 c9 w9 ho9 hm9 hst9
      have hst : Step w1 w9 (.slice nA st.scions.length nC) (.slice A9 ((st.scions).length + 1) c9) := Step.trans (Step.of_below (below_of (b := w1))) hst9
      have hp9 := hst.keep kn1 hp1 (by decide)
      have BP9 := boxed hp9
      have hlk : ((st.scions) ++ [x]).length = (st.scions).length + 1 := by simp
      refine hK9.out _ _ (by exact scb (hst.own k1.o k1.no).1 Hx.out ((blk_cell hp9 3).trans rfl) ((blk_cell hp9 5).trans rfl)) (fun hHeld => ?_)
      clear hK9 K9
      (try simp only [Act.put])
      refine wpAnyH_take (i := 17) (oi := _) (v := ?_) rfl (by kernel_rfl) (by kernel_rfl) (by kernel_rfl) (fun _ _ _ h => h) (Or.inl ⟨by rfl, ?_⟩) (by assumption) ?_
      rotate_left 1
      · (intro wy hSw; (try dsimp only at hSw); go_simp; try with_reducible rfl)
      (try simp only [Act.put])
      refine wpAnyH_take (i := 18) (oi := _) (v := ?_) rfl (by kernel_rfl) (by kernel_rfl) (by kernel_rfl) (fun _ _ _ h => h) (Or.inl ⟨by rfl, ?_⟩) (by assumption) ?_
      rotate_left 1
      · (intro wy hSw; (try dsimp only at hSw); go_simp; try with_reducible rfl)
      (try simp only [Act.put])
      refine wpAnyH_ready (rs := [19]) (by kernel_rfl) (by simp) ?_
      refine AllReadyH.cons (o := _) rfl (fun K9 hK9 => ?_) AllReadyH.nil
      go_simp
      refine hK9.out _ _ (by exact scb ((hst.own k1.o k1.no).1.far (p := ⟨p, 1, none⟩) hne _) Hx.out ((blk_cell (blk_set hp9 1 _) 3).trans rfl) ((blk_cell (blk_set hp9 1 _) 5).trans rfl)) (fun hHeld => ?_)
      clear hK9 K9
      (try simp only [Act.put])
      refine wpAnyH_done (by kernel_rfl) ?_ _
      go_upto_region 9 with fail
      refine wp_name ?_
      intro w4 hw4
      have hp4 : w4.heap[p]? = some (.cells #[.slice sA st.stubs.length sC, .slice A9 (st.scions.length + 1) c9, .slice cA st.toClient.length cC, .slice (some ⟨b2, 0, none⟩) st.toOwner.length oC, .int .i64 st.sent, .int .i64 k, .int .i64 st.out, .int .i64 st.inn, .int .i64 st.round, .int .i64 st.applied, .int .u64 st.next, .slice lA ls.length lC] tPa (0, 0)) := by rw [← hw4]; exact (blk_set hp9 1 _).trans rfl
      have k4 := (k1.stepN hst ho9).setp hp9 1 (.slice A9 (st.scions.length + 1) c9)
      have hb4 := (hst.below kn1 hb01 hz1).setCell (p := ⟨p, 1, none⟩) P.b (.slice A9 (st.scions.length + 1) c9)
      rw [hw4] at k4 hb4
      clear hw4 BP1 BP9 hp9 ho9 hst hst9 hm9
      have BP4 := boxed hp4
      have l44 : Later w4 w4 := Later.refl
      go_wp2_with fail
      go_end0
      refine ⟨rfl, ?_, hb4.setCell P.b _⟩
      rw [Htk.out]
      refine ⟨_, _, _, _, _, ls, ⟨P.b, (blk_set hp4 5 _).trans rfl, ?_⟩⟩
      exact (k4.setp hp4 5 _).nums rfl rfl rfl rfl rfl
  · have hke : k = st.toOwner.length := by omega
    have Htk := hide (show st.take = st by unfold PairS.take; rw [List.getElem?_eq_none (by omega)])
    go_upto_region 7 with fail
    (refine wp_region_after (by kernel_rfl) (by kernel_rfl) ?_
     repeat (any_goals (first | go_big_quiet_skip | (go_big_quiet_want; go_big_quiet_op; first | go_big_quiet_on | go_big_quiet_call (fail)) | quiet_step (fail) | (refine wpQuiet_step (fun K hK => ?_); go_simp; split <;> (refine hK _ ?_; clear hK K))))
     all_goals (refine wpQuiet_nil ?_; intro _ hw'; obtain ⟨u', hw''⟩ := hw'; subst hw''; obtain ⟨wd, hbd⟩ := u'; simp only [After.val_mk]))
    have ld := later hbd
    go_wp2_with fail
    go_end0
    rw [Htk.out]
    exact ⟨rfl, ⟨_, _, _, _, _, ls, P1.later _⟩, (below_of (b := w)).mono hb⟩
end Go.Proofs.Ythigjlllhnajbaa
