/-
  Contracts of the functions of this seat that each theorem names: what a call returns, and that it writes nothing that was there before. The conditions stand in each theorem.
-/
import Derived.Test.YthigjlllhnajbaaC25Step5
import Derived.Test.YthigjlllhnajbaaC25LawBuilds
namespace Go.Proofs.Ythigjlllhnajbaa
open Go.RowKit
theorem listT : ElemT Try.prog 48 26 4 48 := ElemT.mk' (z := .agg #[.int .i64 0, .int .i64 0, .int .i64 0, .slice none 0 0]) Try.underlying48 (by kernel_rfl) rfl
/-! An append onto a field of the pair, in a region that draws its order: W the world ahead, OWN the slice's Own in it, v the slice, X the element, bx the block that must stay, i4 i6 i7 i10 the operations (load, buildSlice, append, store). -/
set_option maxRecDepth 100000 in
set_option maxHeartbeats 8000000 in
theorem step6_any {base p n : Nat} {sv nv cv ov lv : Value} {st : PairS} {ls : List LA} (w : World) (P : PairAt base p w sv nv cv ov lv st ls) (hb : base ≤ w.heap.size) (hr : st.round ≤ 1000) (hl : st.stubs.length ≤ 1000) (hll : ls.length ≤ 1000) :
    Calls Try.prog 23 #[.pointer (some ⟨p, 0, none⟩), .agg #[.int .u8 6, .int .u8 n]] w (PPost base p w st.list) := by
  obtain ⟨sA, sC, rfl, hsc, hsm, hsS⟩ := P.k.s.slAt StubE.enc
  obtain ⟨nA, nC, rfl, hnc, hnm, hnS⟩ := P.k.n.slAt ScionE.enc
  obtain ⟨cA, cC, rfl, hcc, hcm, hcS⟩ := P.k.c.slAt ScionE.enc
  obtain ⟨oA, oC, rfl, hoc, hom, hoS⟩ := P.k.o.slAt ScionE.enc
  obtain ⟨lA, lC, rfl, hlc, hlm, hlS⟩ := P.k.l.slAt LA.enc
  have BP := boxed P.h
  have hPl := blk_lt P.h
  have hPb := P.b
  have e4 := natC st.round (by omega)
  go_enter Try.func23, Try.ntmps23
  go_upto_region 1 with fail
  refine wp_name ?_
  intro w1 hw1
  obtain ⟨B1, l1⟩ := box1 hw1
  have hb1 : Below w.heap.size w w1 := below_of
  clear hw1
  have P1 := P.below hb1
  go_upto_region 20 with fail
  refine wp_name ?_
  intro w2 hw2
  have hp2 : w2.heap[p]? = some (.cells #[.slice sA st.stubs.length sC, .slice nA st.scions.length nC, .slice cA st.toClient.length cC, .slice oA st.toOwner.length oC, .int .i64 st.sent, .int .i64 st.got, .int .i64 st.out, .int .i64 st.inn, .int .i64 ((st.round + 1 : Nat) : Int), .int .i64 st.applied, .int .u64 st.next, .slice lA ls.length lC] tPa (0, 0)) := by rw [← hw2]; exact (blk_set P1.h 8 _).trans rfl
  have k2 : Slices base w2 (.slice sA st.stubs.length sC) (.slice nA st.scions.length nC) (.slice cA st.toClient.length cC) (.slice oA st.toOwner.length oC) (.slice lA ls.length lC) st ls := by rw [← hw2]; exact P1.k.setp P1.h 8 _
  have hb2 : Below base w w2 := by rw [← hw2]; exact (hb1.mono hb).setCell P.b _
  have hz2 : base ≤ w2.heap.size := Nat.le_trans hb hb2.size
  clear hw2 BP B1
  have BP2 := boxed hp2
  have l22 : Later w2 w2 := Later.refl
  have hS2 : SlAt StubE.cells 12 w2 sA st.stubs := (k2.s.at_ StubE.enc).2.2
  have HS : ∀ u [Later w2 u], SlAt StubE.cells 12 u sA st.stubs := fun u i => hS2.below i.below
  refine wp_region_held_drew (S := fun w' => (w'.cell? ⟨p, 0, none⟩ = some (.slice sA st.stubs.length sC) ∧ w'.cell? ⟨p, 4, none⟩ = some (.int .i64 st.sent) ∧ w'.cell? ⟨p, 7, none⟩ = some (.int .i64 st.inn) ∧ w'.cell? ⟨p, 8, none⟩ = some (.int .i64 ((st.round + 1 : Nat) : Int)))) (by kernel_rfl) ⟨((BP2 _).2 0).1, ((BP2 _).2 4).1, ((BP2 _).2 7).1, ((BP2 _).2 8).1⟩ (fun hHeld => ?_)
  refine wpAnyH_take (i := 0) (oi := _) (v := ?_) rfl (by kernel_rfl) (by kernel_rfl) (by kernel_rfl) (fun _ _ _ h => h) (Or.inl ⟨by rfl, ?_⟩) (by assumption) ?_
  rotate_left 1
  · (intro wy hSw; (try dsimp only at hSw); go_simp; try with_reducible rfl)
  (try simp only [Act.put])
  refine wpAnyH_take (i := 1) (oi := _) (v := ?_) rfl (by kernel_rfl) (by kernel_rfl) (by kernel_rfl) (fun _ _ _ h => h) (Or.inl ⟨by rfl, ?_⟩) (by assumption) ?_
  rotate_left 1
  · (intro wy hSw; (try dsimp only at hSw); go_simp; try with_reducible rfl)
  (try simp only [Act.put])
  refine wpAnyH_take (i := 2) (oi := _) (v := ?_) rfl (by kernel_rfl) (by kernel_rfl) (by kernel_rfl) (fun _ _ _ h => h) (Or.inl ⟨by rfl, ?_⟩) (by assumption) ?_
  rotate_left 1
  · (intro wy hSw; (try dsimp only at hSw); go_simp; try with_reducible rfl)
  (try simp only [Act.put])
  refine wpAnyH_take (i := 3) (oi := _) (v := ?_) rfl (by kernel_rfl) (by kernel_rfl) (by kernel_rfl) (fun _ _ _ h => h) (Or.inl ⟨by rfl, ?_⟩) (by assumption) ?_
  rotate_left 1
  · (intro wy hSw; (try dsimp only at hSw); go_simp; try with_reducible rfl)
  (try simp only [Act.put])
  refine wpAnyH_take (i := 5) (oi := _) (v := ?_) rfl (by kernel_rfl) (by kernel_rfl) (by kernel_rfl) (fun _ _ _ h => h) (Or.inl ⟨by rfl, ?_⟩) (by assumption) ?_
  rotate_left 1
  · (intro wy hSw; (try dsimp only at hSw); go_simp; try with_reducible rfl)
  (try simp only [Act.put])
  refine wpAnyH_take (i := 6) (oi := _) (v := ?_) rfl (by kernel_rfl) (by kernel_rfl) (by kernel_rfl) (fun _ _ _ h => h) (Or.inl ⟨by rfl, ?_⟩) (by assumption) ?_
  rotate_left 1
  · (intro wy hSw; (try dsimp only at hSw); go_simp; try with_reducible rfl)
  (try simp only [Act.put])
  refine wpAnyH_take (i := 7) (oi := _) (v := ?_) rfl (by kernel_rfl) (by kernel_rfl) (by kernel_rfl) (fun _ _ _ h => h) (Or.inl ⟨by rfl, ?_⟩) (by assumption) ?_
  rotate_left 1
  · (intro wy hSw; (try dsimp only at hSw); go_simp; try with_reducible rfl)
  (try simp only [Act.put])
  refine wpAnyH_take (i := 8) (oi := _) (v := ?_) rfl (by kernel_rfl) (by kernel_rfl) (by kernel_rfl) (fun _ _ _ h => h) (Or.inl ⟨by rfl, ?_⟩) (by assumption) ?_
  rotate_left 1
  · (intro wy hSw; (try dsimp only at hSw); go_simp; try with_reducible rfl)
  (try simp only [Act.put])
  refine wpAnyH_take (i := 9) (oi := _) (v := ?_) rfl (by kernel_rfl) (by kernel_rfl) (by kernel_rfl) (fun _ _ _ h => h) (Or.inl ⟨by rfl, ?_⟩) (by assumption) ?_
  rotate_left 1
  · (intro wy hSw; (try dsimp only at hSw); go_simp; try with_reducible rfl)
  (try simp only [Act.put])
  refine wpAnyH_take (i := 10) (oi := _) (v := ?_) rfl (by kernel_rfl) (by kernel_rfl) (by kernel_rfl) (fun _ _ _ h => h) (Or.inl ⟨by rfl, ?_⟩) (by assumption) ?_
  rotate_left 1
  · (intro wy hSw; (try dsimp only at hSw); go_simp; try with_reducible rfl)
  (try simp only [Act.put])
  refine wpAnyH_take (i := 11) (oi := _) (v := ?_) rfl (by kernel_rfl) (by kernel_rfl) (by kernel_rfl) (fun _ _ _ h => h) (Or.inl ⟨by rfl, ?_⟩) (by assumption) ?_
  rotate_left 1
  · (intro wy hSw; (try dsimp only at hSw); go_simp; try with_reducible rfl)
  (try simp only [Act.put])
  refine wpAnyH_take (i := 12) (oi := _) (v := ?_) rfl (by kernel_rfl) (by kernel_rfl) (by kernel_rfl) (fun _ _ _ h => h) (Or.inl ⟨by rfl, ?_⟩) (by assumption) ?_
  rotate_left 1
  · (intro wy hSw; (try dsimp only at hSw); go_simp; try with_reducible rfl)
  (try simp only [Act.put])
  refine wpAnyH_take (i := 13) (oi := _) (v := ?_) rfl (by kernel_rfl) (by kernel_rfl) (by kernel_rfl) (fun _ _ _ h => h) (Or.inl ⟨by rfl, ?_⟩) (by assumption) ?_
  rotate_left 1
  · (intro wy hSw; (try dsimp only at hSw); go_simp; try with_reducible rfl)
  (try simp only [Act.put])
  refine wpAnyH_take (i := 14) (oi := _) (v := ?_) rfl (by kernel_rfl) (by kernel_rfl) (by kernel_rfl) (fun _ _ _ h => h) (Or.inl ⟨by rfl, ?_⟩) (by assumption) ?_
  rotate_left 1
  · (intro wy hSw; (try dsimp only at hSw); go_simp; try with_reducible rfl)
  (try simp only [Act.put])
  refine wpAnyH_take (i := 15) (oi := _) (v := ?_) rfl (by kernel_rfl) (by kernel_rfl) (by kernel_rfl) (fun _ _ _ h => h) (Or.inl ⟨by rfl, ?_⟩) (by assumption) ?_
  rotate_left 1
  · (intro wy hSw; (try dsimp only at hSw); go_simp; try with_reducible rfl)
  (try simp only [Act.put])
  refine wpAnyH_take (i := 16) (oi := _) (v := ?_) rfl (by kernel_rfl) (by kernel_rfl) (by kernel_rfl) (fun _ _ _ h => h) (Or.inl ⟨by rfl, ?_⟩) (by assumption) ?_
  rotate_left 1
  · (intro wy hSw; (try dsimp only at hSw); go_simp; try with_reducible rfl)
  (try simp only [Act.put])
  refine wpAnyH_take (i := 17) (oi := _) (v := ?_) rfl (by kernel_rfl) (by kernel_rfl) (by kernel_rfl) (fun _ _ _ h => h) (Or.inl ⟨by rfl, ?_⟩) (by assumption) ?_
  rotate_left 1
  · (intro wy hSw; (try dsimp only at hSw); go_simp; try with_reducible rfl)
  (try simp only [Act.put])
  refine wpAnyH_take (i := 18) (oi := _) (v := ?_) rfl (by kernel_rfl) (by kernel_rfl) (by kernel_rfl) (fun _ _ _ h => h) (Or.inl ⟨by rfl, ?_⟩) (by assumption) ?_
  rotate_left 1
  · (intro wy hSw; (try dsimp only at hSw); go_simp; try with_reducible rfl)
  (try simp only [Act.put])
  refine wpAnyH_take (i := 19) (oi := _) (v := ?_) rfl (by kernel_rfl) (by kernel_rfl) (by kernel_rfl) (fun _ _ _ h => h) (Or.inl ⟨by rfl, ?_⟩) (by assumption) ?_
  rotate_left 1
  · (intro wy hSw; (try dsimp only at hSw); go_simp; try with_reducible rfl)
  (try simp only [Act.put])
  refine wpAnyH_take (i := 20) (oi := _) (v := ?_) rfl (by kernel_rfl) (by kernel_rfl) (by kernel_rfl) (fun _ _ _ h => h) (Or.inl ⟨by rfl, ?_⟩) (by assumption) ?_
  rotate_left 1
  · (intro wy hSw; (try dsimp only at hSw); go_simp; try with_reducible rfl)
  (try simp only [Act.put])
  refine wpAnyH_ready (rs := [4, 21]) (by kernel_rfl) (by simp) ?_
  refine AllReadyH.cons (o := _) rfl (fun K9 hK9 => ?_) (AllReadyH.cons (o := _) rfl (fun K9 hK9 => ?_) AllReadyH.nil)
  · go_simp
    refine hK9.out _ _ (by exact ⟨((BP2 _).2 0).1, ((BP2 _).2 4).1, ((BP2 _).2 7).1, ((BP2 _).2 8).1⟩) (fun hHeld => ?_)
    clear hK9 K9
    (try simp only [Act.put])
    refine wpAnyH_ready (rs := [21]) (by kernel_rfl) (by simp) ?_
    refine AllReadyH.cons (o := _) rfl (fun K9 hK9 => ?_) AllReadyH.nil
    go_simp
    refine (build_q sA sC st.stubs 2 ((st.round + 1 : Nat) : Int) st.sent st.inn _ (HS _) (by omega)).mono ?_
    rintro r w4 ⟨q, A, c, hq, rfl, ho, hb4⟩
    have l4 := later hb4
    have hz4 : base ≤ w4.heap.size := Nat.le_trans hz2 (show Below w2.heap.size w2 w4 from below_of).size
    have hb24 : Below w2.heap.size w2 w4 := below_of
    have k4 := k2.below hb24
    have hp4 := (hb24.block _ (blk_lt hp2)).trans hp2
    have l44 : Later w4 w4 := Later.refl
    have kl4 := k4.l
    refine hK9.out _ _ (by exact ⟨((BP2 _).2 0).1, ((BP2 _).2 4).1, ((BP2 _).2 7).1, ((BP2 _).2 8).1⟩) (fun hHeld => ?_)
    clear hK9 K9
    (try simp only [Act.put])
    refine wpAnyH_ready (rs := [22]) (by kernel_rfl) (by simp) ?_
    refine AllReadyH.cons (o := _) rfl (fun K9 hK9 => ?_) AllReadyH.nil
    go_simp
    refine hK9.out _ _ (by exact ⟨((BP2 _).2 0).1, ((BP2 _).2 4).1, ((BP2 _).2 7).1, ((BP2 _).2 8).1⟩) (fun hHeld => ?_)
    clear hK9 K9
    (try simp only [Act.put])
    refine wpAnyH_ready (rs := [23]) (by kernel_rfl) (by simp) ?_
    refine AllReadyH.cons (o := _) rfl (fun K9 hK9 => ?_) AllReadyH.nil
    refine step_app2 (P := Try.prog) rfl (.tmp 122) (.tmp 140) (by rfl) LA.enc listT _ _ [(LA.mk ⟨st.round + 1, st.sent, st.inn, q⟩ A c)] ls (.slice lA ls.length lC) (by rfl) (by rfl) (m := 1) (n := (ls).length + 1) rfl rfl (kl4.later _) (blk_slAt LA.enc (fr := (0, 0)) (e := 26) (heap_alloc_new _ _) [(LA.mk ⟨st.round + 1, st.sent, st.inn, q⟩ A c)] rfl) (by omega) (by unfold maxLen; omega) (by simp only [heap_drew, World.size_alloc]; omega) ?_
    intro A9 c9 w9 ho9 hm9 hst9
    have hst : Step w4 w9 (.slice lA ls.length lC) (.slice A9 ((ls).length + 1) c9) := Step.trans (Step.of_below (below_of (b := w4))) hst9
    have hp9 := hst.keep kl4 hp4 (by decide)
    have BP9 := boxed hp9
    have hlk : ((ls) ++ [(LA.mk ⟨st.round + 1, st.sent, st.inn, q⟩ A c)]).length = (ls).length + 1 := by simp
    refine hK9.out _ _ (by exact ⟨(blk_cell hp9 0).trans rfl, (blk_cell hp9 4).trans rfl, (blk_cell hp9 7).trans rfl, (blk_cell hp9 8).trans rfl⟩) (fun hHeld => ?_)
    clear hK9 K9
    (try simp only [Act.put])
    refine wpAnyH_take (i := 24) (oi := _) (v := ?_) rfl (by kernel_rfl) (by kernel_rfl) (by kernel_rfl) (fun _ _ _ h => h) (Or.inl ⟨by rfl, ?_⟩) (by assumption) ?_
    rotate_left 1
    · (intro wy hSw; (try dsimp only at hSw); go_simp; try with_reducible rfl)
    (try simp only [Act.put])
    refine wpAnyH_take (i := 25) (oi := _) (v := ?_) rfl (by kernel_rfl) (by kernel_rfl) (by kernel_rfl) (fun _ _ _ h => h) (Or.inl ⟨by rfl, ?_⟩) (by assumption) ?_
    rotate_left 1
    · (intro wy hSw; (try dsimp only at hSw); go_simp; try with_reducible rfl)
    (try simp only [Act.put])
    refine wpAnyH_ready (rs := [26]) (by kernel_rfl) (by simp) ?_
    refine AllReadyH.cons (o := _) rfl (fun K9 hK9 => ?_) AllReadyH.nil
    go_simp
    refine hK9.out _ _ (by exact ⟨(blk_cell (blk_set hp9 11 _) 0).trans rfl, (blk_cell (blk_set hp9 11 _) 4).trans rfl, (blk_cell (blk_set hp9 11 _) 7).trans rfl, (blk_cell (blk_set hp9 11 _) 8).trans rfl⟩) (fun hHeld => ?_)
    clear hK9 K9
    (try simp only [Act.put])
    refine wpAnyH_done (by kernel_rfl) ?_ _
    go_end0
    refine ⟨rfl, ?_, (hst.below kl4 (hb2.trans (hb24.mono hz2)) hz4).setCell P.b _⟩
    rw [show st.list = { st with round := st.round + 1, lists := st.lists ++ [(LA.mk ⟨st.round + 1, st.sent, st.inn, q⟩ A c).lp] } by unfold PairS.list; rw [hq.out]]
    refine ⟨_, _, _, _, _, ls ++ [LA.mk ⟨st.round + 1, st.sent, st.inn, q⟩ A c], ⟨P.b, (blk_set hp9 11 _).trans rfl, ?_⟩⟩
    exact ((k4.stepL hst ho9 (ho.mono hz2)).setp hp9 11 _).nums rfl rfl rfl rfl rfl
  · go_simp
    refine (build_q sA sC st.stubs 2 ((st.round + 1 : Nat) : Int) st.sent st.inn _ (HS _) (by omega)).mono ?_
    rintro r w4 ⟨q, A, c, hq, rfl, ho, hb4⟩
    have l4 := later hb4
    have hz4 : base ≤ w4.heap.size := Nat.le_trans hz2 (show Below w2.heap.size w2 w4 from below_of).size
    have hb24 : Below w2.heap.size w2 w4 := below_of
    have k4 := k2.below hb24
    have hp4 := (hb24.block _ (blk_lt hp2)).trans hp2
    have l44 : Later w4 w4 := Later.refl
    have kl4 := k4.l
    refine hK9.out _ _ (by exact ⟨((BP2 _).2 0).1, ((BP2 _).2 4).1, ((BP2 _).2 7).1, ((BP2 _).2 8).1⟩) (fun hHeld => ?_)
    clear hK9 K9
    (try simp only [Act.put])
    refine wpAnyH_ready (rs := [4, 22]) (by kernel_rfl) (by simp) ?_
    refine AllReadyH.cons (o := _) rfl (fun K9 hK9 => ?_) (AllReadyH.cons (o := _) rfl (fun K9 hK9 => ?_) AllReadyH.nil)
    · go_simp
      refine hK9.out _ _ (by exact ⟨((BP2 _).2 0).1, ((BP2 _).2 4).1, ((BP2 _).2 7).1, ((BP2 _).2 8).1⟩) (fun hHeld => ?_)
      clear hK9 K9
      (try simp only [Act.put])
      refine wpAnyH_ready (rs := [22]) (by kernel_rfl) (by simp) ?_
      refine AllReadyH.cons (o := _) rfl (fun K9 hK9 => ?_) AllReadyH.nil
      go_simp
      refine hK9.out _ _ (by exact ⟨((BP2 _).2 0).1, ((BP2 _).2 4).1, ((BP2 _).2 7).1, ((BP2 _).2 8).1⟩) (fun hHeld => ?_)
      clear hK9 K9
      (try simp only [Act.put])
      refine wpAnyH_ready (rs := [23]) (by kernel_rfl) (by simp) ?_
      refine AllReadyH.cons (o := _) rfl (fun K9 hK9 => ?_) AllReadyH.nil
      refine step_app2 (P := Try.prog) rfl (.tmp 122) (.tmp 140) (by rfl) LA.enc listT _ _ [(LA.mk ⟨st.round + 1, st.sent, st.inn, q⟩ A c)] ls (.slice lA ls.length lC) (by rfl) (by rfl) (m := 1) (n := (ls).length + 1) rfl rfl (kl4.later _) (blk_slAt LA.enc (fr := (0, 0)) (e := 26) (heap_alloc_new _ _) [(LA.mk ⟨st.round + 1, st.sent, st.inn, q⟩ A c)] rfl) (by omega) (by unfold maxLen; omega) (by simp only [heap_drew, World.size_alloc]; omega) ?_
      intro A9 c9 w9 ho9 hm9 hst9
      have hst : Step w4 w9 (.slice lA ls.length lC) (.slice A9 ((ls).length + 1) c9) := Step.trans (Step.of_below (below_of (b := w4))) hst9
      have hp9 := hst.keep kl4 hp4 (by decide)
      have BP9 := boxed hp9
      have hlk : ((ls) ++ [(LA.mk ⟨st.round + 1, st.sent, st.inn, q⟩ A c)]).length = (ls).length + 1 := by simp
      refine hK9.out _ _ (by exact ⟨(blk_cell hp9 0).trans rfl, (blk_cell hp9 4).trans rfl, (blk_cell hp9 7).trans rfl, (blk_cell hp9 8).trans rfl⟩) (fun hHeld => ?_)
      clear hK9 K9
      (try simp only [Act.put])
      refine wpAnyH_take (i := 24) (oi := _) (v := ?_) rfl (by kernel_rfl) (by kernel_rfl) (by kernel_rfl) (fun _ _ _ h => h) (Or.inl ⟨by rfl, ?_⟩) (by assumption) ?_
      rotate_left 1
      · (intro wy hSw; (try dsimp only at hSw); go_simp; try with_reducible rfl)
      (try simp only [Act.put])
      refine wpAnyH_take (i := 25) (oi := _) (v := ?_) rfl (by kernel_rfl) (by kernel_rfl) (by kernel_rfl) (fun _ _ _ h => h) (Or.inl ⟨by rfl, ?_⟩) (by assumption) ?_
      rotate_left 1
      · (intro wy hSw; (try dsimp only at hSw); go_simp; try with_reducible rfl)
      (try simp only [Act.put])
      refine wpAnyH_ready (rs := [26]) (by kernel_rfl) (by simp) ?_
      refine AllReadyH.cons (o := _) rfl (fun K9 hK9 => ?_) AllReadyH.nil
      go_simp
      refine hK9.out _ _ (by exact ⟨(blk_cell (blk_set hp9 11 _) 0).trans rfl, (blk_cell (blk_set hp9 11 _) 4).trans rfl, (blk_cell (blk_set hp9 11 _) 7).trans rfl, (blk_cell (blk_set hp9 11 _) 8).trans rfl⟩) (fun hHeld => ?_)
      clear hK9 K9
      (try simp only [Act.put])
      refine wpAnyH_done (by kernel_rfl) ?_ _
      go_end0
      refine ⟨rfl, ?_, (hst.below kl4 (hb2.trans (hb24.mono hz2)) hz4).setCell P.b _⟩
      rw [show st.list = { st with round := st.round + 1, lists := st.lists ++ [(LA.mk ⟨st.round + 1, st.sent, st.inn, q⟩ A c).lp] } by unfold PairS.list; rw [hq.out]]
      refine ⟨_, _, _, _, _, ls ++ [LA.mk ⟨st.round + 1, st.sent, st.inn, q⟩ A c], ⟨P.b, (blk_set hp9 11 _).trans rfl, ?_⟩⟩
      exact ((k4.stepL hst ho9 (ho.mono hz2)).setp hp9 11 _).nums rfl rfl rfl rfl rfl
    · go_simp
      refine hK9.out _ _ (by exact ⟨((BP2 _).2 0).1, ((BP2 _).2 4).1, ((BP2 _).2 7).1, ((BP2 _).2 8).1⟩) (fun hHeld => ?_)
      clear hK9 K9
      (try simp only [Act.put])
      refine wpAnyH_ready (rs := [4]) (by kernel_rfl) (by simp) ?_
      refine AllReadyH.cons (o := _) rfl (fun K9 hK9 => ?_) AllReadyH.nil
      go_simp
      refine hK9.out _ _ (by exact ⟨((BP2 _).2 0).1, ((BP2 _).2 4).1, ((BP2 _).2 7).1, ((BP2 _).2 8).1⟩) (fun hHeld => ?_)
      clear hK9 K9
      (try simp only [Act.put])
      refine wpAnyH_ready (rs := [23]) (by kernel_rfl) (by simp) ?_
      refine AllReadyH.cons (o := _) rfl (fun K9 hK9 => ?_) AllReadyH.nil
      refine step_app2 (P := Try.prog) rfl (.tmp 122) (.tmp 140) (by rfl) LA.enc listT _ _ [(LA.mk ⟨st.round + 1, st.sent, st.inn, q⟩ A c)] ls (.slice lA ls.length lC) (by rfl) (by rfl) (m := 1) (n := (ls).length + 1) rfl rfl (kl4.later _) (blk_slAt LA.enc (fr := (0, 0)) (e := 26) (heap_alloc_new _ _) [(LA.mk ⟨st.round + 1, st.sent, st.inn, q⟩ A c)] rfl) (by omega) (by unfold maxLen; omega) (by simp only [heap_drew, World.size_alloc]; omega) ?_
      intro A9 c9 w9 ho9 hm9 hst9
      have hst : Step w4 w9 (.slice lA ls.length lC) (.slice A9 ((ls).length + 1) c9) := Step.trans (Step.of_below (below_of (b := w4))) hst9
      have hp9 := hst.keep kl4 hp4 (by decide)
      have BP9 := boxed hp9
      have hlk : ((ls) ++ [(LA.mk ⟨st.round + 1, st.sent, st.inn, q⟩ A c)]).length = (ls).length + 1 := by simp
      refine hK9.out _ _ (by exact ⟨(blk_cell hp9 0).trans rfl, (blk_cell hp9 4).trans rfl, (blk_cell hp9 7).trans rfl, (blk_cell hp9 8).trans rfl⟩) (fun hHeld => ?_)
      clear hK9 K9
      (try simp only [Act.put])
      refine wpAnyH_take (i := 24) (oi := _) (v := ?_) rfl (by kernel_rfl) (by kernel_rfl) (by kernel_rfl) (fun _ _ _ h => h) (Or.inl ⟨by rfl, ?_⟩) (by assumption) ?_
      rotate_left 1
      · (intro wy hSw; (try dsimp only at hSw); go_simp; try with_reducible rfl)
      (try simp only [Act.put])
      refine wpAnyH_take (i := 25) (oi := _) (v := ?_) rfl (by kernel_rfl) (by kernel_rfl) (by kernel_rfl) (fun _ _ _ h => h) (Or.inl ⟨by rfl, ?_⟩) (by assumption) ?_
      rotate_left 1
      · (intro wy hSw; (try dsimp only at hSw); go_simp; try with_reducible rfl)
      (try simp only [Act.put])
      refine wpAnyH_ready (rs := [26]) (by kernel_rfl) (by simp) ?_
      refine AllReadyH.cons (o := _) rfl (fun K9 hK9 => ?_) AllReadyH.nil
      go_simp
      refine hK9.out _ _ (by exact ⟨(blk_cell (blk_set hp9 11 _) 0).trans rfl, (blk_cell (blk_set hp9 11 _) 4).trans rfl, (blk_cell (blk_set hp9 11 _) 7).trans rfl, (blk_cell (blk_set hp9 11 _) 8).trans rfl⟩) (fun hHeld => ?_)
      clear hK9 K9
      (try simp only [Act.put])
      refine wpAnyH_done (by kernel_rfl) ?_ _
      go_end0
      refine ⟨rfl, ?_, (hst.below kl4 (hb2.trans (hb24.mono hz2)) hz4).setCell P.b _⟩
      rw [show st.list = { st with round := st.round + 1, lists := st.lists ++ [(LA.mk ⟨st.round + 1, st.sent, st.inn, q⟩ A c).lp] } by unfold PairS.list; rw [hq.out]]
      refine ⟨_, _, _, _, _, ls ++ [LA.mk ⟨st.round + 1, st.sent, st.inn, q⟩ A c], ⟨P.b, (blk_set hp9 11 _).trans rfl, ?_⟩⟩
      exact ((k4.stepL hst ho9 (ho.mono hz2)).setp hp9 11 _).nums rfl rfl rfl rfl rfl
end Go.Proofs.Ythigjlllhnajbaa
