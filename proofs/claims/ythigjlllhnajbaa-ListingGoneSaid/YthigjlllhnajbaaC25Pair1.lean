/-
  Contracts of the functions of this seat that each theorem names: what a call returns, and that it writes nothing that was there before. The conditions stand in each theorem.
-/
import Derived.Test.YthigjlllhnajbaaC25PairAt
import Derived.Test.YthigjlllhnajbaaGrpC
namespace Go.Proofs.Ythigjlllhnajbaa
open Go.RowKit
attribute [local go_sem ↓] run_neq_id run_eql_id
def DropPost (base p : Nat) (w : World) (nv cv ov lv : Value) (st : PairS) (ls : List LA) (r : Ending) (w' : World) : Prop := r = .returned (.tuple #[]) ∧ (∃ sv, PairAt base p w' sv nv cv ov lv st ls) ∧ Only (fun k => k = p) w w'
theorem take_drop_snoc {l : List StubE} {k : Nat} {y : StubE} {m s : Int} (hy : l[k]? = some y) : dropS (l.take (k + 1)) m s = dropS (l.take k) m s ++ (if stID y m s then [] else [y]) := by
  unfold dropS
  rw [take_snoc_get hy, List.filter_append]
  cases h : stID y m s <;> simp [h]
set_option maxRecDepth 100000 in
set_option maxHeartbeats 4000000 in
theorem drop_any {base p : Nat} {sv nv cv ov lv : Value} {st : PairS} {ls : List LA} (m s : Int) (w : World) (P : PairAt base p w sv nv cv ov lv st ls) (hb : base ≤ w.heap.size) (hl : st.stubs.length ≤ 1000) :
    Calls Try.prog 40 #[.pointer (some ⟨p, 0, none⟩), .agg #[.int .i64 m, .int .i64 s]] w (DropPost base p w nv cv ov lv { st with stubs := dropS st.stubs m s } ls) := by
  obtain ⟨sA, sC, rfl, hsc, hsm, hsS⟩ := P.k.s.slAt StubE.enc
  obtain ⟨nA, nC, rfl, hnc, hnm, hnS⟩ := P.k.n.slAt ScionE.enc
  obtain ⟨cA, cC, rfl, hcc, hcm, hcS⟩ := P.k.c.slAt ScionE.enc
  obtain ⟨oA, oC, rfl, hoc, hom, hoS⟩ := P.k.o.slAt ScionE.enc
  obtain ⟨lA, lC, rfl, hlc, hlm, hlS⟩ := P.k.l.slAt LA.enc
  have BP := boxed P.h
  have hPl := blk_lt P.h
  have hPb := P.b
  have HS : ∀ u [Later w u], SlAt StubE.cells 12 u sA st.stubs := fun u i => hsS.below i.below
  have hl63 : st.stubs.length ≤ 9223372036854775807 := by omega
  go_enter Try.func40, Try.ntmps40
  go_upto_region 1 with fail
  refine wp_name ?_
  intro w0 hw0
  obtain ⟨B0, l0⟩ := box1 hw0
  have hz0 : w.heap.size < w0.heap.size := by rw [← hw0]; simp
  clear hw0
  go_wp2_with fail
  go_loopw [4, 13] (fun ov iv wr => ∃ (k : Nat) (q : List StubE) (B : Option Addr) (D : Nat), k ≤ st.stubs.length ∧ iv = .int .i64 k ∧ Hid (q = dropS (st.stubs.take k) m s) ∧ ov = .slice B q.length D ∧ Own StubE.cells 12 tSt w0.heap.size wr (.slice B q.length D) q ∧ Below w0.heap.size w0 wr) (fun _ iv _ => st.stubs.length - (intOf iv).toNat)
  case atStart => exact ⟨0, [], some ⟨w0.heap.size, 0, none⟩, 0, by omega, rfl, hide rfl, rfl, Own.empty (Nat.le_refl _), below_of⟩
  case round =>
    obtain ⟨k, q, B, D, hk, rfl, hq, rfl, ho, hbr⟩ := hrel
    have lr := later hbr
    have hql : q.length ≤ 1000 := by rw [hq.out]; exact Nat.le_trans (List.length_filter_le _ _) (by rw [List.length_take]; omega)
    by_cases hlt : k < st.stubs.length
    · obtain ⟨b1, o1, y, rfl, hy, C1⟩ := StubE.get (HS wr) hlt
      have hT := hide (take_drop_snoc (m := m) (s := s) hy)
      have hsz := hbr.size
      clear hy
      go_upto_region 5 with fail
      refine wp_name ?_
      intro w3 hw3
      obtain ⟨B3, l3⟩ := box1 hw3
      have ho3 := ho.later w3
      have hz3 : w0.heap.size ≤ w3.heap.size := (show Below w0.heap.size w0 w3 from below_of).size
      clear hw3
      cases hid : ideq y.iDMachine y.iDSerial m s
      · have hqe := hide (show q ++ [y] = dropS (st.stubs.take (k + 1)) m s by rw [hT.out, ← hq.out, show stID y m s = false from hid]; rfl)
        have hqk := hide (show q.length + 1 = (q ++ [y]).length by simp)
        go_upto_region 6 with fail
        go_wp2_with (at_builtin; refine wpList_app1 rfl (.tmp 21) (.tmp 23) rfl StubE.enc stubT y rfl rfl rfl (ho3.later _) (by rfl) (by omega) (by unfold maxLen; omega) hz3 ?_; intro A' c' w4 ho4 hm hbq hgq hat)
        go_roundw
        case rel => exact ⟨k + 1, q ++ [y], A', c', by omega, by go_num, hqe, by rw [← hqk.out], by rw [← hqk.out]; exact ho4, (show Below w0.heap.size w0 w3 from below_of).trans hbq⟩
        case measure => simp [intOf]; omega
      · have hqe := hide (show q = dropS (st.stubs.take (k + 1)) m s by rw [hT.out, ← hq.out, show stID y m s = true from hid]; simp)
        go_wp2_with fail
        go_roundw
        case rel => exact ⟨k + 1, q, B, D, by omega, by go_num, hqe, rfl, ho3.later _, below_of⟩
        case measure => simp [intOf]; omega
    · have hk' : k = st.stubs.length := by omega
      subst hk'
      rw [List.take_length] at hq
      have hzr := hbr.size
      have hbw : Below w.heap.size w wr := below_of
      have hne : (Value.slice B q.length D).ownBlock ≠ some p := fun e => absurd (World.ownsRow.lt ho _ e).1 (by omega)
      have Pr := P.below hbw
      go_wp2_with fail
      go_end0
      refine ⟨rfl, ⟨_, ⟨P.b, (blk_set Pr.h 0 (.slice B q.length D)).trans rfl, ?_⟩⟩, Only.setCell (s := fun k => k = p) (p := ⟨p, 0, none⟩) (Only.of_below hbw) (.inl rfl) _⟩
      rw [← hq.out]
      exact (Pr.k.setp Pr.h 0 _).newS ((ho.far (p := ⟨p, 0, none⟩) hne _).mono (by omega))
/-! An append onto a field of the pair, in a region that draws its order: W the world ahead, OWN the slice's Own in it, v the slice, X the element, bx the block that must stay, i4 i6 i7 i10 the operations (load, buildSlice, append, store). -/
theorem natU2 (n : Nat) (h : n ≤ 1000000) : IntKind.u64.wrap (2 * ((n : Int) + 1)) = 2 * ((n : Int) + 1) := by rw [IntKind.wrap_u64]; omega
theorem natC (n : Nat) (h : n ≤ 1000000) : IntKind.i64.wrap ((n : Int) + 1) = (n : Int) + 1 := by simp [IntKind.wrap, IntKind.bits, IntKind.signed]; omega
set_option maxRecDepth 100000 in
set_option maxHeartbeats 4000000 in
theorem move_any {base p : Nat} {sv nv cv ov lv : Value} {st : PairS} {ls : List LA} (w : World) (P : PairAt base p w sv nv cv ov lv st ls) (hb : base ≤ w.heap.size) (h1 : st.sent ≤ 1000) (h2 : st.next ≤ 1000) (hl : st.stubs.length ≤ 1000) (hlo : st.toOwner.length ≤ 1000) :
    Calls Try.prog 39 #[.pointer (some ⟨p, 0, none⟩)] w (PPost base p w st.move) := by
  obtain ⟨sA, sC, rfl, hsc, hsm, hsS⟩ := P.k.s.slAt StubE.enc
  obtain ⟨nA, nC, rfl, hnc, hnm, hnS⟩ := P.k.n.slAt ScionE.enc
  obtain ⟨cA, cC, rfl, hcc, hcm, hcS⟩ := P.k.c.slAt ScionE.enc
  obtain ⟨oA, oC, rfl, hoc, hom, hoS⟩ := P.k.o.slAt ScionE.enc
  obtain ⟨lA, lC, rfl, hlc, hlm, hlS⟩ := P.k.l.slAt LA.enc
  have BP := boxed P.h
  have hPl := blk_lt P.h
  have hPb := P.b
  have e3 := natU2 st.next (by omega)
  have e4 := natC st.next (by omega)
  go_enter Try.func39, Try.ntmps39
  go_upto_region 2 with fail
  refine wp_name ?_
  intro w2 hw2
  have hp2 : w2.heap[p]? = some (.cells #[.slice sA st.stubs.length sC, .slice nA st.scions.length nC, .slice cA st.toClient.length cC, .slice oA st.toOwner.length oC, .int .i64 ((st.sent + 1 : Nat) : Int), .int .i64 st.got, .int .i64 st.out, .int .i64 st.inn, .int .i64 st.round, .int .i64 st.applied, .int .u64 ((st.next + 1 : Nat) : Int), .slice lA ls.length lC] tPa (0, 0)) := by rw [← hw2]; exact (blk_set (blk_set P.h 4 _) 10 _).trans rfl
  have k2 : Slices base w2 (.slice sA st.stubs.length sC) (.slice nA st.scions.length nC) (.slice cA st.toClient.length cC) (.slice oA st.toOwner.length oC) (.slice lA ls.length lC) st ls := by rw [← hw2]; exact (P.k.setp P.h 4 _).setp (blk_set P.h 4 _) 10 _
  have hb2 : Below base w w2 := by rw [← hw2]; exact ((Below.refl base w).setCell P.b _).setCell P.b _
  have hz2 : w.heap.size ≤ w2.heap.size := hb2.size
  clear hw2 BP
  have BP := boxed hp2
  have l2 : Later w2 w2 := Later.refl
  go_region_held3 (fun w' => ∀ b [Later b w2], Later b w') ((intro b _; infer_instance)) (fail)
  go_upto_region 3 with fail
  refine wp_name ?_
  intro w3 hw3
  have l3 := later_name' hw3 (inferInstance : Later w2 _)
  obtain ⟨x, hx⟩ : ∃ x, x = movScion (st.next + 1) (st.sent + 1) := ⟨_, rfl⟩
  have bx3 : w3.heap[w2.heap.size]? = some (.cells x.arr 43 (0, 0)) := by rw [hx, ← hw3]; exact heap_alloc_new _ _
  have hb23 : Below w2.heap.size w2 w3 := below_of
  have hp3 := (hb23.block _ (blk_lt hp2)).trans hp2
  have k3 := k2.below hb23
  have hz3 := hb23.size
  have hb3 := hb2.trans (hb23.mono (Nat.le_trans hb hz2))
  have Hx := hide hx
  have hnx : (Value.slice oA st.toOwner.length oC).ownBlock ≠ some w2.heap.size := fun e => absurd (World.ownsRow.lt k2.o _ e).2 (by omega)
  have hpx : p ≠ w2.heap.size := by have := blk_lt hp2; omega
  clear hw3 BP hx
  have BX := boxed bx3
  have BP := boxed hp3
  have l33 : Later w3 w3 := Later.refl
  have hzb : base ≤ w3.heap.size := by omega
  have ko3 := k3.o
  refine wp_region_held_drew (S := fun w' => ∀ i : Nat, w'.cell? ⟨w2.heap.size, i, none⟩ = (x.arr)[i]?) (by kernel_rfl) (fun i => ((BX w3).2 i).1) (fun hHeld => ?_)
  refine wpAnyH_take (i := 0) (oi := _) (v := ?_) rfl (by kernel_rfl) (by kernel_rfl) (by kernel_rfl) (fun _ _ _ h => h) (Or.inl ⟨by rfl, ?_⟩) (by assumption) ?_
  rotate_left 1
  · (intro wy hSw; (try dsimp only at hSw); go_simp; try with_reducible rfl)
  (try simp only [Act.put])
  refine wpAnyH_take (i := 1) (oi := _) (v := ?_) rfl (by kernel_rfl) (by kernel_rfl) (by kernel_rfl) (fun _ _ _ h => h) (Or.inl ⟨by rfl, ?_⟩) (by assumption) ?_
  rotate_left 1
  · (intro wy hSw; (try dsimp only at hSw); go_simp; try with_reducible rfl)
  (try simp only [Act.put])
  refine wpAnyH_take (i := 2) (oi := _) (v := ?_) rfl (by kernel_rfl) (by kernel_rfl) (by kernel_rfl) (fun _ _ _ h => h) (Or.inl ⟨by rfl, ?_⟩) (by assumption) ?_
  rotate_left 1
  · (intro wy hSw; (try dsimp only at hSw); go_simp; try with_reducible rfl)
  (try simp only [Act.put])
  refine wpAnyH_take (i := 3) (oi := _) (v := ?_) rfl (by kernel_rfl) (by kernel_rfl) (by kernel_rfl) (fun _ _ _ h => h) (Or.inl ⟨by rfl, ?_⟩) (by assumption) ?_
  rotate_left 1
  · (intro wy hSw; (try dsimp only at hSw); go_simp; try with_reducible rfl)
  (try simp only [Act.put])
  refine wpAnyH_take (i := 5) (oi := _) (v := ?_) rfl (by kernel_rfl) (by kernel_rfl) (by kernel_rfl) (fun _ _ _ h => h) (Or.inl ⟨by rfl, ?_⟩) (by assumption) ?_
  rotate_left 1
  · (intro wy hSw; (try dsimp only at hSw); go_simp; try with_reducible rfl)
  (try simp only [Act.put])
  refine wpAnyH_ready (rs := [4, 6]) (by kernel_rfl) (by simp) ?_
  refine AllReadyH.cons (o := _) rfl (fun K9 hK9 => ?_) (AllReadyH.cons (o := _) rfl (fun K9 hK9 => ?_) AllReadyH.nil)
  · go_simp
    refine hK9.out _ _ (by exact fun i => ((BX _).2 i).1) (fun hHeld => ?_)
    clear hK9 K9
    (try simp only [Act.put])
    refine wpAnyH_ready (rs := [6]) (by kernel_rfl) (by simp) ?_
    refine AllReadyH.cons (o := _) rfl (fun K9 hK9 => ?_) AllReadyH.nil
    go_simp
    refine hK9.out _ _ (by exact fun i => ((BX _).2 i).1) (fun hHeld => ?_)
    clear hK9 K9
    (try simp only [Act.put])
    refine wpAnyH_ready (rs := [7]) (by kernel_rfl) (by simp) ?_
    refine AllReadyH.cons (o := _) rfl (fun K9 hK9 => ?_) AllReadyH.nil
    refine step_app2 (P := Try.prog) rfl (.tmp 37) (.tmp 39) (by rfl) ScionE.enc scionT _ _ [x] st.toOwner (.slice oA st.toOwner.length oC) (by rfl) (by rfl) (m := 1) (n := (st.toOwner).length + 1) rfl rfl (ko3.later _) (blk_slAt ScionE.enc (fr := (0, 0)) (e := 43) (heap_alloc_new _ _) [x] rfl) (by omega) (by unfold maxLen; omega) (by simp only [heap_drew, World.size_alloc]; omega) ?_
    intro A9 c9 w9 ho9 hm9 hst9
    have hst : Step w3 w9 (.slice oA st.toOwner.length oC) (.slice A9 ((st.toOwner).length + 1) c9) := Step.trans (Step.of_below (below_of (b := w3))) hst9
    have hp9 := hst.keep ko3 hp3 (by decide)
    have BP9 := boxed hp9
    have hlk : ((st.toOwner) ++ [x]).length = (st.toOwner).length + 1 := by simp
    refine hK9.out _ _ (by exact fun i => blk_cell (hst.boxed bx3 hnx).1 i) (fun hHeld => ?_)
    clear hK9 K9
    (try simp only [Act.put])
    refine wpAnyH_take (i := 8) (oi := _) (v := ?_) rfl (by kernel_rfl) (by kernel_rfl) (by kernel_rfl) (fun _ _ _ h => h) (Or.inl ⟨by rfl, ?_⟩) (by assumption) ?_
    rotate_left 1
    · (intro wy hSw; (try dsimp only at hSw); go_simp; try with_reducible rfl)
    (try simp only [Act.put])
    refine wpAnyH_take (i := 9) (oi := _) (v := ?_) rfl (by kernel_rfl) (by kernel_rfl) (by kernel_rfl) (fun _ _ _ h => h) (Or.inl ⟨by rfl, ?_⟩) (by assumption) ?_
    rotate_left 1
    · (intro wy hSw; (try dsimp only at hSw); go_simp; try with_reducible rfl)
    (try simp only [Act.put])
    refine wpAnyH_ready (rs := [10]) (by kernel_rfl) (by simp) ?_
    refine AllReadyH.cons (o := _) rfl (fun K9 hK9 => ?_) AllReadyH.nil
    go_simp
    refine hK9.out _ _ (by exact fun i => blk_cell ((blk_far hpx.symm _).trans (hst.boxed bx3 hnx).1) i) (fun hHeld => ?_)
    clear hK9 K9
    (try simp only [Act.put])
    refine wpAnyH_done (by kernel_rfl) ?_ _
    go_upto_region 4 with fail
    refine wp_name ?_
    intro w4 hw4
    have hp4 : w4.heap[p]? = some (.cells #[.slice sA st.stubs.length sC, .slice nA st.scions.length nC, .slice cA st.toClient.length cC, .slice A9 (st.toOwner.length + 1) c9, .int .i64 ((st.sent + 1 : Nat) : Int), .int .i64 st.got, .int .i64 st.out, .int .i64 st.inn, .int .i64 st.round, .int .i64 st.applied, .int .u64 ((st.next + 1 : Nat) : Int), .slice lA ls.length lC] tPa (0, 0)) := by rw [← hw4]; exact (blk_set hp9 3 _).trans rfl
    have k4 := (k3.stepO hst ho9).setp hp9 3 (.slice A9 (st.toOwner.length + 1) c9)
    have bx4 := (blk_far (p := ⟨p, 3, none⟩) hpx.symm (.slice A9 (st.toOwner.length + 1) c9)).trans (hst.boxed bx3 hnx).1
    have hb4 := (hst.below ko3 hb3 hzb).setCell (p := ⟨p, 3, none⟩) P.b (.slice A9 (st.toOwner.length + 1) c9)
    rw [hw4] at k4 bx4 hb4
    have hz4 : base ≤ w4.heap.size := Nat.le_trans hb hb4.size
    have ks4 := k4.s
    have hnx4 : (Value.slice sA st.stubs.length sC).ownBlock ≠ some w2.heap.size := fun e => absurd (World.ownsRow.lt k2.s _ e).2 (by omega)
    clear hw4 BX BP BP9 hp9 ho9 hst hst9
    have BX := boxed bx4
    have BP := boxed hp4
    have l44 : Later w4 w4 := Later.refl
    refine wp_region_held_drew (S := fun w' => ∀ i : Nat, w'.cell? ⟨w2.heap.size, i, none⟩ = (x.arr)[i]?) (by kernel_rfl) (fun i => ((BX w4).2 i).1) (fun hHeld => ?_)
    refine wpAnyH_take (i := 0) (oi := _) (v := ?_) rfl (by kernel_rfl) (by kernel_rfl) (by kernel_rfl) (fun _ _ _ h => h) (Or.inl ⟨by rfl, ?_⟩) (by assumption) ?_
    rotate_left 1
    · (intro wy hSw; (try dsimp only at hSw); go_simp; try with_reducible rfl)
    (try simp only [Act.put])
    refine wpAnyH_take (i := 1) (oi := _) (v := ?_) rfl (by kernel_rfl) (by kernel_rfl) (by kernel_rfl) (fun _ _ _ h => h) (Or.inl ⟨by rfl, ?_⟩) (by assumption) ?_
    rotate_left 1
    · (intro wy hSw; (try dsimp only at hSw); go_simp; try with_reducible rfl)
    (try simp only [Act.put])
    refine wpAnyH_take (i := 2) (oi := _) (v := ?_) rfl (by kernel_rfl) (by kernel_rfl) (by kernel_rfl) (fun _ _ _ h => h) (Or.inl ⟨by rfl, ?_⟩) (by assumption) ?_
    rotate_left 1
    · (intro wy hSw; (try dsimp only at hSw); go_simp; try with_reducible rfl)
    (try simp only [Act.put])
    refine wpAnyH_take (i := 3) (oi := _) (v := ?_) rfl (by kernel_rfl) (by kernel_rfl) (by kernel_rfl) (fun _ _ _ h => h) (Or.inl ⟨by rfl, ?_⟩) (by assumption) ?_
    rotate_left 1
    · (intro wy hSw; (try dsimp only at hSw); go_simp; try with_reducible rfl)
    (try simp only [Act.put])
    refine wpAnyH_take (i := 5) (oi := _) (v := ?_) rfl (by kernel_rfl) (by kernel_rfl) (by kernel_rfl) (fun _ _ _ h => h) (Or.inl ⟨by rfl, ?_⟩) (by assumption) ?_
    rotate_left 1
    · (intro wy hSw; (try dsimp only at hSw); go_simp; try with_reducible rfl)
    (try simp only [Act.put])
    refine wpAnyH_take (i := 6) (oi := _) (v := ?_) rfl (by kernel_rfl) (by kernel_rfl) (by kernel_rfl) (fun _ _ _ h => h) (Or.inl ⟨by rfl, ?_⟩) (by assumption) ?_
    rotate_left 1
    · (intro wy hSw; (try dsimp only at hSw); go_simp; try with_reducible rfl)
    (try simp only [Act.put])
    refine wpAnyH_take (i := 7) (oi := _) (v := ?_) rfl (by kernel_rfl) (by kernel_rfl) (by kernel_rfl) (fun _ _ _ h => h) (Or.inl ⟨by rfl, ?_⟩) (by assumption) ?_
    rotate_left 1
    · (intro wy hSw; (try dsimp only at hSw); go_simp; try with_reducible rfl)
    (try simp only [Act.put])
    refine wpAnyH_take (i := 8) (oi := _) (v := ?_) rfl (by kernel_rfl) (by kernel_rfl) (by kernel_rfl) (fun _ _ _ h => h) (Or.inl ⟨by rfl, ?_⟩) (by assumption) ?_
    rotate_left 1
    · (intro wy hSw; (try dsimp only at hSw); go_simp; try with_reducible rfl)
    (try simp only [Act.put])
    refine wpAnyH_take (i := 9) (oi := _) (v := ?_) rfl (by kernel_rfl) (by kernel_rfl) (by kernel_rfl) (fun _ _ _ h => h) (Or.inl ⟨by rfl, ?_⟩) (by assumption) ?_
    rotate_left 1
    · (intro wy hSw; (try dsimp only at hSw); go_simp; try with_reducible rfl)
    (try simp only [Act.put])
    refine wpAnyH_ready (rs := [4, 10]) (by kernel_rfl) (by simp) ?_
    refine AllReadyH.cons (o := _) rfl (fun K9 hK9 => ?_) (AllReadyH.cons (o := _) rfl (fun K9 hK9 => ?_) AllReadyH.nil)
    · go_simp
      refine hK9.out _ _ (by exact fun i => ((BX _).2 i).1) (fun hHeld => ?_)
      clear hK9 K9
      (try simp only [Act.put])
      refine wpAnyH_ready (rs := [10]) (by kernel_rfl) (by simp) ?_
      refine AllReadyH.cons (o := _) rfl (fun K9 hK9 => ?_) AllReadyH.nil
      go_simp
      refine hK9.out _ _ (by exact fun i => ((BX _).2 i).1) (fun hHeld => ?_)
      clear hK9 K9
      (try simp only [Act.put])
      refine wpAnyH_ready (rs := [11]) (by kernel_rfl) (by simp) ?_
      refine AllReadyH.cons (o := _) rfl (fun K9 hK9 => ?_) AllReadyH.nil
      refine step_app2 (P := Try.prog) rfl (.tmp 47) (.tmp 53) (by rfl) StubE.enc stubT _ _ [newStub x] st.stubs (.slice sA st.stubs.length sC) (by rfl) (by rfl) (m := 1) (n := (st.stubs).length + 1) rfl rfl (ks4.later _) (blk_slAt StubE.enc (fr := (0, 0)) (e := 34) (heap_alloc_new _ _) [newStub x] rfl) (by omega) (by unfold maxLen; omega) (by simp only [heap_drew, World.size_alloc]; omega) ?_
      intro A9 c9 w9 ho9 hm9 hst9
      have hst : Step w4 w9 (.slice sA st.stubs.length sC) (.slice A9 ((st.stubs).length + 1) c9) := Step.trans (Step.of_below (below_of (b := w4))) hst9
      have hp9 := hst.keep ks4 hp4 (by decide)
      have BP9 := boxed hp9
      have hlk : ((st.stubs) ++ [newStub x]).length = (st.stubs).length + 1 := by simp
      refine hK9.out _ _ (by exact fun i => blk_cell (hst.boxed bx4 hnx4).1 i) (fun hHeld => ?_)
      clear hK9 K9
      (try simp only [Act.put])
      refine wpAnyH_take (i := 12) (oi := _) (v := ?_) rfl (by kernel_rfl) (by kernel_rfl) (by kernel_rfl) (fun _ _ _ h => h) (Or.inl ⟨by rfl, ?_⟩) (by assumption) ?_
      rotate_left 1
      · (intro wy hSw; (try dsimp only at hSw); go_simp; try with_reducible rfl)
      (try simp only [Act.put])
      refine wpAnyH_take (i := 13) (oi := _) (v := ?_) rfl (by kernel_rfl) (by kernel_rfl) (by kernel_rfl) (fun _ _ _ h => h) (Or.inl ⟨by rfl, ?_⟩) (by assumption) ?_
      rotate_left 1
      · (intro wy hSw; (try dsimp only at hSw); go_simp; try with_reducible rfl)
      (try simp only [Act.put])
      refine wpAnyH_ready (rs := [14]) (by kernel_rfl) (by simp) ?_
      refine AllReadyH.cons (o := _) rfl (fun K9 hK9 => ?_) AllReadyH.nil
      go_simp
      refine hK9.out _ _ (by exact fun i => blk_cell ((blk_far hpx.symm _).trans (hst.boxed bx4 hnx4).1) i) (fun hHeld => ?_)
      clear hK9 K9
      (try simp only [Act.put])
      refine wpAnyH_done (by kernel_rfl) ?_ _
      go_end0
      have hxx := Hx.out
      subst hxx
      refine ⟨rfl, ⟨_, _, _, _, _, ls, ⟨P.b, (blk_set hp9 0 _).trans rfl, ?_⟩⟩, (hst.below ks4 hb4 hz4).setCell P.b _⟩
      exact ((k4.stepS hst ho9).setp hp9 0 _).nums rfl rfl rfl rfl rfl
    · go_simp
      refine hK9.out _ _ (by exact fun i => ((BX _).2 i).1) (fun hHeld => ?_)
      clear hK9 K9
      (try simp only [Act.put])
      refine wpAnyH_ready (rs := [4]) (by kernel_rfl) (by simp) ?_
      refine AllReadyH.cons (o := _) rfl (fun K9 hK9 => ?_) AllReadyH.nil
      go_simp
      refine hK9.out _ _ (by exact fun i => ((BX _).2 i).1) (fun hHeld => ?_)
      clear hK9 K9
      (try simp only [Act.put])
      refine wpAnyH_ready (rs := [11]) (by kernel_rfl) (by simp) ?_
      refine AllReadyH.cons (o := _) rfl (fun K9 hK9 => ?_) AllReadyH.nil
      refine step_app2 (P := Try.prog) rfl (.tmp 47) (.tmp 53) (by rfl) StubE.enc stubT _ _ [newStub x] st.stubs (.slice sA st.stubs.length sC) (by rfl) (by rfl) (m := 1) (n := (st.stubs).length + 1) rfl rfl (ks4.later _) (blk_slAt StubE.enc (fr := (0, 0)) (e := 34) (heap_alloc_new _ _) [newStub x] rfl) (by omega) (by unfold maxLen; omega) (by simp only [heap_drew, World.size_alloc]; omega) ?_
      intro A9 c9 w9 ho9 hm9 hst9
      have hst : Step w4 w9 (.slice sA st.stubs.length sC) (.slice A9 ((st.stubs).length + 1) c9) := Step.trans (Step.of_below (below_of (b := w4))) hst9
      have hp9 := hst.keep ks4 hp4 (by decide)
      have BP9 := boxed hp9
      have hlk : ((st.stubs) ++ [newStub x]).length = (st.stubs).length + 1 := by simp
      refine hK9.out _ _ (by exact fun i => blk_cell (hst.boxed bx4 hnx4).1 i) (fun hHeld => ?_)
      clear hK9 K9
      (try simp only [Act.put])
      refine wpAnyH_take (i := 12) (oi := _) (v := ?_) rfl (by kernel_rfl) (by kernel_rfl) (by kernel_rfl) (fun _ _ _ h => h) (Or.inl ⟨by rfl, ?_⟩) (by assumption) ?_
      rotate_left 1
      · (intro wy hSw; (try dsimp only at hSw); go_simp; try with_reducible rfl)
      (try simp only [Act.put])
      refine wpAnyH_take (i := 13) (oi := _) (v := ?_) rfl (by kernel_rfl) (by kernel_rfl) (by kernel_rfl) (fun _ _ _ h => h) (Or.inl ⟨by rfl, ?_⟩) (by assumption) ?_
      rotate_left 1
      · (intro wy hSw; (try dsimp only at hSw); go_simp; try with_reducible rfl)
      (try simp only [Act.put])
      refine wpAnyH_ready (rs := [14]) (by kernel_rfl) (by simp) ?_
      refine AllReadyH.cons (o := _) rfl (fun K9 hK9 => ?_) AllReadyH.nil
      go_simp
      refine hK9.out _ _ (by exact fun i => blk_cell ((blk_far hpx.symm _).trans (hst.boxed bx4 hnx4).1) i) (fun hHeld => ?_)
      clear hK9 K9
      (try simp only [Act.put])
      refine wpAnyH_done (by kernel_rfl) ?_ _
      go_end0
      have hxx := Hx.out
      subst hxx
      refine ⟨rfl, ⟨_, _, _, _, _, ls, ⟨P.b, (blk_set hp9 0 _).trans rfl, ?_⟩⟩, (hst.below ks4 hb4 hz4).setCell P.b _⟩
      exact ((k4.stepS hst ho9).setp hp9 0 _).nums rfl rfl rfl rfl rfl
  · go_simp
    refine hK9.out _ _ (by exact fun i => ((BX _).2 i).1) (fun hHeld => ?_)
    clear hK9 K9
    (try simp only [Act.put])
    refine wpAnyH_ready (rs := [4]) (by kernel_rfl) (by simp) ?_
    refine AllReadyH.cons (o := _) rfl (fun K9 hK9 => ?_) AllReadyH.nil
    go_simp
    refine hK9.out _ _ (by exact fun i => ((BX _).2 i).1) (fun hHeld => ?_)
    clear hK9 K9
    (try simp only [Act.put])
    refine wpAnyH_ready (rs := [7]) (by kernel_rfl) (by simp) ?_
    refine AllReadyH.cons (o := _) rfl (fun K9 hK9 => ?_) AllReadyH.nil
    refine step_app2 (P := Try.prog) rfl (.tmp 37) (.tmp 39) (by rfl) ScionE.enc scionT _ _ [x] st.toOwner (.slice oA st.toOwner.length oC) (by rfl) (by rfl) (m := 1) (n := (st.toOwner).length + 1) rfl rfl (ko3.later _) (blk_slAt ScionE.enc (fr := (0, 0)) (e := 43) (heap_alloc_new _ _) [x] rfl) (by omega) (by unfold maxLen; omega) (by simp only [heap_drew, World.size_alloc]; omega) ?_
    intro A9 c9 w9 ho9 hm9 hst9
    have hst : Step w3 w9 (.slice oA st.toOwner.length oC) (.slice A9 ((st.toOwner).length + 1) c9) := Step.trans (Step.of_below (below_of (b := w3))) hst9
    have hp9 := hst.keep ko3 hp3 (by decide)
    have BP9 := boxed hp9
    have hlk : ((st.toOwner) ++ [x]).length = (st.toOwner).length + 1 := by simp
    refine hK9.out _ _ (by exact fun i => blk_cell (hst.boxed bx3 hnx).1 i) (fun hHeld => ?_)
    clear hK9 K9
    (try simp only [Act.put])
    refine wpAnyH_take (i := 8) (oi := _) (v := ?_) rfl (by kernel_rfl) (by kernel_rfl) (by kernel_rfl) (fun _ _ _ h => h) (Or.inl ⟨by rfl, ?_⟩) (by assumption) ?_
    rotate_left 1
    · (intro wy hSw; (try dsimp only at hSw); go_simp; try with_reducible rfl)
    (try simp only [Act.put])
    refine wpAnyH_take (i := 9) (oi := _) (v := ?_) rfl (by kernel_rfl) (by kernel_rfl) (by kernel_rfl) (fun _ _ _ h => h) (Or.inl ⟨by rfl, ?_⟩) (by assumption) ?_
    rotate_left 1
    · (intro wy hSw; (try dsimp only at hSw); go_simp; try with_reducible rfl)
    (try simp only [Act.put])
    refine wpAnyH_ready (rs := [10]) (by kernel_rfl) (by simp) ?_
    refine AllReadyH.cons (o := _) rfl (fun K9 hK9 => ?_) AllReadyH.nil
    go_simp
    refine hK9.out _ _ (by exact fun i => blk_cell ((blk_far hpx.symm _).trans (hst.boxed bx3 hnx).1) i) (fun hHeld => ?_)
    clear hK9 K9
    (try simp only [Act.put])
    refine wpAnyH_done (by kernel_rfl) ?_ _
    go_upto_region 4 with fail
    refine wp_name ?_
    intro w4 hw4
    have hp4 : w4.heap[p]? = some (.cells #[.slice sA st.stubs.length sC, .slice nA st.scions.length nC, .slice cA st.toClient.length cC, .slice A9 (st.toOwner.length + 1) c9, .int .i64 ((st.sent + 1 : Nat) : Int), .int .i64 st.got, .int .i64 st.out, .int .i64 st.inn, .int .i64 st.round, .int .i64 st.applied, .int .u64 ((st.next + 1 : Nat) : Int), .slice lA ls.length lC] tPa (0, 0)) := by rw [← hw4]; exact (blk_set hp9 3 _).trans rfl
    have k4 := (k3.stepO hst ho9).setp hp9 3 (.slice A9 (st.toOwner.length + 1) c9)
    have bx4 := (blk_far (p := ⟨p, 3, none⟩) hpx.symm (.slice A9 (st.toOwner.length + 1) c9)).trans (hst.boxed bx3 hnx).1
    have hb4 := (hst.below ko3 hb3 hzb).setCell (p := ⟨p, 3, none⟩) P.b (.slice A9 (st.toOwner.length + 1) c9)
    rw [hw4] at k4 bx4 hb4
    have hz4 : base ≤ w4.heap.size := Nat.le_trans hb hb4.size
    have ks4 := k4.s
    have hnx4 : (Value.slice sA st.stubs.length sC).ownBlock ≠ some w2.heap.size := fun e => absurd (World.ownsRow.lt k2.s _ e).2 (by omega)
    clear hw4 BX BP BP9 hp9 ho9 hst hst9
    have BX := boxed bx4
    have BP := boxed hp4
    have l44 : Later w4 w4 := Later.refl
    refine wp_region_held_drew (S := fun w' => ∀ i : Nat, w'.cell? ⟨w2.heap.size, i, none⟩ = (x.arr)[i]?) (by kernel_rfl) (fun i => ((BX w4).2 i).1) (fun hHeld => ?_)
    refine wpAnyH_take (i := 0) (oi := _) (v := ?_) rfl (by kernel_rfl) (by kernel_rfl) (by kernel_rfl) (fun _ _ _ h => h) (Or.inl ⟨by rfl, ?_⟩) (by assumption) ?_
    rotate_left 1
    · (intro wy hSw; (try dsimp only at hSw); go_simp; try with_reducible rfl)
    (try simp only [Act.put])
    refine wpAnyH_take (i := 1) (oi := _) (v := ?_) rfl (by kernel_rfl) (by kernel_rfl) (by kernel_rfl) (fun _ _ _ h => h) (Or.inl ⟨by rfl, ?_⟩) (by assumption) ?_
    rotate_left 1
    · (intro wy hSw; (try dsimp only at hSw); go_simp; try with_reducible rfl)
    (try simp only [Act.put])
    refine wpAnyH_take (i := 2) (oi := _) (v := ?_) rfl (by kernel_rfl) (by kernel_rfl) (by kernel_rfl) (fun _ _ _ h => h) (Or.inl ⟨by rfl, ?_⟩) (by assumption) ?_
    rotate_left 1
    · (intro wy hSw; (try dsimp only at hSw); go_simp; try with_reducible rfl)
    (try simp only [Act.put])
    refine wpAnyH_take (i := 3) (oi := _) (v := ?_) rfl (by kernel_rfl) (by kernel_rfl) (by kernel_rfl) (fun _ _ _ h => h) (Or.inl ⟨by rfl, ?_⟩) (by assumption) ?_
    rotate_left 1
    · (intro wy hSw; (try dsimp only at hSw); go_simp; try with_reducible rfl)
    (try simp only [Act.put])
    refine wpAnyH_take (i := 5) (oi := _) (v := ?_) rfl (by kernel_rfl) (by kernel_rfl) (by kernel_rfl) (fun _ _ _ h => h) (Or.inl ⟨by rfl, ?_⟩) (by assumption) ?_
    rotate_left 1
    · (intro wy hSw; (try dsimp only at hSw); go_simp; try with_reducible rfl)
    (try simp only [Act.put])
    refine wpAnyH_take (i := 6) (oi := _) (v := ?_) rfl (by kernel_rfl) (by kernel_rfl) (by kernel_rfl) (fun _ _ _ h => h) (Or.inl ⟨by rfl, ?_⟩) (by assumption) ?_
    rotate_left 1
    · (intro wy hSw; (try dsimp only at hSw); go_simp; try with_reducible rfl)
    (try simp only [Act.put])
    refine wpAnyH_take (i := 7) (oi := _) (v := ?_) rfl (by kernel_rfl) (by kernel_rfl) (by kernel_rfl) (fun _ _ _ h => h) (Or.inl ⟨by rfl, ?_⟩) (by assumption) ?_
    rotate_left 1
    · (intro wy hSw; (try dsimp only at hSw); go_simp; try with_reducible rfl)
    (try simp only [Act.put])
    refine wpAnyH_take (i := 8) (oi := _) (v := ?_) rfl (by kernel_rfl) (by kernel_rfl) (by kernel_rfl) (fun _ _ _ h => h) (Or.inl ⟨by rfl, ?_⟩) (by assumption) ?_
    rotate_left 1
    · (intro wy hSw; (try dsimp only at hSw); go_simp; try with_reducible rfl)
    (try simp only [Act.put])
    refine wpAnyH_take (i := 9) (oi := _) (v := ?_) rfl (by kernel_rfl) (by kernel_rfl) (by kernel_rfl) (fun _ _ _ h => h) (Or.inl ⟨by rfl, ?_⟩) (by assumption) ?_
    rotate_left 1
    · (intro wy hSw; (try dsimp only at hSw); go_simp; try with_reducible rfl)
    (try simp only [Act.put])
    refine wpAnyH_ready (rs := [4, 10]) (by kernel_rfl) (by simp) ?_
    refine AllReadyH.cons (o := _) rfl (fun K9 hK9 => ?_) (AllReadyH.cons (o := _) rfl (fun K9 hK9 => ?_) AllReadyH.nil)
    · go_simp
      refine hK9.out _ _ (by exact fun i => ((BX _).2 i).1) (fun hHeld => ?_)
      clear hK9 K9
      (try simp only [Act.put])
      refine wpAnyH_ready (rs := [10]) (by kernel_rfl) (by simp) ?_
      refine AllReadyH.cons (o := _) rfl (fun K9 hK9 => ?_) AllReadyH.nil
      go_simp
      refine hK9.out _ _ (by exact fun i => ((BX _).2 i).1) (fun hHeld => ?_)
      clear hK9 K9
      (try simp only [Act.put])
      refine wpAnyH_ready (rs := [11]) (by kernel_rfl) (by simp) ?_
      refine AllReadyH.cons (o := _) rfl (fun K9 hK9 => ?_) AllReadyH.nil
      refine step_app2 (P := Try.prog) rfl (.tmp 47) (.tmp 53) (by rfl) StubE.enc stubT _ _ [newStub x] st.stubs (.slice sA st.stubs.length sC) (by rfl) (by rfl) (m := 1) (n := (st.stubs).length + 1) rfl rfl (ks4.later _) (blk_slAt StubE.enc (fr := (0, 0)) (e := 34) (heap_alloc_new _ _) [newStub x] rfl) (by omega) (by unfold maxLen; omega) (by simp only [heap_drew, World.size_alloc]; omega) ?_
      intro A9 c9 w9 ho9 hm9 hst9
      have hst : Step w4 w9 (.slice sA st.stubs.length sC) (.slice A9 ((st.stubs).length + 1) c9) := Step.trans (Step.of_below (below_of (b := w4))) hst9
      have hp9 := hst.keep ks4 hp4 (by decide)
      have BP9 := boxed hp9
      have hlk : ((st.stubs) ++ [newStub x]).length = (st.stubs).length + 1 := by simp
      refine hK9.out _ _ (by exact fun i => blk_cell (hst.boxed bx4 hnx4).1 i) (fun hHeld => ?_)
      clear hK9 K9
      (try simp only [Act.put])
      refine wpAnyH_take (i := 12) (oi := _) (v := ?_) rfl (by kernel_rfl) (by kernel_rfl) (by kernel_rfl) (fun _ _ _ h => h) (Or.inl ⟨by rfl, ?_⟩) (by assumption) ?_
      rotate_left 1
      · (intro wy hSw; (try dsimp only at hSw); go_simp; try with_reducible rfl)
      (try simp only [Act.put])
      refine wpAnyH_take (i := 13) (oi := _) (v := ?_) rfl (by kernel_rfl) (by kernel_rfl) (by kernel_rfl) (fun _ _ _ h => h) (Or.inl ⟨by rfl, ?_⟩) (by assumption) ?_
      rotate_left 1
      · (intro wy hSw; (try dsimp only at hSw); go_simp; try with_reducible rfl)
      (try simp only [Act.put])
      refine wpAnyH_ready (rs := [14]) (by kernel_rfl) (by simp) ?_
      refine AllReadyH.cons (o := _) rfl (fun K9 hK9 => ?_) AllReadyH.nil
      go_simp
      refine hK9.out _ _ (by exact fun i => blk_cell ((blk_far hpx.symm _).trans (hst.boxed bx4 hnx4).1) i) (fun hHeld => ?_)
      clear hK9 K9
      (try simp only [Act.put])
      refine wpAnyH_done (by kernel_rfl) ?_ _
      go_end0
      have hxx := Hx.out
      subst hxx
      refine ⟨rfl, ⟨_, _, _, _, _, ls, ⟨P.b, (blk_set hp9 0 _).trans rfl, ?_⟩⟩, (hst.below ks4 hb4 hz4).setCell P.b _⟩
      exact ((k4.stepS hst ho9).setp hp9 0 _).nums rfl rfl rfl rfl rfl
    · go_simp
      refine hK9.out _ _ (by exact fun i => ((BX _).2 i).1) (fun hHeld => ?_)
      clear hK9 K9
      (try simp only [Act.put])
      refine wpAnyH_ready (rs := [4]) (by kernel_rfl) (by simp) ?_
      refine AllReadyH.cons (o := _) rfl (fun K9 hK9 => ?_) AllReadyH.nil
      go_simp
      refine hK9.out _ _ (by exact fun i => ((BX _).2 i).1) (fun hHeld => ?_)
      clear hK9 K9
      (try simp only [Act.put])
      refine wpAnyH_ready (rs := [11]) (by kernel_rfl) (by simp) ?_
      refine AllReadyH.cons (o := _) rfl (fun K9 hK9 => ?_) AllReadyH.nil
      refine step_app2 (P := Try.prog) rfl (.tmp 47) (.tmp 53) (by rfl) StubE.enc stubT _ _ [newStub x] st.stubs (.slice sA st.stubs.length sC) (by rfl) (by rfl) (m := 1) (n := (st.stubs).length + 1) rfl rfl (ks4.later _) (blk_slAt StubE.enc (fr := (0, 0)) (e := 34) (heap_alloc_new _ _) [newStub x] rfl) (by omega) (by unfold maxLen; omega) (by simp only [heap_drew, World.size_alloc]; omega) ?_
      intro A9 c9 w9 ho9 hm9 hst9
      have hst : Step w4 w9 (.slice sA st.stubs.length sC) (.slice A9 ((st.stubs).length + 1) c9) := Step.trans (Step.of_below (below_of (b := w4))) hst9
      have hp9 := hst.keep ks4 hp4 (by decide)
      have BP9 := boxed hp9
      have hlk : ((st.stubs) ++ [newStub x]).length = (st.stubs).length + 1 := by simp
      refine hK9.out _ _ (by exact fun i => blk_cell (hst.boxed bx4 hnx4).1 i) (fun hHeld => ?_)
      clear hK9 K9
      (try simp only [Act.put])
      refine wpAnyH_take (i := 12) (oi := _) (v := ?_) rfl (by kernel_rfl) (by kernel_rfl) (by kernel_rfl) (fun _ _ _ h => h) (Or.inl ⟨by rfl, ?_⟩) (by assumption) ?_
      rotate_left 1
      · (intro wy hSw; (try dsimp only at hSw); go_simp; try with_reducible rfl)
      (try simp only [Act.put])
      refine wpAnyH_take (i := 13) (oi := _) (v := ?_) rfl (by kernel_rfl) (by kernel_rfl) (by kernel_rfl) (fun _ _ _ h => h) (Or.inl ⟨by rfl, ?_⟩) (by assumption) ?_
      rotate_left 1
      · (intro wy hSw; (try dsimp only at hSw); go_simp; try with_reducible rfl)
      (try simp only [Act.put])
      refine wpAnyH_ready (rs := [14]) (by kernel_rfl) (by simp) ?_
      refine AllReadyH.cons (o := _) rfl (fun K9 hK9 => ?_) AllReadyH.nil
      go_simp
      refine hK9.out _ _ (by exact fun i => blk_cell ((blk_far hpx.symm _).trans (hst.boxed bx4 hnx4).1) i) (fun hHeld => ?_)
      clear hK9 K9
      (try simp only [Act.put])
      refine wpAnyH_done (by kernel_rfl) ?_ _
      go_end0
      have hxx := Hx.out
      subst hxx
      refine ⟨rfl, ⟨_, _, _, _, _, ls, ⟨P.b, (blk_set hp9 0 _).trans rfl, ?_⟩⟩, (hst.below ks4 hb4 hz4).setCell P.b _⟩
      exact ((k4.stepS hst ho9).setp hp9 0 _).nums rfl rfl rfl rfl rfl
end Go.Proofs.Ythigjlllhnajbaa
