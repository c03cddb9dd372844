/-
  Contracts of the functions of this seat that each theorem names: what a call returns, and that it writes nothing that was there before. The conditions stand in each theorem.
-/
import Derived.Test.YthigjlllhnajbaaC25Pair2
namespace Go.Proofs.Ythigjlllhnajbaa
open Go.RowKit
/-! An append onto a field of the pair, in a region that draws its order: W the world ahead, OWN the slice's Own in it, v the slice, X the element, bx the block that must stay, i4 i6 i7 i10 the operations (load, buildSlice, append, store). -/
attribute [local go_sem ↓] run_neq_id run_eql_id
theorem sc12 {base p b2 k n nC : Nat} {w : World} {l : List ScionE} {x : ScionE} {u : Value} (h : Own ScionE.cells 12 tSc base w (.slice (some ⟨b2, 0, none⟩) n nC) l) (hx : l[k]? = some x) (hu : w.cell? ⟨p, 1, none⟩ = some u) :
    w.cell? ⟨p, 1, none⟩ = some u ∧ w.cell? ⟨b2, k * 12, none⟩ = some (.int .i64 x.client) ∧ w.cell? ⟨b2, k * 12 + 1, none⟩ = some (.int .u64 x.number) ∧ w.cell? ⟨b2, k * 12 + 2, none⟩ = some (.int .i64 x.iDMachine) ∧ w.cell? ⟨b2, k * 12 + 3, none⟩ = some (.int .i64 x.iDSerial) ∧ w.cell? ⟨b2, k * 12 + 4, none⟩ = some (.int .i64 x.out) ∧ w.cell? ⟨b2, k * 12 + 5, none⟩ = some (.int .i64 x.inn) ∧ w.cell? ⟨b2, k * 12 + 6, none⟩ = some (.int .i64 x.distance) ∧ w.cell? ⟨b2, k * 12 + 7, none⟩ = some (.bool x.touched) ∧ w.cell? ⟨b2, k * 12 + 8, none⟩ = some (.bool x.weak) ∧ w.cell? ⟨b2, k * 12 + 9, none⟩ = some (.bool x.garbage) ∧ w.cell? ⟨b2, k * 12 + 10, none⟩ = some (.int .i64 x.lockMachine) ∧ w.cell? ⟨b2, k * 12 + 11, none⟩ = some (.int .i64 x.lockSerial) :=
  ⟨hu, h.cell ScionE.enc hx (j := 0) rfl, h.cell ScionE.enc hx (j := 1) rfl, h.cell ScionE.enc hx (j := 2) rfl, h.cell ScionE.enc hx (j := 3) rfl, h.cell ScionE.enc hx (j := 4) rfl, h.cell ScionE.enc hx (j := 5) rfl, h.cell ScionE.enc hx (j := 6) rfl, h.cell ScionE.enc hx (j := 7) rfl, h.cell ScionE.enc hx (j := 8) rfl, h.cell ScionE.enc hx (j := 9) rfl, h.cell ScionE.enc hx (j := 10) rfl, h.cell ScionE.enc hx (j := 11) rfl⟩
theorem natU3 (n : Nat) (h : n ≤ 1000000) : IntKind.u64.wrap (2 * ((n : Int) + 1) + 1) = 2 * ((n : Int) + 1) + 1 := by rw [IntKind.wrap_u64]; omega
theorem set_self {l : List ScionE} {k : Nat} {x : ScionE} (h : l[k]? = some x) : l.set k x = l := by
  apply List.ext_getElem?
  intro i
  rw [List.getElem?_set]
  obtain ⟨hk, hx⟩ := List.getElem?_eq_some_iff.1 h
  by_cases he : k = i
  · subst he; rw [if_pos rfl, if_pos hk, h]
  · rw [if_neg he]
theorem findIdx_hit {l : List ScionE} {m s : Int} {k : Nat} {x : ScionE} (hx : l[k]? = some x) (hp : scID x m s = true) (hno : ∀ (j : Nat) (y : ScionE), j < k → l[j]? = some y → scID y m s = false) : l.findIdx? (fun x => scID x m s) = some k := by
  rw [List.findIdx?_eq_some_iff_getElem]
  obtain ⟨hk, hx'⟩ := List.getElem?_eq_some_iff.1 hx
  refine ⟨hk, by rw [hx']; exact hp, fun j hj => ?_⟩
  rw [hno j _ hj (List.getElem?_eq_getElem (by omega))]; decide
theorem findIdx_miss {l : List ScionE} {m s : Int} (hno : ∀ (j : Nat) (y : ScionE), j < l.length → l[j]? = some y → scID y m s = false) : l.findIdx? (fun x => scID x m s) = none := by
  rw [List.findIdx?_eq_none_iff]
  intro x hx
  obtain ⟨j, hj⟩ := List.getElem?_of_mem hx
  rw [hno j x (List.getElem?_eq_some_iff.1 hj).1 hj]
set_option maxRecDepth 100000 in
set_option maxHeartbeats 8000000 in
theorem export_any {base p : Nat} {sv nv cv ov lv : Value} {st : PairS} {ls : List LA} (m s : Int) (w : World) (P : PairAt base p w sv nv cv ov lv st ls) (hb : base ≤ w.heap.size) (h1 : st.out ≤ 1000) (h2 : st.next ≤ 1000) (hl : st.scions.length ≤ 1000) (hlc : st.toClient.length ≤ 1000) :
    Calls Try.prog 37 #[.pointer (some ⟨p, 0, none⟩), .agg #[.int .i64 m, .int .i64 s]] w (PPost base p w (st.export m s)) := by
  obtain ⟨sA, sC, rfl, hsc, hsm, hsS⟩ := P.k.s.slAt StubE.enc
  obtain ⟨nA, nC, rfl, hnc, hnm, hnS⟩ := P.k.n.slAt ScionE.enc
  obtain ⟨cA, cC, rfl, hcc, hcm, hcS⟩ := P.k.c.slAt ScionE.enc
  obtain ⟨oA, oC, rfl, hoc, hom, hoS⟩ := P.k.o.slAt ScionE.enc
  obtain ⟨lA, lC, rfl, hlc, hlm, hlS⟩ := P.k.l.slAt LA.enc
  have BP := boxed P.h
  have hPl := blk_lt P.h
  have hPb := P.b
  have e3 := natU2 st.next (by omega)
  have e4 := natC st.next (by omega)
  have e6 := natU3 st.next (by omega)
  have e5 := natC st.out (by omega)
  go_enter Try.func37, Try.ntmps37
  go_upto_region 1 with fail
  refine wp_name ?_
  intro w1 hw1
  have bx1 : w1.heap[w.heap.size]? = some (.cells #[.int .i64 m, .int .i64 s] 31 (0, 0)) := by rw [← hw1]; exact heap_alloc_new _ _
  have l1 := later_name' hw1 (inferInstance : Later w _)
  have hb01 : Below w.heap.size w w1 := below_of
  have P1 := P.below hb01
  have hz1 : w.heap.size ≤ w1.heap.size := hb01.size
  have hpx : p ≠ w.heap.size := by omega
  clear hw1
  go_upto_region 2 with fail
  refine wp_name ?_
  intro w2 hw2
  have hp2 : w2.heap[p]? = some (.cells #[.slice sA st.stubs.length sC, .slice nA st.scions.length nC, .slice cA st.toClient.length cC, .slice oA st.toOwner.length oC, .int .i64 st.sent, .int .i64 st.got, .int .i64 ((st.out + 1 : Nat) : Int), .int .i64 st.inn, .int .i64 st.round, .int .i64 st.applied, .int .u64 st.next, .slice lA ls.length lC] tPa (0, 0)) := by rw [← hw2]; exact (blk_set P1.h 6 _).trans rfl
  have k2 : Slices base w2 (.slice sA st.stubs.length sC) (.slice nA st.scions.length nC) (.slice cA st.toClient.length cC) (.slice oA st.toOwner.length oC) (.slice lA ls.length lC) st ls := by rw [← hw2]; exact P1.k.setp P1.h 6 _
  have bx2 : w2.heap[w.heap.size]? = some (.cells #[.int .i64 m, .int .i64 s] 31 (0, 0)) := by rw [← hw2]; exact (blk_far hpx.symm _).trans bx1
  have hb2 : Below base w w2 := by rw [← hw2]; exact (hb01.mono hb).setCell P.b _
  have hz2 : w.heap.size < w2.heap.size := blk_lt bx2
  clear hw2 BP
  have BX := boxed bx2
  have BP := boxed hp2
  have hN2 : SlAt ScionE.cells 12 w2 nA st.scions := (k2.n.at_ ScionE.enc).2.2
  have HN : ∀ u [Later w2 u], SlAt ScionE.cells 12 u nA st.scions := fun u i => hN2.below i.below
  have l22 : Later w2 w2 := Later.refl
  have hl63 : st.scions.length ≤ 9223372036854775807 := by omega
  go_wp2_with fail
  go_loopw [19] (fun iv wr => ∃ k : Nat, k ≤ st.scions.length ∧ iv = .int .i64 k ∧ (∀ (j : Nat) (y : ScionE), j < k → st.scions[j]? = some y → scID y m s = false) ∧ Below w2.heap.size w2 wr) (fun iv _ => st.scions.length - (intOf iv).toNat)
  case atStart => exact ⟨0, by omega, rfl, fun j y h => absurd h (by omega), Below.refl _ _⟩
  case round =>
    obtain ⟨k, hk, rfl, hno, hbr⟩ := hrel
    have lr := later hbr
    have Hno := hide hno
    clear hno
    by_cases hlt : k < st.scions.length
    · obtain ⟨b2, o2, y, rfl, hy, C2⟩ := ScionE.get (HN wr) hlt
      have Hy := hide hy
      go_upto_region 5 with fail
      refine wp_name ?_
      intro w5 hw5
      obtain ⟨B5, l5⟩ := box1 hw5
      have hb25 : Below w2.heap.size w2 w5 := below_of
      clear hw5
      cases hid : ideq y.iDMachine y.iDSerial m s
      · have hp := hide (show scID y m s = false from hid)
        clear hy
        go_wp2_with fail
        go_roundw
        case rel => exact ⟨k + 1, by omega, by go_num, fun j z hj hs => by
          rcases Nat.lt_or_ge j k with h | h
          · exact Hno.out j z h hs
          · have : j = k := by omega
            subst this
            rw [Hy.out] at hs; injection hs with hs; subst hs; exact hp.out, below_of⟩
        case measure => simp [intOf]; omega
      · have hfi := hide (findIdx_hit hy (show scID y m s = true from hid) Hno.out)
        clear hy
        obtain ⟨gn, hgn⟩ := k2.n.isSome (by intro e; rw [e] at hlt; simp at hlt)
        cases hgn
        have k5 := k2.below hb25
        have hp5 := (hb25.block _ (blk_lt hp2)).trans hp2
        have hz5 := hb25.size
        have hb5 : Below base w w5 := hb2.trans (hb25.mono (by omega))
        have BP5 := boxed hp5
        have l55 : Later w5 w5 := Later.refl
        have hgp : b2 ≠ p := fun e => own_off k5.n hp5 (by decide) (by rw [e]; rfl)
        have HF : ∀ u [Later w5 u] (j : Nat), u.frozen? ⟨b2, j, none⟩ = false := fun u i j => (k5.n.below i.below).free j
        have HQ : ∀ u [Later w5 u], u.cell? ⟨b2, k * 12 + 4, none⟩ = some (.int .i64 y.out) := fun u i => (k5.n.below i.below).cell ScionE.enc Hy.out (j := 4) rfl
        have ks4 := fun (u : World) (i : Later w5 u) => (k5.n.below i.below).store ScionE.enc Hy.out (j := 4) (x' := { y with out := ((st.out : Int) + 1) }) (u := .int .i64 ((st.out : Int) + 1)) (by decide) rfl
        have hy4 : (st.scions.set k { y with out := ((st.out : Int) + 1) })[k]? = some { y with out := ((st.out : Int) + 1) } := by rw [List.getElem?_set]; simp [hlt]
        have HQ8 : ∀ u [Later w5 u], (u.setCell ⟨b2, k * 12 + 4, none⟩ (.int .i64 ((st.out : Int) + 1))).cell? ⟨b2, k * 12 + 8, none⟩ = some (.bool y.weak) := fun u i => (ks4 u i).cell ScionE.enc hy4 (j := 8) rfl
        have HF8 : ∀ u [Later w5 u] (j : Nat), (u.setCell ⟨b2, k * 12 + 4, none⟩ (.int .i64 ((st.out : Int) + 1))).frozen? ⟨b2, j, none⟩ = false := fun u i j => (ks4 u i).free j
        have hki : (k : Int) < (st.scions.length : Int) := by omega
        have hk0 : (0 : Int) ≤ (k : Int) := by omega
        go_upto_region 6 with fail
        refine wp_region_held_drew (S := fun w' => ∀ i : Nat, w'.cell? ⟨p, i, none⟩ = (#[.slice sA st.stubs.length sC, .slice (some ⟨b2, 0, none⟩) st.scions.length nC, .slice cA st.toClient.length cC, .slice oA st.toOwner.length oC, .int .i64 st.sent, .int .i64 st.got, .int .i64 ((st.out + 1 : Nat) : Int), .int .i64 st.inn, .int .i64 st.round, .int .i64 st.applied, .int .u64 st.next, .slice lA ls.length lC] : Array Value)[i]?) (by kernel_rfl) (fun i => ((BP5 w5).2 i).1) (fun hHeld => ?_)
        refine wpAnyH_take (i := 0) (oi := _) (v := ?_) rfl (by kernel_rfl) (by kernel_rfl) (by kernel_rfl) (fun _ _ _ h => h) (Or.inl ⟨by rfl, ?_⟩) (by assumption) ?_
        rotate_left 1
        · (intro wy hSw; (try dsimp only at hSw); go_simp; try with_reducible rfl)
        (try simp only [Act.put])
        refine wpAnyH_take (i := 1) (oi := _) (v := ?_) rfl (by kernel_rfl) (by kernel_rfl) (by kernel_rfl) (fun _ _ _ h => h) (Or.inl ⟨by rfl, ?_⟩) (by assumption) ?_
        rotate_left 1
        · (intro wy hSw; (try dsimp only at hSw); go_simp; try with_reducible rfl)
        (try simp only [Act.put])
        refine wpAnyH_take (i := 2) (oi := _) (v := ?_) rfl (by kernel_rfl) (by kernel_rfl) (by kernel_rfl) (fun _ _ _ h => h) (Or.inl ⟨by rfl, ?_⟩) (by assumption) ?_
        rotate_left 1
        · (intro wy hSw; (try dsimp only at hSw); go_simp; try with_reducible rfl)
        (try simp only [Act.put])
        refine wpAnyH_take (i := 3) (oi := _) (v := ?_) rfl (by kernel_rfl) (by kernel_rfl) (by kernel_rfl) (fun _ _ _ h => h) (Or.inl ⟨by rfl, ?_⟩) (by assumption) ?_
        rotate_left 1
        · (intro wy hSw; (try dsimp only at hSw); go_simp; try with_reducible rfl)
        (try simp only [Act.put])
        refine wpAnyH_take (i := 4) (oi := _) (v := ?_) rfl (by kernel_rfl) (by kernel_rfl) (by kernel_rfl) (fun _ _ _ h => h) (Or.inl ⟨by rfl, ?_⟩) (by assumption) ?_
        rotate_left 1
        · (intro wy hSw; (try dsimp only at hSw); go_simp; try with_reducible rfl)
        (try simp only [Act.put])
        refine wpAnyH_take (i := 5) (oi := _) (v := ?_) rfl (by kernel_rfl) (by kernel_rfl) (by kernel_rfl) (fun _ _ _ h => h) (Or.inl ⟨by rfl, ?_⟩) (by assumption) ?_
        rotate_left 1
        · (intro wy hSw; (try dsimp only at hSw); go_simp; try with_reducible rfl)
        (try simp only [Act.put])
        refine wpAnyH_take (i := 6) (oi := _) (v := ?_) rfl (by kernel_rfl) (by kernel_rfl) (by kernel_rfl) (fun _ _ _ h => h) (Or.inl ⟨by rfl, ?_⟩) (by assumption) ?_
        rotate_left 1
        · (intro wy hSw; (try dsimp only at hSw); go_simp; try with_reducible rfl)
        (try simp only [Act.put])
        refine wpAnyH_take (i := 7) (oi := _) (v := ?_) rfl (by kernel_rfl) (by kernel_rfl) (by kernel_rfl) (fun _ _ _ h => h) (Or.inl ⟨by rfl, ?_⟩) (by assumption) ?_
        rotate_left 1
        · (intro wy hSw; (try dsimp only at hSw); go_simp; try with_reducible rfl)
        (try simp only [Act.put])
        refine wpAnyH_take (i := 8) (oi := _) (v := ?_) rfl (by kernel_rfl) (by kernel_rfl) (by kernel_rfl) (fun _ _ _ h => h) (Or.inl ⟨by rfl, ?_⟩) (by assumption) ?_
        rotate_left 1
        · (intro wy hSw; (try dsimp only at hSw); go_simp; try with_reducible rfl)
        (try simp only [Act.put])
        refine wpAnyH_take (i := 9) (oi := _) (v := ?_) rfl (by kernel_rfl) (by kernel_rfl) (by kernel_rfl) (fun _ _ _ h => h) (Or.inl ⟨by rfl, ?_⟩) (by assumption) ?_
        rotate_left 1
        · (intro wy hSw; (try dsimp only at hSw); go_simp; try with_reducible rfl)
        (try simp only [Act.put])
        refine wpAnyH_take (i := 10) (oi := _) (v := ?_) rfl (by kernel_rfl) (by kernel_rfl) (by kernel_rfl) (fun _ _ _ h => h) (Or.inl ⟨by rfl, ?_⟩) (by assumption) ?_
        rotate_left 1
        · (intro wy hSw; (try dsimp only at hSw); go_simp; try with_reducible rfl)
        (try simp only [Act.put])
        refine wpAnyH_take (i := 11) (oi := _) (v := ?_) rfl (by kernel_rfl) (by kernel_rfl) (by kernel_rfl) (fun _ _ _ h => h) (Or.inl ⟨by rfl, ?_⟩) (by assumption) ?_
        rotate_left 1
        · (intro wy hSw; (try dsimp only at hSw); go_simp; try with_reducible rfl)
        (try simp only [Act.put])
        refine wpAnyH_take (i := 12) (oi := _) (v := ?_) rfl (by kernel_rfl) (by kernel_rfl) (by kernel_rfl) (fun _ _ _ h => h) (Or.inl ⟨by rfl, ?_⟩) (by assumption) ?_
        rotate_left 1
        · (intro wy hSw; (try dsimp only at hSw); go_simp; try with_reducible rfl)
        (try simp only [Act.put])
        refine wpAnyH_take (i := 13) (oi := _) (v := ?_) rfl (by kernel_rfl) (by kernel_rfl) (by kernel_rfl) (fun _ _ _ h => h) (Or.inl ⟨by rfl, ?_⟩) (by assumption) ?_
        rotate_left 1
        · (intro wy hSw; (try dsimp only at hSw); go_simp; try with_reducible rfl)
        (try simp only [Act.put])
        refine wpAnyH_take (i := 14) (oi := _) (v := ?_) rfl (by kernel_rfl) (by kernel_rfl) (by kernel_rfl) (fun _ _ _ h => h) (Or.inl ⟨by rfl, ?_⟩) (by assumption) ?_
        rotate_left 1
        · (intro wy hSw; (try dsimp only at hSw); go_simp; try with_reducible rfl)
        (try simp only [Act.put])
        refine wpAnyH_take (i := 15) (oi := _) (v := ?_) rfl (by kernel_rfl) (by kernel_rfl) (by kernel_rfl) (fun _ _ _ h => h) (Or.inl ⟨by rfl, ?_⟩) (by assumption) ?_
        rotate_left 1
        · (intro wy hSw; (try dsimp only at hSw); go_simp; try with_reducible rfl)
        (try simp only [Act.put])
        refine wpAnyH_ready (rs := [16]) (by kernel_rfl) (by simp) ?_
        refine AllReadyH.cons (o := _) rfl (fun K9 hK9 => ?_) AllReadyH.nil
        go_simp
        refine hK9.out _ _ (by (intro i; refine blk_cell (e := tPa) (fr := (0, 0)) ?_ i; refine (blk_far (p := ⟨b2, _, none⟩) (Ne.symm hgp) _).trans ?_; exact (BP5 _).1)) (fun hHeld => ?_)
        clear hK9 K9
        (try simp only [Act.put])
        refine wpAnyH_take (i := 17) (oi := _) (v := ?_) rfl (by kernel_rfl) (by kernel_rfl) (by kernel_rfl) (fun _ _ _ h => h) (Or.inl ⟨by rfl, ?_⟩) (by assumption) ?_
        rotate_left 1
        · (intro wy hSw; (try dsimp only at hSw); go_simp; try with_reducible rfl)
        (try simp only [Act.put])
        refine wpAnyH_take (i := 18) (oi := _) (v := ?_) rfl (by kernel_rfl) (by kernel_rfl) (by kernel_rfl) (fun _ _ _ h => h) (Or.inl ⟨by rfl, ?_⟩) (by assumption) ?_
        rotate_left 1
        · (intro wy hSw; (try dsimp only at hSw); go_simp; try with_reducible rfl)
        (try simp only [Act.put])
        refine wpAnyH_ready (rs := [19]) (by kernel_rfl) (by simp) ?_
        refine AllReadyH.cons (o := _) rfl (fun K9 hK9 => ?_) AllReadyH.nil
        go_simp
        refine hK9.out _ _ (by (intro i; refine blk_cell (e := tPa) (fr := (0, 0)) ?_ i; refine (blk_far (p := ⟨b2, _, none⟩) (Ne.symm hgp) _).trans ?_; refine (blk_far (p := ⟨b2, _, none⟩) (Ne.symm hgp) _).trans ?_; exact (BP5 _).1)) (fun hHeld => ?_)
        clear hK9 K9
        (try simp only [Act.put])
        refine wpAnyH_done (by kernel_rfl) ?_ _
        go_upto_region 7 with fail
        refine wp_name ?_
        intro w6 hw6
        obtain ⟨x, hx⟩ : ∃ x : ScionE, x = { y with out := ((st.out : Int) + 1), weak := false } := ⟨_, rfl⟩
        have hy6 : (st.scions.set k x)[k]? = some x := by rw [List.getElem?_set]; simp [hlt]
        have k5a := k5.stepN (step_set (g := b2) (i := k * 12 + 4) (u := .int .i64 ((st.out : Int) + 1)) rfl) (k5.n.store ScionE.enc Hy.out (j := 4) (x' := { y with out := ((st.out : Int) + 1) }) (u := .int .i64 ((st.out : Int) + 1)) (by decide) rfl)
        have k5b := k5a.stepN (step_set (g := b2) (i := k * 12 + 8) (u := .bool false) rfl) (k5a.n.store ScionE.enc hy4 (j := 8) (x' := x) (u := .bool false) (by decide) (by rw [hx]; rfl))
        rw [List.set_set] at k5b
        have hbn : base ≤ b2 := k5.n.base_le
        have k6 := k5b.below (Below.drew (Below.refl _ _))
        have hp6 : w6.heap[p]? = some (.cells #[.slice sA st.stubs.length sC, .slice (some ⟨b2, 0, none⟩) st.scions.length nC, .slice cA st.toClient.length cC, .slice oA st.toOwner.length oC, .int .i64 st.sent, .int .i64 st.got, .int .i64 ((st.out + 1 : Nat) : Int), .int .i64 st.inn, .int .i64 st.round, .int .i64 st.applied, .int .u64 st.next, .slice lA ls.length lC] tPa (0, 0)) := by
          rw [← hw6]
          exact (blk_far (p := ⟨b2, _, none⟩) (Ne.symm hgp) _).trans ((blk_far (p := ⟨b2, _, none⟩) (Ne.symm hgp) _).trans hp5)
        have hb6 : Below base w w6 := by rw [← hw6]; exact ((hb5.setCell (p := ⟨b2, _, none⟩) hbn _).setCell (p := ⟨b2, _, none⟩) hbn _).drew
        rw [hw6] at k6
        have hz6 : base ≤ w6.heap.size := Nat.le_trans hb hb6.size
        have kc6 := k6.c
        have hne6 : (Value.slice (some ⟨b2, 0, none⟩) st.scions.length nC).ownBlock ≠ some p := own_off k6.n hp6 (by decide)
        have Hexp := hide (show st.export m s = { st with out := st.out + 1, scions := st.scions.set k x, toClient := st.toClient ++ [x] } by unfold PairS.export; rw [hfi.out]; simp only [Hy.out, ScionE.sentAt, hx, Int.natCast_add, Int.cast_ofNat_Int])
        clear hw6 BX BP BP5 HQ HQ8 HF HF8 ks4 k5a k5b HN C2 B5 lr hbr hfi hx
        have BP6 := boxed hp6
        have l66 : Later w6 w6 := Later.refl
        refine wp_region_held_drew (S := fun w' => (w'.cell? ⟨p, 1, none⟩ = some (.slice (some ⟨b2, 0, none⟩) st.scions.length nC) ∧ w'.cell? ⟨b2, k * 12, none⟩ = some (.int .i64 x.client) ∧ w'.cell? ⟨b2, k * 12 + 1, none⟩ = some (.int .u64 x.number) ∧ w'.cell? ⟨b2, k * 12 + 2, none⟩ = some (.int .i64 x.iDMachine) ∧ w'.cell? ⟨b2, k * 12 + 3, none⟩ = some (.int .i64 x.iDSerial) ∧ w'.cell? ⟨b2, k * 12 + 4, none⟩ = some (.int .i64 x.out) ∧ w'.cell? ⟨b2, k * 12 + 5, none⟩ = some (.int .i64 x.inn) ∧ w'.cell? ⟨b2, k * 12 + 6, none⟩ = some (.int .i64 x.distance) ∧ w'.cell? ⟨b2, k * 12 + 7, none⟩ = some (.bool x.touched) ∧ w'.cell? ⟨b2, k * 12 + 8, none⟩ = some (.bool x.weak) ∧ w'.cell? ⟨b2, k * 12 + 9, none⟩ = some (.bool x.garbage) ∧ w'.cell? ⟨b2, k * 12 + 10, none⟩ = some (.int .i64 x.lockMachine) ∧ w'.cell? ⟨b2, k * 12 + 11, none⟩ = some (.int .i64 x.lockSerial))) (by kernel_rfl) (sc12 k6.n hy6 ((BP6 w6).2 1).1) (fun hHeld => ?_)
        refine wpAnyH_take (i := 0) (oi := _) (v := ?_) rfl (by kernel_rfl) (by kernel_rfl) (by kernel_rfl) (fun _ _ _ h => h) (Or.inl ⟨by rfl, ?_⟩) (by assumption) ?_
        rotate_left 1
        · (intro wy hSw; (try dsimp only at hSw); go_simp; try with_reducible rfl)
        (try simp only [Act.put])
        refine wpAnyH_take (i := 1) (oi := _) (v := ?_) rfl (by kernel_rfl) (by kernel_rfl) (by kernel_rfl) (fun _ _ _ h => h) (Or.inl ⟨by rfl, ?_⟩) (by assumption) ?_
        rotate_left 1
        · (intro wy hSw; (try dsimp only at hSw); go_simp; try with_reducible rfl)
        (try simp only [Act.put])
        refine wpAnyH_take (i := 2) (oi := _) (v := ?_) rfl (by kernel_rfl) (by kernel_rfl) (by kernel_rfl) (fun _ _ _ h => h) (Or.inl ⟨by rfl, ?_⟩) (by assumption) ?_
        rotate_left 1
        · (intro wy hSw; (try dsimp only at hSw); go_simp; try with_reducible rfl)
        (try simp only [Act.put])
        refine wpAnyH_take (i := 3) (oi := _) (v := ?_) rfl (by kernel_rfl) (by kernel_rfl) (by kernel_rfl) (fun _ _ _ h => h) (Or.inl ⟨by rfl, ?_⟩) (by assumption) ?_
        rotate_left 1
        · (intro wy hSw; (try dsimp only at hSw); go_simp; try with_reducible rfl)
        (try simp only [Act.put])
        refine wpAnyH_take (i := 5) (oi := _) (v := ?_) rfl (by kernel_rfl) (by kernel_rfl) (by kernel_rfl) (fun _ _ _ h => h) (Or.inl ⟨by rfl, ?_⟩) (by assumption) ?_
        rotate_left 1
        · (intro wy hSw; (try dsimp only at hSw); go_simp; try with_reducible rfl)
        (try simp only [Act.put])
        refine wpAnyH_take (i := 6) (oi := _) (v := ?_) rfl (by kernel_rfl) (by kernel_rfl) (by kernel_rfl) (fun _ _ _ h => h) (Or.inl ⟨by rfl, ?_⟩) (by assumption) ?_
        rotate_left 1
        · (intro wy hSw; (try dsimp only at hSw); go_simp; try with_reducible rfl)
        (try simp only [Act.put])
        refine wpAnyH_take (i := 7) (oi := _) (v := ?_) rfl (by kernel_rfl) (by kernel_rfl) (by kernel_rfl) (fun _ _ _ h => h) (Or.inl ⟨by rfl, ?_⟩) (by assumption) ?_
        rotate_left 1
        · (intro wy hSw; (try dsimp only at hSw); go_simp; try with_reducible rfl)
        (try simp only [Act.put])
        refine wpAnyH_take (i := 8) (oi := _) (v := ?_) rfl (by kernel_rfl) (by kernel_rfl) (by kernel_rfl) (fun _ _ _ h => h) (Or.inl ⟨by rfl, ?_⟩) (by assumption) ?_
        rotate_left 1
        · (intro wy hSw; (try dsimp only at hSw); go_simp; try with_reducible rfl)
        (try simp only [Act.put])
        refine wpAnyH_take (i := 9) (oi := _) (v := ?_) rfl (by kernel_rfl) (by kernel_rfl) (by kernel_rfl) (fun _ _ _ h => h) (Or.inl ⟨by rfl, ?_⟩) (by assumption) ?_
        rotate_left 1
        · (intro wy hSw; (try dsimp only at hSw); go_simp; try with_reducible rfl)
        (try simp only [Act.put])
        refine wpAnyH_take (i := 10) (oi := _) (v := ?_) rfl (by kernel_rfl) (by kernel_rfl) (by kernel_rfl) (fun _ _ _ h => h) (Or.inl ⟨by rfl, ?_⟩) (by assumption) ?_
        rotate_left 1
        · (intro wy hSw; (try dsimp only at hSw); go_simp; try with_reducible rfl)
        (try simp only [Act.put])
        refine wpAnyH_take (i := 11) (oi := _) (v := ?_) rfl (by kernel_rfl) (by kernel_rfl) (by kernel_rfl) (fun _ _ _ h => h) (Or.inl ⟨by rfl, ?_⟩) (by assumption) ?_
        rotate_left 1
        · (intro wy hSw; (try dsimp only at hSw); go_simp; try with_reducible rfl)
        (try simp only [Act.put])
        refine wpAnyH_ready (rs := [4, 12]) (by kernel_rfl) (by simp) ?_
        refine AllReadyH.cons (o := _) rfl (fun K9 hK9 => ?_) (AllReadyH.cons (o := _) rfl (fun K9 hK9 => ?_) AllReadyH.nil)
        · go_simp
          refine hK9.out _ _ (by exact sc12 (k6.n.later _) hy6 ((BP6 _).2 1).1) (fun hHeld => ?_)
          clear hK9 K9
          (try simp only [Act.put])
          refine wpAnyH_ready (rs := [12]) (by kernel_rfl) (by simp) ?_
          refine AllReadyH.cons (o := _) rfl (fun K9 hK9 => ?_) AllReadyH.nil
          go_simp
          refine hK9.out _ _ (by exact sc12 (k6.n.later _) hy6 ((BP6 _).2 1).1) (fun hHeld => ?_)
          clear hK9 K9
          (try simp only [Act.put])
          refine wpAnyH_ready (rs := [13]) (by kernel_rfl) (by simp) ?_
          refine AllReadyH.cons (o := _) rfl (fun K9 hK9 => ?_) AllReadyH.nil
          refine step_app2 (P := Try.prog) rfl (.tmp 50) (.tmp 58) (by rfl) ScionE.enc scionT _ _ [x] st.toClient (.slice cA st.toClient.length cC) (by rfl) (by rfl) (m := 1) (n := (st.toClient).length + 1) rfl rfl (kc6.later _) (blk_slAt ScionE.enc (fr := (0, 0)) (e := 43) (heap_alloc_new _ _) [x] rfl) (by omega) (by unfold maxLen; omega) (by simp only [heap_drew, World.size_alloc]; omega) ?_
          intro A9 c9 w9 ho9 hm9 hst9
          have hst : Step w6 w9 (.slice cA st.toClient.length cC) (.slice A9 ((st.toClient).length + 1) c9) := Step.trans (Step.of_below (below_of (b := w6))) hst9
          have hp9 := hst.keep kc6 hp6 (by decide)
          have BP9 := boxed hp9
          have hlk : ((st.toClient) ++ [x]).length = (st.toClient).length + 1 := by simp
          refine hK9.out _ _ (by exact sc12 (hst.own k6.n k6.nc.symm).1 hy6 ((blk_cell hp9 1).trans rfl)) (fun hHeld => ?_)
          clear hK9 K9
          (try simp only [Act.put])
          refine wpAnyH_take (i := 14) (oi := _) (v := ?_) rfl (by kernel_rfl) (by kernel_rfl) (by kernel_rfl) (fun _ _ _ h => h) (Or.inl ⟨by rfl, ?_⟩) (by assumption) ?_
          rotate_left 1
          · (intro wy hSw; (try dsimp only at hSw); go_simp; try with_reducible rfl)
          (try simp only [Act.put])
          refine wpAnyH_take (i := 15) (oi := _) (v := ?_) rfl (by kernel_rfl) (by kernel_rfl) (by kernel_rfl) (fun _ _ _ h => h) (Or.inl ⟨by rfl, ?_⟩) (by assumption) ?_
          rotate_left 1
          · (intro wy hSw; (try dsimp only at hSw); go_simp; try with_reducible rfl)
          (try simp only [Act.put])
          refine wpAnyH_ready (rs := [16]) (by kernel_rfl) (by simp) ?_
          refine AllReadyH.cons (o := _) rfl (fun K9 hK9 => ?_) AllReadyH.nil
          go_simp
          refine hK9.out _ _ (by exact sc12 ((hst.own k6.n k6.nc.symm).1.far (p := ⟨p, 2, none⟩) hne6 _) hy6 ((blk_cell (blk_set hp9 2 _) 1).trans rfl)) (fun hHeld => ?_)
          clear hK9 K9
          (try simp only [Act.put])
          refine wpAnyH_done (by kernel_rfl) ?_ _
          go_wp2_with fail
          refine bodyPost_ret (results_none rfl _ _ _) rfl ?_
          refine ⟨rfl, ?_, (hst.below kc6 hb6 hz6).setCell P.b _⟩
          rw [Hexp.out]
          refine ⟨_, _, _, _, _, ls, ⟨P.b, (blk_set hp9 2 _).trans rfl, ?_⟩⟩
          exact ((k6.stepC hst ho9).setp hp9 2 _).nums rfl rfl rfl rfl rfl
        · go_simp
          refine hK9.out _ _ (by exact sc12 (k6.n.later _) hy6 ((BP6 _).2 1).1) (fun hHeld => ?_)
          clear hK9 K9
          (try simp only [Act.put])
          refine wpAnyH_ready (rs := [4]) (by kernel_rfl) (by simp) ?_
          refine AllReadyH.cons (o := _) rfl (fun K9 hK9 => ?_) AllReadyH.nil
          go_simp
          refine hK9.out _ _ (by exact sc12 (k6.n.later _) hy6 ((BP6 _).2 1).1) (fun hHeld => ?_)
          clear hK9 K9
          (try simp only [Act.put])
          refine wpAnyH_ready (rs := [13]) (by kernel_rfl) (by simp) ?_
          refine AllReadyH.cons (o := _) rfl (fun K9 hK9 => ?_) AllReadyH.nil
          refine step_app2 (P := Try.prog) rfl (.tmp 50) (.tmp 58) (by rfl) ScionE.enc scionT _ _ [x] st.toClient (.slice cA st.toClient.length cC) (by rfl) (by rfl) (m := 1) (n := (st.toClient).length + 1) rfl rfl (kc6.later _) (blk_slAt ScionE.enc (fr := (0, 0)) (e := 43) (heap_alloc_new _ _) [x] rfl) (by omega) (by unfold maxLen; omega) (by simp only [heap_drew, World.size_alloc]; omega) ?_
          intro A9 c9 w9 ho9 hm9 hst9
          have hst : Step w6 w9 (.slice cA st.toClient.length cC) (.slice A9 ((st.toClient).length + 1) c9) := Step.trans (Step.of_below (below_of (b := w6))) hst9
          have hp9 := hst.keep kc6 hp6 (by decide)
          have BP9 := boxed hp9
          have hlk : ((st.toClient) ++ [x]).length = (st.toClient).length + 1 := by simp
          refine hK9.out _ _ (by exact sc12 (hst.own k6.n k6.nc.symm).1 hy6 ((blk_cell hp9 1).trans rfl)) (fun hHeld => ?_)
          clear hK9 K9
          (try simp only [Act.put])
          refine wpAnyH_take (i := 14) (oi := _) (v := ?_) rfl (by kernel_rfl) (by kernel_rfl) (by kernel_rfl) (fun _ _ _ h => h) (Or.inl ⟨by rfl, ?_⟩) (by assumption) ?_
          rotate_left 1
          · (intro wy hSw; (try dsimp only at hSw); go_simp; try with_reducible rfl)
          (try simp only [Act.put])
          refine wpAnyH_take (i := 15) (oi := _) (v := ?_) rfl (by kernel_rfl) (by kernel_rfl) (by kernel_rfl) (fun _ _ _ h => h) (Or.inl ⟨by rfl, ?_⟩) (by assumption) ?_
          rotate_left 1
          · (intro wy hSw; (try dsimp only at hSw); go_simp; try with_reducible rfl)
          (try simp only [Act.put])
          refine wpAnyH_ready (rs := [16]) (by kernel_rfl) (by simp) ?_
          refine AllReadyH.cons (o := _) rfl (fun K9 hK9 => ?_) AllReadyH.nil
          go_simp
          refine hK9.out _ _ (by exact sc12 ((hst.own k6.n k6.nc.symm).1.far (p := ⟨p, 2, none⟩) hne6 _) hy6 ((blk_cell (blk_set hp9 2 _) 1).trans rfl)) (fun hHeld => ?_)
          clear hK9 K9
          (try simp only [Act.put])
          refine wpAnyH_done (by kernel_rfl) ?_ _
          go_wp2_with fail
          refine bodyPost_ret (results_none rfl _ _ _) rfl ?_
          refine ⟨rfl, ?_, (hst.below kc6 hb6 hz6).setCell P.b _⟩
          rw [Hexp.out]
          refine ⟨_, _, _, _, _, ls, ⟨P.b, (blk_set hp9 2 _).trans rfl, ?_⟩⟩
          exact ((k6.stepC hst ho9).setp hp9 2 _).nums rfl rfl rfl rfl rfl
    · have hk' : k = st.scions.length := by omega
      subst hk'
      have hfi := findIdx_miss Hno.out
      obtain ⟨x, hx⟩ : ∃ x, x = expScion (st.next + 1) (st.out + 1) m s := ⟨_, rfl⟩
      have Hexp := hide (show st.export m s = { st with out := st.out + 1, next := st.next + 1, scions := st.scions ++ [x], toClient := st.toClient ++ [x] } by unfold PairS.export; rw [hfi, hx])
      have Hx := hide hx
      have hpr := (hbr.block _ (blk_lt hp2)).trans hp2
      have kr := k2.below hbr
      have hzr := hbr.size
      have hbb := hb2.trans (hbr.mono (by omega))
      have bxr := blk_below bx2 hbr
      clear hfi hx Hno
      go_upto_region 10 with fail
      refine wp_name ?_
      intro w3 hw3
      have hp3 : w3.heap[p]? = some (.cells #[.slice sA st.stubs.length sC, .slice nA st.scions.length nC, .slice cA st.toClient.length cC, .slice oA st.toOwner.length oC, .int .i64 st.sent, .int .i64 st.got, .int .i64 ((st.out + 1 : Nat) : Int), .int .i64 st.inn, .int .i64 st.round, .int .i64 st.applied, .int .u64 ((st.next + 1 : Nat) : Int), .slice lA ls.length lC] tPa (0, 0)) := by rw [← hw3]; exact (blk_set hpr 10 _).trans rfl
      have k3 : Slices base w3 (.slice sA st.stubs.length sC) (.slice nA st.scions.length nC) (.slice cA st.toClient.length cC) (.slice oA st.toOwner.length oC) (.slice lA ls.length lC) st ls := by rw [← hw3]; exact kr.setp hpr 10 _
      have bx3 : w3.heap[w.heap.size]? = some (.cells #[.int .i64 m, .int .i64 s] 31 (0, 0)) := by rw [← hw3]; exact (blk_far hpx.symm _).trans bxr
      have hb3 : Below base w w3 := by rw [← hw3]; exact hbb.setCell P.b _
      clear hw3 BX BP HN lr
      have BX3 := boxed bx3
      have BP3 := boxed hp3
      have l33 : Later w3 w3 := Later.refl
      go_region_held3 (fun w' => ∀ b [Later b w3], Later b w') ((intro b _; infer_instance)) (fail)
      go_upto_region 11 with fail
      refine wp_name ?_
      intro w4 hw4
      have l4 := later_name' hw4 (inferInstance : Later w3 _)
      have bx4 : w4.heap[w3.heap.size]? = some (.cells x.arr 43 (0, 0)) := by rw [Hx.out, ← hw4]; exact heap_alloc_new _ _
      have hb34 : Below w3.heap.size w3 w4 := below_of
      have hp4 := (hb34.block _ (blk_lt hp3)).trans hp3
      have k4 := k3.below hb34
      have hb4 := hb3.trans (hb34.mono (Nat.le_trans hb hb3.size))
      have hz4 : base ≤ w4.heap.size := Nat.le_trans hb hb4.size
      have hnx4 : (Value.slice nA st.scions.length nC).ownBlock ≠ some w3.heap.size := fun e => absurd (World.ownsRow.lt k3.n _ e).2 (by omega)
      have hpx4 : p ≠ w3.heap.size := by have := blk_lt hp3; omega
      have kn4 := k4.n
      clear hw4 BX3 BP3
      have BX4 := boxed bx4
      have BP4 := boxed hp4
      have l44 : Later w4 w4 := Later.refl
      refine wp_region_held_drew (S := fun w' => ∀ i : Nat, w'.cell? ⟨w3.heap.size, i, none⟩ = (x.arr)[i]?) (by kernel_rfl) (fun i => ((BX4 w4).2 i).1) (fun hHeld => ?_)
      refine wpAnyH_take (i := 0) (oi := _) (v := ?_) rfl (by kernel_rfl) (by kernel_rfl) (by kernel_rfl) (fun _ _ _ h => h) (Or.inl ⟨by rfl, ?_⟩) (by assumption) ?_
      rotate_left 1
      · (intro wy hSw; (try dsimp only at hSw); go_simp; try with_reducible rfl)
      (try simp only [Act.put])
      refine wpAnyH_take (i := 1) (oi := _) (v := ?_) rfl (by kernel_rfl) (by kernel_rfl) (by kernel_rfl) (fun _ _ _ h => h) (Or.inl ⟨by rfl, ?_⟩) (by assumption) ?_
      rotate_left 1
      · (intro wy hSw; (try dsimp only at hSw); go_simp; try with_reducible rfl)
      (try simp only [Act.put])
      refine wpAnyH_take (i := 2) (oi := _) (v := ?_) rfl (by kernel_rfl) (by kernel_rfl) (by kernel_rfl) (fun _ _ _ h => h) (Or.inl ⟨by rfl, ?_⟩) (by assumption) ?_
      rotate_left 1
      · (intro wy hSw; (try dsimp only at hSw); go_simp; try with_reducible rfl)
      (try simp only [Act.put])
      refine wpAnyH_take (i := 3) (oi := _) (v := ?_) rfl (by kernel_rfl) (by kernel_rfl) (by kernel_rfl) (fun _ _ _ h => h) (Or.inl ⟨by rfl, ?_⟩) (by assumption) ?_
      rotate_left 1
      · (intro wy hSw; (try dsimp only at hSw); go_simp; try with_reducible rfl)
      (try simp only [Act.put])
      refine wpAnyH_take (i := 5) (oi := _) (v := ?_) rfl (by kernel_rfl) (by kernel_rfl) (by kernel_rfl) (fun _ _ _ h => h) (Or.inl ⟨by rfl, ?_⟩) (by assumption) ?_
      rotate_left 1
      · (intro wy hSw; (try dsimp only at hSw); go_simp; try with_reducible rfl)
      (try simp only [Act.put])
      refine wpAnyH_ready (rs := [4, 6]) (by kernel_rfl) (by simp) ?_
      refine AllReadyH.cons (o := _) rfl (fun K9 hK9 => ?_) (AllReadyH.cons (o := _) rfl (fun K9 hK9 => ?_) AllReadyH.nil)
      · go_simp
        refine hK9.out _ _ (by exact fun i => ((BX4 _).2 i).1) (fun hHeld => ?_)
        clear hK9 K9
        (try simp only [Act.put])
        refine wpAnyH_ready (rs := [6]) (by kernel_rfl) (by simp) ?_
        refine AllReadyH.cons (o := _) rfl (fun K9 hK9 => ?_) AllReadyH.nil
        go_simp
        refine hK9.out _ _ (by exact fun i => ((BX4 _).2 i).1) (fun hHeld => ?_)
        clear hK9 K9
        (try simp only [Act.put])
        refine wpAnyH_ready (rs := [7]) (by kernel_rfl) (by simp) ?_
        refine AllReadyH.cons (o := _) rfl (fun K9 hK9 => ?_) AllReadyH.nil
        refine step_app2 (P := Try.prog) rfl (.tmp 86) (.tmp 88) (by rfl) ScionE.enc scionT _ _ [x] st.scions (.slice nA st.scions.length nC) (by rfl) (by rfl) (m := 1) (n := (st.scions).length + 1) rfl rfl (kn4.later _) (blk_slAt ScionE.enc (fr := (0, 0)) (e := 43) (heap_alloc_new _ _) [x] rfl) (by omega) (by unfold maxLen; omega) (by simp only [heap_drew, World.size_alloc]; omega) ?_
        intro A9 c9 w9 ho9 hm9 hst9
        have hst : Step w4 w9 (.slice nA st.scions.length nC) (.slice A9 ((st.scions).length + 1) c9) := Step.trans (Step.of_below (below_of (b := w4))) hst9
        have hp9 := hst.keep kn4 hp4 (by decide)
        have BP9 := boxed hp9
        have hlk : ((st.scions) ++ [x]).length = (st.scions).length + 1 := by simp
        refine hK9.out _ _ (by exact fun i => blk_cell (hst.boxed bx4 hnx4).1 i) (fun hHeld => ?_)
        clear hK9 K9
        (try simp only [Act.put])
        refine wpAnyH_take (i := 8) (oi := _) (v := ?_) rfl (by kernel_rfl) (by kernel_rfl) (by kernel_rfl) (fun _ _ _ h => h) (Or.inl ⟨by rfl, ?_⟩) (by assumption) ?_
        rotate_left 1
        · (intro wy hSw; (try dsimp only at hSw); go_simp; try with_reducible rfl)
        (try simp only [Act.put])
        refine wpAnyH_take (i := 9) (oi := _) (v := ?_) rfl (by kernel_rfl) (by kernel_rfl) (by kernel_rfl) (fun _ _ _ h => h) (Or.inl ⟨by rfl, ?_⟩) (by assumption) ?_
        rotate_left 1
        · (intro wy hSw; (try dsimp only at hSw); go_simp; try with_reducible rfl)
        (try simp only [Act.put])
        refine wpAnyH_ready (rs := [10]) (by kernel_rfl) (by simp) ?_
        refine AllReadyH.cons (o := _) rfl (fun K9 hK9 => ?_) AllReadyH.nil
        go_simp
        refine hK9.out _ _ (by exact fun i => blk_cell ((blk_far hpx4.symm _).trans (hst.boxed bx4 hnx4).1) i) (fun hHeld => ?_)
        clear hK9 K9
        (try simp only [Act.put])
        refine wpAnyH_done (by kernel_rfl) ?_ _
        go_upto_region 12 with fail
        refine wp_name ?_
        intro w5 hw5
        have hp5 : w5.heap[p]? = some (.cells #[.slice sA st.stubs.length sC, .slice A9 (st.scions.length + 1) c9, .slice cA st.toClient.length cC, .slice oA st.toOwner.length oC, .int .i64 st.sent, .int .i64 st.got, .int .i64 ((st.out + 1 : Nat) : Int), .int .i64 st.inn, .int .i64 st.round, .int .i64 st.applied, .int .u64 ((st.next + 1 : Nat) : Int), .slice lA ls.length lC] tPa (0, 0)) := by rw [← hw5]; exact (blk_set hp9 1 _).trans rfl
        have k5 := (k4.stepN hst ho9).setp hp9 1 (.slice A9 (st.scions.length + 1) c9)
        have bx5 := (blk_far (p := ⟨p, 1, none⟩) hpx4.symm (.slice A9 (st.scions.length + 1) c9)).trans (hst.boxed bx4 hnx4).1
        have hb5 := (hst.below kn4 hb4 hz4).setCell (p := ⟨p, 1, none⟩) P.b (.slice A9 (st.scions.length + 1) c9)
        rw [hw5] at k5 bx5 hb5
        have hz5 : base ≤ w5.heap.size := Nat.le_trans hb hb5.size
        have kc5 := k5.c
        have hnx5 : (Value.slice cA st.toClient.length cC).ownBlock ≠ some w3.heap.size := fun e => absurd (World.ownsRow.lt k3.c _ e).2 (by omega)
        clear hw5 BX4 BP4 BP9 hp9 ho9 hst hst9 hm9
        have BX5 := boxed bx5
        have BP5 := boxed hp5
        have l55 : Later w5 w5 := Later.refl
        refine wp_region_held_drew (S := fun w' => ∀ i : Nat, w'.cell? ⟨w3.heap.size, i, none⟩ = (x.arr)[i]?) (by kernel_rfl) (fun i => ((BX5 w5).2 i).1) (fun hHeld => ?_)
        refine wpAnyH_take (i := 0) (oi := _) (v := ?_) rfl (by kernel_rfl) (by kernel_rfl) (by kernel_rfl) (fun _ _ _ h => h) (Or.inl ⟨by rfl, ?_⟩) (by assumption) ?_
        rotate_left 1
        · (intro wy hSw; (try dsimp only at hSw); go_simp; try with_reducible rfl)
        (try simp only [Act.put])
        refine wpAnyH_take (i := 1) (oi := _) (v := ?_) rfl (by kernel_rfl) (by kernel_rfl) (by kernel_rfl) (fun _ _ _ h => h) (Or.inl ⟨by rfl, ?_⟩) (by assumption) ?_
        rotate_left 1
        · (intro wy hSw; (try dsimp only at hSw); go_simp; try with_reducible rfl)
        (try simp only [Act.put])
        refine wpAnyH_take (i := 2) (oi := _) (v := ?_) rfl (by kernel_rfl) (by kernel_rfl) (by kernel_rfl) (fun _ _ _ h => h) (Or.inl ⟨by rfl, ?_⟩) (by assumption) ?_
        rotate_left 1
        · (intro wy hSw; (try dsimp only at hSw); go_simp; try with_reducible rfl)
        (try simp only [Act.put])
        refine wpAnyH_take (i := 3) (oi := _) (v := ?_) rfl (by kernel_rfl) (by kernel_rfl) (by kernel_rfl) (fun _ _ _ h => h) (Or.inl ⟨by rfl, ?_⟩) (by assumption) ?_
        rotate_left 1
        · (intro wy hSw; (try dsimp only at hSw); go_simp; try with_reducible rfl)
        (try simp only [Act.put])
        refine wpAnyH_take (i := 5) (oi := _) (v := ?_) rfl (by kernel_rfl) (by kernel_rfl) (by kernel_rfl) (fun _ _ _ h => h) (Or.inl ⟨by rfl, ?_⟩) (by assumption) ?_
        rotate_left 1
        · (intro wy hSw; (try dsimp only at hSw); go_simp; try with_reducible rfl)
        (try simp only [Act.put])
        refine wpAnyH_ready (rs := [4, 6]) (by kernel_rfl) (by simp) ?_
        refine AllReadyH.cons (o := _) rfl (fun K9 hK9 => ?_) (AllReadyH.cons (o := _) rfl (fun K9 hK9 => ?_) AllReadyH.nil)
        · go_simp
          refine hK9.out _ _ (by exact fun i => ((BX5 _).2 i).1) (fun hHeld => ?_)
          clear hK9 K9
          (try simp only [Act.put])
          refine wpAnyH_ready (rs := [6]) (by kernel_rfl) (by simp) ?_
          refine AllReadyH.cons (o := _) rfl (fun K9 hK9 => ?_) AllReadyH.nil
          go_simp
          refine hK9.out _ _ (by exact fun i => ((BX5 _).2 i).1) (fun hHeld => ?_)
          clear hK9 K9
          (try simp only [Act.put])
          refine wpAnyH_ready (rs := [7]) (by kernel_rfl) (by simp) ?_
          refine AllReadyH.cons (o := _) rfl (fun K9 hK9 => ?_) AllReadyH.nil
          refine step_app2 (P := Try.prog) rfl (.tmp 96) (.tmp 98) (by rfl) ScionE.enc scionT _ _ [x] st.toClient (.slice cA st.toClient.length cC) (by rfl) (by rfl) (m := 1) (n := (st.toClient).length + 1) rfl rfl (kc5.later _) (blk_slAt ScionE.enc (fr := (0, 0)) (e := 43) (heap_alloc_new _ _) [x] rfl) (by omega) (by unfold maxLen; omega) (by simp only [heap_drew, World.size_alloc]; omega) ?_
          intro A9 c9 w9 ho9 hm9 hst9
          have hst : Step w5 w9 (.slice cA st.toClient.length cC) (.slice A9 ((st.toClient).length + 1) c9) := Step.trans (Step.of_below (below_of (b := w5))) hst9
          have hp9 := hst.keep kc5 hp5 (by decide)
          have BP9 := boxed hp9
          have hlk : ((st.toClient) ++ [x]).length = (st.toClient).length + 1 := by simp
          refine hK9.out _ _ (by exact fun i => blk_cell (hst.boxed bx5 hnx5).1 i) (fun hHeld => ?_)
          clear hK9 K9
          (try simp only [Act.put])
          refine wpAnyH_take (i := 8) (oi := _) (v := ?_) rfl (by kernel_rfl) (by kernel_rfl) (by kernel_rfl) (fun _ _ _ h => h) (Or.inl ⟨by rfl, ?_⟩) (by assumption) ?_
          rotate_left 1
          · (intro wy hSw; (try dsimp only at hSw); go_simp; try with_reducible rfl)
          (try simp only [Act.put])
          refine wpAnyH_take (i := 9) (oi := _) (v := ?_) rfl (by kernel_rfl) (by kernel_rfl) (by kernel_rfl) (fun _ _ _ h => h) (Or.inl ⟨by rfl, ?_⟩) (by assumption) ?_
          rotate_left 1
          · (intro wy hSw; (try dsimp only at hSw); go_simp; try with_reducible rfl)
          (try simp only [Act.put])
          refine wpAnyH_ready (rs := [10]) (by kernel_rfl) (by simp) ?_
          refine AllReadyH.cons (o := _) rfl (fun K9 hK9 => ?_) AllReadyH.nil
          go_simp
          refine hK9.out _ _ (by exact fun i => blk_cell ((blk_far hpx4.symm _).trans (hst.boxed bx5 hnx5).1) i) (fun hHeld => ?_)
          clear hK9 K9
          (try simp only [Act.put])
          refine wpAnyH_done (by kernel_rfl) ?_ _
          go_end0
          refine ⟨rfl, ?_, (hst.below kc5 hb5 hz5).setCell P.b _⟩
          rw [Hexp.out]
          refine ⟨_, _, _, _, _, ls, ⟨P.b, (blk_set hp9 2 _).trans rfl, ?_⟩⟩
          exact ((k5.stepC hst ho9).setp hp9 2 _).nums rfl rfl rfl rfl rfl
        · go_simp
          refine hK9.out _ _ (by exact fun i => ((BX5 _).2 i).1) (fun hHeld => ?_)
          clear hK9 K9
          (try simp only [Act.put])
          refine wpAnyH_ready (rs := [4]) (by kernel_rfl) (by simp) ?_
          refine AllReadyH.cons (o := _) rfl (fun K9 hK9 => ?_) AllReadyH.nil
          go_simp
          refine hK9.out _ _ (by exact fun i => ((BX5 _).2 i).1) (fun hHeld => ?_)
          clear hK9 K9
          (try simp only [Act.put])
          refine wpAnyH_ready (rs := [7]) (by kernel_rfl) (by simp) ?_
          refine AllReadyH.cons (o := _) rfl (fun K9 hK9 => ?_) AllReadyH.nil
          refine step_app2 (P := Try.prog) rfl (.tmp 96) (.tmp 98) (by rfl) ScionE.enc scionT _ _ [x] st.toClient (.slice cA st.toClient.length cC) (by rfl) (by rfl) (m := 1) (n := (st.toClient).length + 1) rfl rfl (kc5.later _) (blk_slAt ScionE.enc (fr := (0, 0)) (e := 43) (heap_alloc_new _ _) [x] rfl) (by omega) (by unfold maxLen; omega) (by simp only [heap_drew, World.size_alloc]; omega) ?_
          intro A9 c9 w9 ho9 hm9 hst9
          have hst : Step w5 w9 (.slice cA st.toClient.length cC) (.slice A9 ((st.toClient).length + 1) c9) := Step.trans (Step.of_below (below_of (b := w5))) hst9
          have hp9 := hst.keep kc5 hp5 (by decide)
          have BP9 := boxed hp9
          have hlk : ((st.toClient) ++ [x]).length = (st.toClient).length + 1 := by simp
          refine hK9.out _ _ (by exact fun i => blk_cell (hst.boxed bx5 hnx5).1 i) (fun hHeld => ?_)
          clear hK9 K9
          (try simp only [Act.put])
          refine wpAnyH_take (i := 8) (oi := _) (v := ?_) rfl (by kernel_rfl) (by kernel_rfl) (by kernel_rfl) (fun _ _ _ h => h) (Or.inl ⟨by rfl, ?_⟩) (by assumption) ?_
          rotate_left 1
          · (intro wy hSw; (try dsimp only at hSw); go_simp; try with_reducible rfl)
          (try simp only [Act.put])
          refine wpAnyH_take (i := 9) (oi := _) (v := ?_) rfl (by kernel_rfl) (by kernel_rfl) (by kernel_rfl) (fun _ _ _ h => h) (Or.inl ⟨by rfl, ?_⟩) (by assumption) ?_
          rotate_left 1
          · (intro wy hSw; (try dsimp only at hSw); go_simp; try with_reducible rfl)
          (try simp only [Act.put])
          refine wpAnyH_ready (rs := [10]) (by kernel_rfl) (by simp) ?_
          refine AllReadyH.cons (o := _) rfl (fun K9 hK9 => ?_) AllReadyH.nil
          go_simp
          refine hK9.out _ _ (by exact fun i => blk_cell ((blk_far hpx4.symm _).trans (hst.boxed bx5 hnx5).1) i) (fun hHeld => ?_)
          clear hK9 K9
          (try simp only [Act.put])
          refine wpAnyH_done (by kernel_rfl) ?_ _
          go_end0
          refine ⟨rfl, ?_, (hst.below kc5 hb5 hz5).setCell P.b _⟩
          rw [Hexp.out]
          refine ⟨_, _, _, _, _, ls, ⟨P.b, (blk_set hp9 2 _).trans rfl, ?_⟩⟩
          exact ((k5.stepC hst ho9).setp hp9 2 _).nums rfl rfl rfl rfl rfl
      · go_simp
        refine hK9.out _ _ (by exact fun i => ((BX4 _).2 i).1) (fun hHeld => ?_)
        clear hK9 K9
        (try simp only [Act.put])
        refine wpAnyH_ready (rs := [4]) (by kernel_rfl) (by simp) ?_
        refine AllReadyH.cons (o := _) rfl (fun K9 hK9 => ?_) AllReadyH.nil
        go_simp
        refine hK9.out _ _ (by exact fun i => ((BX4 _).2 i).1) (fun hHeld => ?_)
        clear hK9 K9
        (try simp only [Act.put])
        refine wpAnyH_ready (rs := [7]) (by kernel_rfl) (by simp) ?_
        refine AllReadyH.cons (o := _) rfl (fun K9 hK9 => ?_) AllReadyH.nil
        refine step_app2 (P := Try.prog) rfl (.tmp 86) (.tmp 88) (by rfl) ScionE.enc scionT _ _ [x] st.scions (.slice nA st.scions.length nC) (by rfl) (by rfl) (m := 1) (n := (st.scions).length + 1) rfl rfl (kn4.later _) (blk_slAt ScionE.enc (fr := (0, 0)) (e := 43) (heap_alloc_new _ _) [x] rfl) (by omega) (by unfold maxLen; omega) (by simp only [heap_drew, World.size_alloc]; omega) ?_
        intro A9 c9 w9 ho9 hm9 hst9
        have hst : Step w4 w9 (.slice nA st.scions.length nC) (.slice A9 ((st.scions).length + 1) c9) := Step.trans (Step.of_below (below_of (b := w4))) hst9
        have hp9 := hst.keep kn4 hp4 (by decide)
        have BP9 := boxed hp9
        have hlk : ((st.scions) ++ [x]).length = (st.scions).length + 1 := by simp
        refine hK9.out _ _ (by exact fun i => blk_cell (hst.boxed bx4 hnx4).1 i) (fun hHeld => ?_)
        clear hK9 K9
        (try simp only [Act.put])
        refine wpAnyH_take (i := 8) (oi := _) (v := ?_) rfl (by kernel_rfl) (by kernel_rfl) (by kernel_rfl) (fun _ _ _ h => h) (Or.inl ⟨by rfl, ?_⟩) (by assumption) ?_
        rotate_left 1
        · (intro wy hSw; (try dsimp only at hSw); go_simp; try with_reducible rfl)
        (try simp only [Act.put])
        refine wpAnyH_take (i := 9) (oi := _) (v := ?_) rfl (by kernel_rfl) (by kernel_rfl) (by kernel_rfl) (fun _ _ _ h => h) (Or.inl ⟨by rfl, ?_⟩) (by assumption) ?_
        rotate_left 1
        · (intro wy hSw; (try dsimp only at hSw); go_simp; try with_reducible rfl)
        (try simp only [Act.put])
        refine wpAnyH_ready (rs := [10]) (by kernel_rfl) (by simp) ?_
        refine AllReadyH.cons (o := _) rfl (fun K9 hK9 => ?_) AllReadyH.nil
        go_simp
        refine hK9.out _ _ (by exact fun i => blk_cell ((blk_far hpx4.symm _).trans (hst.boxed bx4 hnx4).1) i) (fun hHeld => ?_)
        clear hK9 K9
        (try simp only [Act.put])
        refine wpAnyH_done (by kernel_rfl) ?_ _
        go_upto_region 12 with fail
        refine wp_name ?_
        intro w5 hw5
        have hp5 : w5.heap[p]? = some (.cells #[.slice sA st.stubs.length sC, .slice A9 (st.scions.length + 1) c9, .slice cA st.toClient.length cC, .slice oA st.toOwner.length oC, .int .i64 st.sent, .int .i64 st.got, .int .i64 ((st.out + 1 : Nat) : Int), .int .i64 st.inn, .int .i64 st.round, .int .i64 st.applied, .int .u64 ((st.next + 1 : Nat) : Int), .slice lA ls.length lC] tPa (0, 0)) := by rw [← hw5]; exact (blk_set hp9 1 _).trans rfl
        have k5 := (k4.stepN hst ho9).setp hp9 1 (.slice A9 (st.scions.length + 1) c9)
        have bx5 := (blk_far (p := ⟨p, 1, none⟩) hpx4.symm (.slice A9 (st.scions.length + 1) c9)).trans (hst.boxed bx4 hnx4).1
        have hb5 := (hst.below kn4 hb4 hz4).setCell (p := ⟨p, 1, none⟩) P.b (.slice A9 (st.scions.length + 1) c9)
        rw [hw5] at k5 bx5 hb5
        have hz5 : base ≤ w5.heap.size := Nat.le_trans hb hb5.size
        have kc5 := k5.c
        have hnx5 : (Value.slice cA st.toClient.length cC).ownBlock ≠ some w3.heap.size := fun e => absurd (World.ownsRow.lt k3.c _ e).2 (by omega)
        clear hw5 BX4 BP4 BP9 hp9 ho9 hst hst9 hm9
        have BX5 := boxed bx5
        have BP5 := boxed hp5
        have l55 : Later w5 w5 := Later.refl
        refine wp_region_held_drew (S := fun w' => ∀ i : Nat, w'.cell? ⟨w3.heap.size, i, none⟩ = (x.arr)[i]?) (by kernel_rfl) (fun i => ((BX5 w5).2 i).1) (fun hHeld => ?_)
        refine wpAnyH_take (i := 0) (oi := _) (v := ?_) rfl (by kernel_rfl) (by kernel_rfl) (by kernel_rfl) (fun _ _ _ h => h) (Or.inl ⟨by rfl, ?_⟩) (by assumption) ?_
        rotate_left 1
        · (intro wy hSw; (try dsimp only at hSw); go_simp; try with_reducible rfl)
        (try simp only [Act.put])
        refine wpAnyH_take (i := 1) (oi := _) (v := ?_) rfl (by kernel_rfl) (by kernel_rfl) (by kernel_rfl) (fun _ _ _ h => h) (Or.inl ⟨by rfl, ?_⟩) (by assumption) ?_
        rotate_left 1
        · (intro wy hSw; (try dsimp only at hSw); go_simp; try with_reducible rfl)
        (try simp only [Act.put])
        refine wpAnyH_take (i := 2) (oi := _) (v := ?_) rfl (by kernel_rfl) (by kernel_rfl) (by kernel_rfl) (fun _ _ _ h => h) (Or.inl ⟨by rfl, ?_⟩) (by assumption) ?_
        rotate_left 1
        · (intro wy hSw; (try dsimp only at hSw); go_simp; try with_reducible rfl)
        (try simp only [Act.put])
        refine wpAnyH_take (i := 3) (oi := _) (v := ?_) rfl (by kernel_rfl) (by kernel_rfl) (by kernel_rfl) (fun _ _ _ h => h) (Or.inl ⟨by rfl, ?_⟩) (by assumption) ?_
        rotate_left 1
        · (intro wy hSw; (try dsimp only at hSw); go_simp; try with_reducible rfl)
        (try simp only [Act.put])
        refine wpAnyH_take (i := 5) (oi := _) (v := ?_) rfl (by kernel_rfl) (by kernel_rfl) (by kernel_rfl) (fun _ _ _ h => h) (Or.inl ⟨by rfl, ?_⟩) (by assumption) ?_
        rotate_left 1
        · (intro wy hSw; (try dsimp only at hSw); go_simp; try with_reducible rfl)
        (try simp only [Act.put])
        refine wpAnyH_ready (rs := [4, 6]) (by kernel_rfl) (by simp) ?_
        refine AllReadyH.cons (o := _) rfl (fun K9 hK9 => ?_) (AllReadyH.cons (o := _) rfl (fun K9 hK9 => ?_) AllReadyH.nil)
        · go_simp
          refine hK9.out _ _ (by exact fun i => ((BX5 _).2 i).1) (fun hHeld => ?_)
          clear hK9 K9
          (try simp only [Act.put])
          refine wpAnyH_ready (rs := [6]) (by kernel_rfl) (by simp) ?_
          refine AllReadyH.cons (o := _) rfl (fun K9 hK9 => ?_) AllReadyH.nil
          go_simp
          refine hK9.out _ _ (by exact fun i => ((BX5 _).2 i).1) (fun hHeld => ?_)
          clear hK9 K9
          (try simp only [Act.put])
          refine wpAnyH_ready (rs := [7]) (by kernel_rfl) (by simp) ?_
          refine AllReadyH.cons (o := _) rfl (fun K9 hK9 => ?_) AllReadyH.nil
          refine step_app2 (P := Try.prog) rfl (.tmp 96) (.tmp 98) (by rfl) ScionE.enc scionT _ _ [x] st.toClient (.slice cA st.toClient.length cC) (by rfl) (by rfl) (m := 1) (n := (st.toClient).length + 1) rfl rfl (kc5.later _) (blk_slAt ScionE.enc (fr := (0, 0)) (e := 43) (heap_alloc_new _ _) [x] rfl) (by omega) (by unfold maxLen; omega) (by simp only [heap_drew, World.size_alloc]; omega) ?_
          intro A9 c9 w9 ho9 hm9 hst9
          have hst : Step w5 w9 (.slice cA st.toClient.length cC) (.slice A9 ((st.toClient).length + 1) c9) := Step.trans (Step.of_below (below_of (b := w5))) hst9
          have hp9 := hst.keep kc5 hp5 (by decide)
          have BP9 := boxed hp9
          have hlk : ((st.toClient) ++ [x]).length = (st.toClient).length + 1 := by simp
          refine hK9.out _ _ (by exact fun i => blk_cell (hst.boxed bx5 hnx5).1 i) (fun hHeld => ?_)
          clear hK9 K9
          (try simp only [Act.put])
          refine wpAnyH_take (i := 8) (oi := _) (v := ?_) rfl (by kernel_rfl) (by kernel_rfl) (by kernel_rfl) (fun _ _ _ h => h) (Or.inl ⟨by rfl, ?_⟩) (by assumption) ?_
          rotate_left 1
          · (intro wy hSw; (try dsimp only at hSw); go_simp; try with_reducible rfl)
          (try simp only [Act.put])
          refine wpAnyH_take (i := 9) (oi := _) (v := ?_) rfl (by kernel_rfl) (by kernel_rfl) (by kernel_rfl) (fun _ _ _ h => h) (Or.inl ⟨by rfl, ?_⟩) (by assumption) ?_
          rotate_left 1
          · (intro wy hSw; (try dsimp only at hSw); go_simp; try with_reducible rfl)
          (try simp only [Act.put])
          refine wpAnyH_ready (rs := [10]) (by kernel_rfl) (by simp) ?_
          refine AllReadyH.cons (o := _) rfl (fun K9 hK9 => ?_) AllReadyH.nil
          go_simp
          refine hK9.out _ _ (by exact fun i => blk_cell ((blk_far hpx4.symm _).trans (hst.boxed bx5 hnx5).1) i) (fun hHeld => ?_)
          clear hK9 K9
          (try simp only [Act.put])
          refine wpAnyH_done (by kernel_rfl) ?_ _
          go_end0
          refine ⟨rfl, ?_, (hst.below kc5 hb5 hz5).setCell P.b _⟩
          rw [Hexp.out]
          refine ⟨_, _, _, _, _, ls, ⟨P.b, (blk_set hp9 2 _).trans rfl, ?_⟩⟩
          exact ((k5.stepC hst ho9).setp hp9 2 _).nums rfl rfl rfl rfl rfl
        · go_simp
          refine hK9.out _ _ (by exact fun i => ((BX5 _).2 i).1) (fun hHeld => ?_)
          clear hK9 K9
          (try simp only [Act.put])
          refine wpAnyH_ready (rs := [4]) (by kernel_rfl) (by simp) ?_
          refine AllReadyH.cons (o := _) rfl (fun K9 hK9 => ?_) AllReadyH.nil
          go_simp
          refine hK9.out _ _ (by exact fun i => ((BX5 _).2 i).1) (fun hHeld => ?_)
          clear hK9 K9
          (try simp only [Act.put])
          refine wpAnyH_ready (rs := [7]) (by kernel_rfl) (by simp) ?_
          refine AllReadyH.cons (o := _) rfl (fun K9 hK9 => ?_) AllReadyH.nil
          refine step_app2 (P := Try.prog) rfl (.tmp 96) (.tmp 98) (by rfl) ScionE.enc scionT _ _ [x] st.toClient (.slice cA st.toClient.length cC) (by rfl) (by rfl) (m := 1) (n := (st.toClient).length + 1) rfl rfl (kc5.later _) (blk_slAt ScionE.enc (fr := (0, 0)) (e := 43) (heap_alloc_new _ _) [x] rfl) (by omega) (by unfold maxLen; omega) (by simp only [heap_drew, World.size_alloc]; omega) ?_
          intro A9 c9 w9 ho9 hm9 hst9
          have hst : Step w5 w9 (.slice cA st.toClient.length cC) (.slice A9 ((st.toClient).length + 1) c9) := Step.trans (Step.of_below (below_of (b := w5))) hst9
          have hp9 := hst.keep kc5 hp5 (by decide)
          have BP9 := boxed hp9
          have hlk : ((st.toClient) ++ [x]).length = (st.toClient).length + 1 := by simp
          refine hK9.out _ _ (by exact fun i => blk_cell (hst.boxed bx5 hnx5).1 i) (fun hHeld => ?_)
          clear hK9 K9
          (try simp only [Act.put])
          refine wpAnyH_take (i := 8) (oi := _) (v := ?_) rfl (by kernel_rfl) (by kernel_rfl) (by kernel_rfl) (fun _ _ _ h => h) (Or.inl ⟨by rfl, ?_⟩) (by assumption) ?_
          rotate_left 1
          · (intro wy hSw; (try dsimp only at hSw); go_simp; try with_reducible rfl)
          (try simp only [Act.put])
          refine wpAnyH_take (i := 9) (oi := _) (v := ?_) rfl (by kernel_rfl) (by kernel_rfl) (by kernel_rfl) (fun _ _ _ h => h) (Or.inl ⟨by rfl, ?_⟩) (by assumption) ?_
          rotate_left 1
          · (intro wy hSw; (try dsimp only at hSw); go_simp; try with_reducible rfl)
          (try simp only [Act.put])
          refine wpAnyH_ready (rs := [10]) (by kernel_rfl) (by simp) ?_
          refine AllReadyH.cons (o := _) rfl (fun K9 hK9 => ?_) AllReadyH.nil
          go_simp
          refine hK9.out _ _ (by exact fun i => blk_cell ((blk_far hpx4.symm _).trans (hst.boxed bx5 hnx5).1) i) (fun hHeld => ?_)
          clear hK9 K9
          (try simp only [Act.put])
          refine wpAnyH_done (by kernel_rfl) ?_ _
          go_end0
          refine ⟨rfl, ?_, (hst.below kc5 hb5 hz5).setCell P.b _⟩
          rw [Hexp.out]
          refine ⟨_, _, _, _, _, ls, ⟨P.b, (blk_set hp9 2 _).trans rfl, ?_⟩⟩
          exact ((k5.stepC hst ho9).setp hp9 2 _).nums rfl rfl rfl rfl rfl
end Go.Proofs.Ythigjlllhnajbaa
