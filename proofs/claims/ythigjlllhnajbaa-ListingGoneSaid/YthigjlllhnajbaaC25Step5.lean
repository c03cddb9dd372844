/-
  Contracts of the functions of this seat that each theorem names: what a call returns, and that it writes nothing that was there before. The conditions stand in each theorem.
-/
import Derived.Test.YthigjlllhnajbaaC25Step4
namespace Go.Proofs.Ythigjlllhnajbaa
open Go.RowKit
/-! An append onto a field of the pair, in a region that draws its order: W the world ahead, OWN the slice's Own in it, v the slice, X the element, bx the block that must stay, i4 i6 i7 i10 the operations (load, buildSlice, append, store). -/
set_option maxRecDepth 100000 in
set_option maxHeartbeats 8000000 in
theorem step5_any {base p n : Nat} {sv nv cv ov lv : Value} {st : PairS} {ls : List LA} (w : World) (P : PairAt base p w sv nv cv ov lv st ls) (hb : base ≤ w.heap.size) (hn : n < 256) (hl : st.stubs.length ≤ 1000) :
    Calls Try.prog 23 #[.pointer (some ⟨p, 0, none⟩), .agg #[.int .u8 5, .int .u8 n]] w (PPost base p w (st.weaken n)) := by
  obtain ⟨sA, sC, rfl, hsc, hsm, hsS⟩ := P.k.s.slAt StubE.enc
  obtain ⟨nA, nC, rfl, hnc, hnm, hnS⟩ := P.k.n.slAt ScionE.enc
  obtain ⟨cA, cC, rfl, hcc, hcm, hcS⟩ := P.k.c.slAt ScionE.enc
  obtain ⟨oA, oC, rfl, hoc, hom, hoS⟩ := P.k.o.slAt ScionE.enc
  obtain ⟨lA, lC, rfl, hlc, hlm, hlS⟩ := P.k.l.slAt LA.enc
  have BP := boxed P.h
  have hPl := blk_lt P.h
  have hPb := P.b
  have e1 := n64 n hn
  go_enter Try.func23, Try.ntmps23
  go_upto_region 1 with fail
  refine wp_name ?_
  intro w1 hw1
  obtain ⟨B1, l1⟩ := box1 hw1
  have hb1 : Below w.heap.size w w1 := below_of
  clear hw1
  have P1 := P.below hb1
  have hp1 := P1.h
  have k1 := P1.k
  have hb01 := hb1.mono hb
  have hz1 : base ≤ w1.heap.size := Nat.le_trans hb hb1.size
  clear BP
  have BP1 := boxed hp1
  have l11 : Later w1 w1 := Later.refl
  rcases Nat.eq_zero_or_pos st.stubs.length with hz | hz
  · have hz' : decide ((0 : Int) < (st.stubs.length : Int)) = false := by simp [hz]
    have hgt : ¬ ((0 : Int) < (st.stubs.length : Int)) := by omega
    have Hd := hide (show st.weaken n = st by unfold PairS.weaken; rw [List.getElem?_eq_none (by omega)])
    go_wp2_with fail
    go_end0
    rw [Hd.out]
    exact ⟨rfl, ⟨_, _, _, _, _, ls, P1.later _⟩, (below_of (b := w)).mono hb⟩
  · obtain ⟨k, hk⟩ : ∃ k, k = n % st.stubs.length := ⟨_, rfl⟩
    have hlt : k < st.stubs.length := by rw [hk]; exact Nat.mod_lt n hz
    have e2 : (n : Int).tmod (st.stubs.length : Int) = (k : Int) := by rw [hk]; rfl
    have hnil : ¬ st.stubs = [] := fun e => by rw [e] at hlt; simp at hlt
    have e4 : IntKind.i64.wrap (k : Int) = (k : Int) := by simp [IntKind.wrap, IntKind.bits, IntKind.signed]; omega
    obtain ⟨y, hy⟩ : ∃ y, st.stubs[k]? = some y := ⟨_, List.getElem?_eq_getElem hlt⟩
    have Hy := hide hy
    have Hd := hide (show st.weaken n = { st with stubs := st.stubs.set k { y with weak := true } } by unfold PairS.weaken; rw [← hk, hy])
    obtain ⟨b2, hb2⟩ := k1.s.isSome (by intro e; rw [e] at hlt; simp at hlt)
    subst hb2
    have hne0 : ¬ ((st.stubs.length : Int) = 0) := by omega
    have hgt : (0 : Int) < (st.stubs.length : Int) := by omega
    have hki : (k : Int) < (st.stubs.length : Int) := by omega
    have hk0 : (0 : Int) ≤ (k : Int) := by omega
    have hne : (Value.slice (some ⟨b2, 0, none⟩) st.stubs.length sC).ownBlock ≠ some p := own_off k1.s hp1 (by decide)
    have hbx : w.heap.size ≠ p := by omega
    clear hk hy
    have HQ : ∀ u [Later w1 u], u.cell? ⟨b2, k * 12 + 8, none⟩ = some (.bool y.weak) := fun u i => (k1.s.below i.below).cell StubE.enc Hy.out (j := 8) rfl
    have HF : ∀ u [Later w1 u] (j : Nat), u.frozen? ⟨b2, j, none⟩ = false := fun u i j => (k1.s.below i.below).free j
    have hbp : p ≠ b2 := fun e => hne (by rw [e]; rfl)
    have hbn : base ≤ b2 := k1.s.base_le
    have hbw : b2 ≠ w.heap.size := fun e => by have := (World.ownsRow.lt P.k.s b2 rfl).2; omega
    have k9 := k1.stepS (step_set (g := b2) (i := k * 12 + 8) (u := .bool true) rfl) (k1.s.store StubE.enc Hy.out (j := 8) (x' := { y with weak := true }) (u := .bool true) (by decide) rfl)
    go_upto_region 17 with fail
    refine wp_region_held_drew (S := fun w' => (∀ i : Nat, w'.cell? ⟨p, i, none⟩ = (#[.slice (some ⟨b2, 0, none⟩) st.stubs.length sC, .slice nA st.scions.length nC, .slice cA st.toClient.length cC, .slice oA st.toOwner.length oC, .int .i64 st.sent, .int .i64 st.got, .int .i64 st.out, .int .i64 st.inn, .int .i64 st.round, .int .i64 st.applied, .int .u64 st.next, .slice lA ls.length lC] : Array Value)[i]?) ∧ (∀ i : Nat, w'.cell? ⟨w.heap.size, i, none⟩ = (#[.int .u8 5, .int .u8 n] : Array Value)[i]?)) (by kernel_rfl) ⟨fun i => ((BP1 w1).2 i).1, fun i => ((B1 w1).2 i).1⟩ (fun hHeld => ?_)
    refine wpAnyH_take (i := 0) (oi := _) (v := ?_) rfl (by kernel_rfl) (by kernel_rfl) (by kernel_rfl) (fun _ _ _ h => h) (Or.inl ⟨by rfl, ?_⟩) (by assumption) ?_
    rotate_left 1
    · (intro wy hSw; (try dsimp only at hSw); go_simp; try with_reducible rfl)
    (try simp only [Act.put])
    refine wpAnyH_take (i := 1) (oi := _) (v := ?_) rfl (by kernel_rfl) (by kernel_rfl) (by kernel_rfl) (fun _ _ _ h => h) (Or.inl ⟨by rfl, ?_⟩) (by assumption) ?_
    rotate_left 1
    · (intro wy hSw; (try dsimp only at hSw); go_simp; try with_reducible rfl)
    (try simp only [Act.put])
    refine wpAnyH_take (i := 2) (oi := _) (v := ?_) rfl (by kernel_rfl) (by kernel_rfl) (by kernel_rfl) (fun _ _ _ h => h) (Or.inl ⟨by rfl, ?_⟩) (by assumption) ?_
    rotate_left 1
    · (intro wy hSw; (try dsimp only at hSw); go_simp; try with_reducible rfl)
    (try simp only [Act.put])
    refine wpAnyH_take (i := 3) (oi := _) (v := ?_) rfl (by kernel_rfl) (by kernel_rfl) (by kernel_rfl) (fun _ _ _ h => h) (Or.inl ⟨by rfl, ?_⟩) (by assumption) ?_
    rotate_left 1
    · (intro wy hSw; (try dsimp only at hSw); go_simp; try with_reducible rfl)
    (try simp only [Act.put])
    refine wpAnyH_take (i := 4) (oi := _) (v := ?_) rfl (by kernel_rfl) (by kernel_rfl) (by kernel_rfl) (fun _ _ _ h => h) (Or.inl ⟨by rfl, ?_⟩) (by assumption) ?_
    rotate_left 1
    · (intro wy hSw; (try dsimp only at hSw); go_simp; try with_reducible rfl)
    (try simp only [Act.put])
    refine wpAnyH_take (i := 5) (oi := _) (v := ?_) rfl (by kernel_rfl) (by kernel_rfl) (by kernel_rfl) (fun _ _ _ h => h) (Or.inl ⟨by rfl, ?_⟩) (by assumption) ?_
    rotate_left 1
    · (intro wy hSw; (try dsimp only at hSw); go_simp; try with_reducible rfl)
    (try simp only [Act.put])
    refine wpAnyH_take (i := 6) (oi := _) (v := ?_) rfl (by kernel_rfl) (by kernel_rfl) (by kernel_rfl) (fun _ _ _ h => h) (Or.inl ⟨by rfl, ?_⟩) (by assumption) ?_
    rotate_left 1
    · (intro wy hSw; (try dsimp only at hSw); go_simp; try with_reducible rfl)
    (try simp only [Act.put])
    refine wpAnyH_take (i := 7) (oi := _) (v := ?_) rfl (by kernel_rfl) (by kernel_rfl) (by kernel_rfl) (fun _ _ _ h => h) (Or.inl ⟨by rfl, ?_⟩) (by assumption) ?_
    rotate_left 1
    · (intro wy hSw; (try dsimp only at hSw); go_simp; try with_reducible rfl)
    (try simp only [Act.put])
    refine wpAnyH_take (i := 8) (oi := _) (v := ?_) rfl (by kernel_rfl) (by kernel_rfl) (by kernel_rfl) (fun _ _ _ h => h) (Or.inl ⟨by rfl, ?_⟩) (by assumption) ?_
    rotate_left 1
    · (intro wy hSw; (try dsimp only at hSw); go_simp; try with_reducible rfl)
    (try simp only [Act.put])
    refine wpAnyH_take (i := 9) (oi := _) (v := ?_) rfl (by kernel_rfl) (by kernel_rfl) (by kernel_rfl) (fun _ _ _ h => h) (Or.inl ⟨by rfl, ?_⟩) (by assumption) ?_
    rotate_left 1
    · (intro wy hSw; (try dsimp only at hSw); go_simp; try with_reducible rfl)
    (try simp only [Act.put])
    refine wpAnyH_take (i := 10) (oi := _) (v := ?_) rfl (by kernel_rfl) (by kernel_rfl) (by kernel_rfl) (fun _ _ _ h => h) (Or.inl ⟨by rfl, ?_⟩) (by assumption) ?_
    rotate_left 1
    · (intro wy hSw; (try dsimp only at hSw); go_simp; try with_reducible rfl)
    (try simp only [Act.put])
    refine wpAnyH_take (i := 11) (oi := _) (v := ?_) rfl (by kernel_rfl) (by kernel_rfl) (by kernel_rfl) (fun _ _ _ h => h) (Or.inl ⟨by rfl, ?_⟩) (by assumption) ?_
    rotate_left 1
    · (intro wy hSw; (try dsimp only at hSw); go_simp; try with_reducible rfl)
    (try simp only [Act.put])
    refine wpAnyH_take (i := 12) (oi := _) (v := ?_) rfl (by kernel_rfl) (by kernel_rfl) (by kernel_rfl) (fun _ _ _ h => h) (Or.inl ⟨by rfl, ?_⟩) (by assumption) ?_
    rotate_left 1
    · (intro wy hSw; (try dsimp only at hSw); go_simp; try with_reducible rfl)
    (try simp only [Act.put])
    refine wpAnyH_take (i := 13) (oi := _) (v := ?_) rfl (by kernel_rfl) (by kernel_rfl) (by kernel_rfl) (fun _ _ _ h => h) (Or.inl ⟨by rfl, ?_⟩) (by assumption) ?_
    rotate_left 1
    · (intro wy hSw; (try dsimp only at hSw); go_simp; try with_reducible rfl)
    (try simp only [Act.put])
    refine wpAnyH_take (i := 14) (oi := _) (v := ?_) rfl (by kernel_rfl) (by kernel_rfl) (by kernel_rfl) (fun _ _ _ h => h) (Or.inl ⟨by rfl, ?_⟩) (by assumption) ?_
    rotate_left 1
    · (intro wy hSw; (try dsimp only at hSw); go_simp; try with_reducible rfl)
    (try simp only [Act.put])
    refine wpAnyH_ready (rs := [15]) (by kernel_rfl) (by simp) ?_
    refine AllReadyH.cons (o := _) rfl (fun K9 hK9 => ?_) AllReadyH.nil
    go_simp
    have hp9 := (blk_far (p := ⟨b2, k * 12 + 8, none⟩) hbp (.bool true)).trans hp1
    have bx9 := (blk_far (p := ⟨b2, k * 12 + 8, none⟩) hbw.symm (.bool true)).trans (B1 w1).1
    refine hK9.out _ _ (by exact ⟨fun i => blk_cell hp9 i, fun i => blk_cell bx9 i⟩) (fun hHeld => ?_)
    clear hK9 K9
    (try simp only [Act.put])
    refine wpAnyH_done (by kernel_rfl) ?_ _
    go_end0
    rw [Hd.out]
    refine ⟨rfl, ⟨_, _, _, _, _, ls, ⟨P.b, hp9.trans ?_, k9.below (Below.drew (Below.refl _ _))⟩⟩, (hb01.setCell (p := ⟨b2, _, none⟩) hbn _).drew⟩
    simp
end Go.Proofs.Ythigjlllhnajbaa
