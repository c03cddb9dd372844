/-
  Contracts of the functions of this seat that each theorem names: what a call returns, and that it writes nothing that was there before. The conditions stand in each theorem.
-/
import Derived.Test.YtgddapgdeaeggaaC23Ref6
import Derived.Test.YtgddapgdeaeggaaC23Ref7
namespace Go.Proofs.Ytgddapgdeaeggaa
open Go.RowKit
set_option maxRecDepth 100000 in
set_option maxHeartbeats 8000000 in
theorem model_any (A : Option Addr) (C : Nat) (xs : List StubE) (c : CallE) (w : World) (hs : SlAt StubE.cells 12 w A xs) (hl : xs.length ≤ 1000000) (hc : xs.length ≤ C) (hm : C ≤ maxLen) : Calls Try.prog 13 #[.slice A xs.length C, c.v] w (ModPost w (modelR xs c) (modelErr xs c)) := by
  have HS : ∀ u [Later w u], SlAt StubE.cells 12 u A xs := fun u i => hs.below i.below
  have HA : ∀ u [Later w u], Calls Try.prog 35 #[.slice A xs.length C, c.ent.v] u (ModPost u (addR xs c.ent) (addErrR xs c.ent)) := fun u i => refAdd_any A C xs c.ent u (HS u) hl hc hm
  have HP : ∀ u [Later w u], Calls Try.prog 36 #[.slice A xs.length C, c.ent.v] u (ModPost u (putR xs c.ent) (putErrR xs c.ent)) := fun u i => refPut_any A C xs c.ent u (HS u) hl hc hm
  have HU : ∀ u [Later w u], Calls Try.prog 37 #[.slice A xs.length C, .int .i64 c.eOwner, .int .u64 c.eNumber, .int .i64 c.n] u (ModPost u (useR c.n xs (keyE c.ent)) (useErrR c.n xs (keyE c.ent))) := fun u i => refUse_any A C xs (keyE c.ent) c.n u (HS u) hl hc hm
  have HT : ∀ u [Later w u], Calls Try.prog 38 #[.slice A xs.length C, .int .i64 c.eOwner, .int .u64 c.eNumber] u (ModPost u (chR touchE xs (keyE c.ent)) (chErrR xs (keyE c.ent))) := fun u i => refTouch_any A C xs (keyE c.ent) u (HS u) hl hc hm
  have HR : ∀ u [Later w u], Calls Try.prog 39 #[.slice A xs.length C, .int .i64 c.eOwner, .int .u64 c.eNumber] u (ModPost u (rmvR xs (keyE c.ent)) (chErrR xs (keyE c.ent))) := fun u i => refRemove_any A C xs (keyE c.ent) u (HS u) hl hc hm
  by_cases k0 : c.kind = 0
  · have He := hide (show modelErr xs c = addErrR xs c.ent by unfold modelErr; simp [*])
    have Hs := hide (show modelR xs c = addR xs c.ent by unfold modelR; simp [*])
    go_enter Try.func13, Try.ntmps13
    go_upto_region 1 with fail
    refine wp_name ?_
    intro w0 hw0
    obtain ⟨B0, l0⟩ := box1 hw0
    clear hw0
    go_wp2_with (go_at_call 35; refine (HA _).mono ?_; rintro r w1 ⟨q, A', c', hq, rfl, hc', hm', hs1, hb1⟩; have l1 := later hb1)
    refine bodyPost_ret (v := .tuple #[.slice A' q.length c', .int .i64 (addErrR xs c.ent)]) (by simp [results, Try.results13, go_sem]) rfl ?_
    exact ⟨q, A', c', hide (hq.out.trans Hs.out.symm), by rw [He.out], hc', hm', hs1.later _, below_of⟩
  by_cases k1 : c.kind = 1
  · have He := hide (show modelErr xs c = putErrR xs c.ent by unfold modelErr; simp [*])
    have Hs := hide (show modelR xs c = putR xs c.ent by unfold modelR; simp [*])
    go_enter Try.func13, Try.ntmps13
    go_upto_region 1 with fail
    refine wp_name ?_
    intro w0 hw0
    obtain ⟨B0, l0⟩ := box1 hw0
    clear hw0
    go_wp2_with (go_at_call 36; refine (HP _).mono ?_; rintro r w1 ⟨q, A', c', hq, rfl, hc', hm', hs1, hb1⟩; have l1 := later hb1)
    refine bodyPost_ret (v := .tuple #[.slice A' q.length c', .int .i64 (putErrR xs c.ent)]) (by simp [results, Try.results13, go_sem]) rfl ?_
    exact ⟨q, A', c', hide (hq.out.trans Hs.out.symm), by rw [He.out], hc', hm', hs1.later _, below_of⟩
  by_cases k2 : c.kind = 2
  · have He := hide (show modelErr xs c = useErrR c.n xs (keyE c.ent) by unfold modelErr; simp [*])
    have Hs := hide (show modelR xs c = useR c.n xs (keyE c.ent) by unfold modelR; simp [*])
    go_enter Try.func13, Try.ntmps13
    go_upto_region 1 with fail
    refine wp_name ?_
    intro w0 hw0
    obtain ⟨B0, l0⟩ := box1 hw0
    clear hw0
    go_wp2_with (go_at_call 37; refine (HU _).mono ?_; rintro r w1 ⟨q, A', c', hq, rfl, hc', hm', hs1, hb1⟩; have l1 := later hb1)
    refine bodyPost_ret (v := .tuple #[.slice A' q.length c', .int .i64 (useErrR c.n xs (keyE c.ent))]) (by simp [results, Try.results13, go_sem]) rfl ?_
    exact ⟨q, A', c', hide (hq.out.trans Hs.out.symm), by rw [He.out], hc', hm', hs1.later _, below_of⟩
  by_cases k3 : c.kind = 3
  · have He := hide (show modelErr xs c = chErrR xs (keyE c.ent) by unfold modelErr; simp [*])
    have Hs := hide (show modelR xs c = chR touchE xs (keyE c.ent) by unfold modelR; simp [*])
    go_enter Try.func13, Try.ntmps13
    go_upto_region 1 with fail
    refine wp_name ?_
    intro w0 hw0
    obtain ⟨B0, l0⟩ := box1 hw0
    clear hw0
    go_wp2_with (go_at_call 38; refine (HT _).mono ?_; rintro r w1 ⟨q, A', c', hq, rfl, hc', hm', hs1, hb1⟩; have l1 := later hb1)
    refine bodyPost_ret (v := .tuple #[.slice A' q.length c', .int .i64 (chErrR xs (keyE c.ent))]) (by simp [results, Try.results13, go_sem]) rfl ?_
    exact ⟨q, A', c', hide (hq.out.trans Hs.out.symm), by rw [He.out], hc', hm', hs1.later _, below_of⟩
  by_cases k4 : c.kind = 4
  · have He := hide (show modelErr xs c = chErrR xs (keyE c.ent) by unfold modelErr; simp [*])
    have Hs := hide (show modelR xs c = rmvR xs (keyE c.ent) by unfold modelR; simp [*])
    go_enter Try.func13, Try.ntmps13
    go_upto_region 1 with fail
    refine wp_name ?_
    intro w0 hw0
    obtain ⟨B0, l0⟩ := box1 hw0
    clear hw0
    go_wp2_with (go_at_call 39; refine (HR _).mono ?_; rintro r w1 ⟨q, A', c', hq, rfl, hc', hm', hs1, hb1⟩; have l1 := later hb1)
    refine bodyPost_ret (v := .tuple #[.slice A' q.length c', .int .i64 (chErrR xs (keyE c.ent))]) (by simp [results, Try.results13, go_sem]) rfl ?_
    exact ⟨q, A', c', hide (hq.out.trans Hs.out.symm), by rw [He.out], hc', hm', hs1.later _, below_of⟩
  by_cases k5 : c.kind = 5
  · have He := hide (show modelErr xs c = 0 by unfold modelErr; simp [*])
    have Hs := hide (show modelR xs c = xs.map clearE by unfold modelR; simp [*])
    go_enter Try.func13, Try.ntmps13
    go_upto_region 1 with fail
    refine wp_name ?_
    intro w0 hw0
    obtain ⟨B0, l0⟩ := box1 hw0
    clear hw0
    go_wp2_with (go_at_call 40; refine (refClear_any A C xs _ (HS _) hl).mono ?_; rintro r w1 ⟨q, A', c', hq, rfl, hc', hm', hs1, hb1⟩; have l1 := later hb1)
    refine bodyPost_ret (v := .tuple #[.slice A' q.length c', .int .i64 (0)]) (by simp [results, Try.results13, go_sem]) rfl ?_
    exact ⟨q, A', c', hide (hq.out.trans Hs.out.symm), by rw [He.out], hc', hm', hs1.later _, below_of⟩
  · have He := hide (show modelErr xs c = 0 by unfold modelErr; simp [*])
    have Hs := hide (show modelR xs c = xs by unfold modelR; simp [*])
    go_enter Try.func13, Try.ntmps13
    go_upto_region 1 with fail
    refine wp_name ?_
    intro w0 hw0
    obtain ⟨B0, l0⟩ := box1 hw0
    clear hw0
    go_wp2_with fail
    refine bodyPost_ret (v := .tuple #[.slice A xs.length C, .int .i64 0]) (by simp [results, Try.results13, go_sem]) rfl ?_
    exact ⟨xs, A, C, hide Hs.out.symm, by rw [He.out], hc, hm, HS _, below_of⟩
theorem slAt_gro {α : Type} {f : α → List Value} {s g : Nat} (he : Enc f s) {w w' : World} {A : Option Addr} {l : List α} (h : SlAt f s w A l) {es : Array MapEntry} {c : Nat} (hg : w.heap[g]? = some (.map es c)) (hw : w.grownBy w' (some g)) : SlAt f s w' A l := fun hl => by
  obtain ⟨b, off, e, hlt, hc⟩ := h hl
  have hne : b ≠ g := by
    rintro rfl
    obtain ⟨x, l', rfl⟩ := List.exists_cons_of_ne_nil hl
    have h0 : 0 < (f x).length := by rw [he.len]; exact he.pos
    have := hc 0 x rfl 0 _ (List.getElem?_eq_getElem h0)
    simp [World.cell?, hg] at this
  have hb : w'.heap[b]? = w.heap[b]? := hw.block b hlt (by intro e; injection e with e; exact hne e)
  refine ⟨b, off, e, Nat.lt_of_lt_of_le hlt hw.size, fun k x hk j u hu => ?_⟩
  rw [← hc k x hk j u hu]
  simp [World.cell?, hb]
theorem TabAt.slAt_gro {p g : Nat} {L l : List StubE} {w w' : World} {A : Option Addr} (h : TabAt w p g L) (hs : SlAt StubE.cells 12 w A l) (hg : w.grownBy w' (some g)) : SlAt StubE.cells 12 w' A l := by
  obtain ⟨_, bs, c, hm, _⟩ := h
  exact Go.Proofs.Ytgddapgdeaeggaa.slAt_gro StubE.enc hs hm hg
set_option maxRecDepth 100000 in
set_option maxHeartbeats 8000000 in
theorem calls_any (A : Option Addr) (C : Nat) (cs : List CallE) (w : World) (hs : SlAt CallE.cells 14 w A cs) (hl : cs.length ≤ 9223372036854775807) : Calls Try.prog 3 #[.slice A cs.length C] w fun r w' => r = .returned (.bool true) ∧ Below w.heap.size w w' := by
  have HS : ∀ u [Later w u], SlAt CallE.cells 14 u A cs := fun u i => hs.below i.below
  go_enter Try.func3, Try.ntmps3
  by_cases hlen : (30 : Int) < (cs.length : Int)
  · go_wp2_with (go_at_call 10; refine (awake_any _).mono ?_; rintro r w1 ⟨rfl, hb1⟩; have l1 := later hb1)
    go_ret
    exact ⟨rfl, below_of⟩
  have hcl : cs.length ≤ 30 := by omega
  go_upto_region 6 with (first | (go_at_call 10; refine (awake_any _).mono ?_; rintro r w1 ⟨rfl, hb1⟩; have l1 := later hb1) | (go_at_call 11; refine (new_any _).mono ?_; rintro r w2 ⟨p, g, rfl, hp, hg, hT0, hb2⟩; have l2 := later hb2))
  have hgw : w.heap.size ≤ g := Nat.le_trans (show Below w.heap.size w w1 from below_of).size hg
  go_upto_region 7 with fail
  refine wp_name ?_
  intro w3 hw3
  obtain ⟨B3, l3⟩ := box1 hw3
  have hT3 := hT0.later w3
  clear hw3
  go_wp2_with (go_at_call 12; refine (list_any p g [] _ (hT0.later _) (by simp)).mono ?_; rintro r w4 ⟨q, B, D, hq, rfl, ho4, hb4⟩; have l4 := later hb4; obtain rfl : q = [] := List.perm_nil.1 hq.out.1)
  have hT4 := hT3.later w4
  have hbw4 : Below w.heap.size w w4 := below_of
  go_loopw [4, 5] (fun rv iv wr => ∃ (k : Nat) (r : List StubE) (B : Option Addr) (D : Nat), k ≤ cs.length ∧ iv = .int .i64 k ∧ rv = .slice B r.length D ∧ Hid (SortedS r ∧ r.Perm (runT (cs.take k))) ∧ r.length ≤ D ∧ D ≤ maxLen ∧ SlAt StubE.cells 12 wr B r ∧ TabAt wr p g (runT (cs.take k)) ∧ Below w.heap.size w wr) (fun _ iv _ => cs.length - (intOf iv).toNat)
  case atStart => exact ⟨0, [], _, 0, by omega, rfl, rfl, hide ⟨List.Pairwise.nil, List.Perm.nil⟩, by simp, by simp, SlAt.nil, hT4, hbw4⟩
  case round =>
    clear B3 hT3 hT4 hbw4 ho4 hq
    obtain ⟨k, r, B, D, hk, rfl, rfl, hr, hrD, hDm, hsr, hT, hbr⟩ := hrel
    have lr := later hbr
    have hzr := hbr.size
    by_cases hlt : k < cs.length
    · obtain ⟨b, off, c, rfl, hc, C1⟩ := CallE.get (HS wr) hlt
      obtain ⟨L, hL⟩ : ∃ L, L = runT (cs.take k) := ⟨_, rfl⟩
      rw [← hL] at hT hr
      have hLk : L.length ≤ 30 := by rw [hL]; have := run_len (cs.take k); rw [List.length_take] at this; omega
      have hiL : Inv L := by rw [hL]; exact inv_run _
      have Hn := hide (show runT (cs.take (k + 1)) = callT L c by rw [hL]; exact run_take hc)
      obtain ⟨m1, m2, m3⟩ := model_ok hiL hr.out.1 hr.out.2 c
      have hrl : r.length ≤ 1000000 := by rw [hr.out.2.length_eq]; omega
      obtain ⟨ev, hev⟩ : ∃ ev, ev = callErr L c := ⟨_, rfl⟩
      obtain ⟨r2, hr2⟩ : ∃ r2, r2 = modelR r c := ⟨_, rfl⟩
      obtain ⟨L2, hL2⟩ : ∃ L2, L2 = callT L c := ⟨_, rfl⟩
      have HM : ∀ u [Later wr u], Calls Try.prog 13 #[.slice B r.length D, c.v] u (ModPost u r2 ev) := fun u i => by rw [hev, hr2, ← m1]; exact model_any B D r c u (hsr.later u) hrl hrD hDm
      have HSt : ∀ u, TabAt u p g L → Calls Try.prog 14 #[.pointer (some ⟨p, 0, none⟩), c.v] u (MutPost u p g ev L2) := fun u h => by rw [hev, hL2]; exact step_any p g L c u h hiL
      have hL2l : L2.length ≤ 31 := by have := call_len L c; rw [hL2]; omega
      rw [← hr2] at m2
      rw [← hr2, ← hL2] at m3
      rw [← hL2] at Hn
      have HM2 := hide m2
      have HM3 := hide m3
      clear hL hc hiL m1 m2 m3 hev hr2 hL2 hr
      go_upto_region 14 with (go_at_call 13; refine (HM _).mono ?_; rintro r w5 ⟨q5, A5, c5, hq5, rfl, hc5, hm5, hs5, hb5⟩; have l5 := later hb5)
      obtain rfl : q5 = r2 := hq5.out
      obtain ⟨u5, hu5, -⟩ : ∃ u5 : World, u5 = w5 ∧ True := ⟨_, rfl, trivial⟩
      have hT5 := hT.later w5
      go_upto_region 14 with fail
      refine wp_name ?_
      intro w6 hw6
      have l6 := later_name' hw6 (inferInstance : Later w5 _)
      have hT6 := hT5.later w6
      have hs6 := hs5.later w6
      have hb6 : Below w.heap.size w w6 := below_of
      clear hw6 HM hT hT5
      go_wp2_with (first
        | (go_at_call 14; refine (HSt _ (hT6.later _)).mono ?_; rintro r w7 ⟨rfl, hT7, hg7⟩; have hs7 := TabAt.slAt_gro (hT6.later _) (hs6.later _) hg7; have hb7 := (show Below w.heap.size w _ from below_of).trans (grown_belowG hg7 hgw (show Below w.heap.size w _ from below_of).size); have l7 := later hb7)
        | (go_at_call 12; refine (list_any p g L2 _ (hT7.later _) (by omega)).mono ?_; rintro r w8 ⟨q8, B8, D8, hq8, rfl, ho8, hb8⟩; have l8 := later hb8; obtain rfl : q8 = q5 := sortedS_unique hq8.out.2 HM2.out (hq8.out.1.trans HM3.out.symm))
        | (go_at_call 15; refine (sameTrue_any B8 D8 A5 c5 _ _ ((ho8.later _).at_ StubE.enc).2.2 (hs7.later _) (by rw [HM3.out.length_eq]; omega)).mono ?_; rintro r w9 ⟨rfl, hb9⟩; have l9 := later hb9))
      go_roundw
      case rel => exact ⟨k + 1, _, A5, c5, by omega, by go_num, rfl, by rw [Hn.out]; exact hide ⟨HM2.out, HM3.out⟩, hc5, hm5, hs7.later _, by rw [Hn.out]; exact hT7.later _, below_of⟩
      case measure => simp [intOf]; omega
    · have hk' : k = cs.length := by omega
      subst hk'
      go_wp2_with fail
      go_ret
      exact ⟨rfl, hbr⟩
end Go.Proofs.Ytgddapgdeaeggaa
