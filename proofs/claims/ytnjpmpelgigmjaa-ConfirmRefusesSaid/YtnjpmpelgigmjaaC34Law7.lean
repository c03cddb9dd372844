/-
  Contracts of the functions of this seat that each theorem names: what a call returns, and that it writes nothing that was there before. The conditions stand in each theorem.
-/
import Derived.Test.YtnjpmpelgigmjaaC34Law4
import Derived.Test.YtnjpmpelgigmjaaC34Plain4
import Derived.Test.YtnjpmpelgigmjaaLater3
namespace Go.Proofs.Ytnjpmpelgigmjaa
open Go.RowKit
attribute [local go_sem ↓] run_eql_trace run_neq_trace

theorem needT : ElemT Try.prog 22 39 3 24 := ElemT.mk' (z := .agg #[.int .i64 0, .int .u64 0, .int .i64 0]) Try.underlying22 (by kernel_rfl) rfl

set_option maxRecDepth 100000 in
set_option maxHeartbeats 4000000 in
theorem refuses_any (c : ClaimV) (t : TraceE) (x : TablesV) (hw q : Int) (w : World) (hc : c.at_ w) (hx : x.at_ w) (hh0 : 0 ≤ hw) (hh1 : hw ≤ 255) (hq0 : 0 ≤ q) (hq1 : q ≤ 255) :
    Calls Try.prog 4 #[c.v, t.v, x.v, .int .u8 hw, .int .u8 q] w fun r w' => r = .returned (.bool true) ∧ Below w.heap.size w w' := by
  have Hc : ∀ u [Later w u], c.at_ u := fun u i => hc.below i.below
  have Hx : ∀ u [Later w u], x.at_ u := fun u i => hx.below i.below
  go_enter Try.func4, Try.ntmps4
  go_wp2_with fail
  refine calls_name ?_
  intro w0 h0
  obtain ⟨B0, B1, B2, l0⟩ := box3 h0
  have hs0 : w.heap.size + 1 + 1 < w0.heap.size := by rw [← h0]; simp
  clear h0
  refine (awake_any _).mono ?_
  rintro r w1 ⟨rfl, hb⟩
  have l1 := later hb
  clear hb
  go_wp2_with fail
  refine (many_any x c _ _ (heap_alloc_new _ _) hc.tot hx.sl hx.nl hx.rl).mono ?_
  rintro r w2 ⟨rfl, hb⟩
  have l2 := later hb
  clear hb
  cases hm : manyB x c
  rotate_left
  · go_wp2_with fail
    go_ret
    exact ⟨rfl, below_of⟩
  obtain ⟨n1, n2, n3, n4⟩ := many_false hm
  have hs2 : w.heap.size + 1 + 1 < w2.heap.size := Nat.lt_of_lt_of_le hs0 (below_of (b := w0) (w := w2)).size
  cases h0 : teq t.machine (wrap64 (t.serial + 1)) 0 0
  rotate_left
  · go_wp2_with fail
    go_ret
    exact ⟨rfl, below_of⟩
  go_upto_region 8 with fail
  refine wp_name ?_
  intro w3 hv3
  obtain ⟨B3, l3⟩ := box1 hv3
  have hs3 := boxed_lt B3
  clear hv3
  go_upto_region 9 with (at_builtin; refine wpList_appE rfl (.tmp 30) (.tmp 32) rfl StubE.enc stubT _ _ x.stubs rfl rfl (Hx _).s (by omega) (by unfold maxLen; omega) ?_; intro aA aC w4 ho1 ham hb1; have l4 := later hb1)
  have hs4 := (below_of (b := w3) (w := w4)).size
  have hA1 := hide (fun g (hg : (Value.slice aA x.stubs.length aC).ownBlock = some g) => show g < w4.heap.size from (World.ownsRow.lt ho1 g hg).2)
  refine wp_name ?_
  intro w5 hv5
  have B0a := boxed_far B0 (by first | (simp; done) | (simp; omega) | omega) hv5
  have B1a := boxed_far B1 (by first | (simp; done) | (simp; omega) | omega) hv5
  have B2a := boxed_set B2 hv5
  have B3a := boxed_far B3 (by first | (simp; done) | (simp; omega) | omega) hv5
  have ho1a := ho1.set (p := ⟨w.heap.size + 1 + 1, 0, none⟩) (by simp only; omega) (.slice aA x.stubs.length aC)
  rw [hv5] at ho1a
  have l5 := later_put (W := w) (by simp; omega) hv5
  have hs5 : w4.heap.size ≤ w5.heap.size := by rw [← hv5]; simp [World.setCell]
  clear B0 B1 B2 B3 ho1 hb1 hv5
  simp only [List.setIfInBounds_toArray, List.set_cons_zero] at B2a
  go_upto_region 13 with (at_builtin; refine wpList_appE rfl (.tmp 35) (.tmp 37) rfl ScionE.enc scionT _ _ x.scions rfl rfl (Hx _).n (by omega) (by unfold maxLen; omega) ?_; intro bA bC w6 ho2 hbm hb2; have l6 := later hb2)
  have hs6 := (below_of (b := w5) (w := w6)).size
  have ho1b := ho1a.later w6
  refine wp_name ?_
  intro w7 hv7
  have B0 := boxed_far B0a (by first | (simp; done) | (simp; omega) | omega) hv7
  have B1 := boxed_far B1a (by first | (simp; done) | (simp; omega) | omega) hv7
  have B2 := boxed_set B2a hv7
  have B3 := boxed_far B3a (by first | (simp; done) | (simp; omega) | omega) hv7
  have O1 := ho1b.set (p := ⟨w.heap.size + 1 + 1, 1, none⟩) (by simp only; omega) (.slice bA x.scions.length bC)
  have O2 := ho2.set (p := ⟨w.heap.size + 1 + 1, 1, none⟩) (by simp only; omega) (.slice bA x.scions.length bC)
  rw [hv7] at O1 O2
  have l7 := later_put (W := w) (by simp; omega) hv7
  have hs7 : w6.heap.size ≤ w7.heap.size := by rw [← hv7]; simp [World.setCell]
  simp only [List.setIfInBounds_toArray, List.set_cons_zero, List.set_cons_succ] at B2
  clear B0a B1a B2a B3a ho1a ho1b ho2 hb2 hv7 l1 l2 l3 l4 l5 l6
  have hcl1 := hc.sl
  have hcl2 := hc.nl
  have hcl3 := hc.kl
  have hct := hc.tot
  have hxr := hx.rl
  have hT7 := (O2.at_ ScionE.enc).2.2
  have hS7 := (O1.at_ StubE.enc).2.2
  have X7 : TablesV.at_ ⟨aA, aC, x.stubs, bA, bC, x.scions, x.epoch, x.rA, x.rC, x.received⟩ w7 := ⟨hS7, hT7, (Hx _).r, by simp only; omega, by simp only; omega, hxr⟩
  have HX7 : ∀ u [Later w7 u], TablesV.at_ ⟨aA, aC, x.stubs, bA, bC, x.scions, x.epoch, x.rA, x.rC, x.received⟩ u := fun u i => X7.below i.below
  clear X7
  by_cases hA : hw % 8 < 4 ∧ 0 < c.stubs.length
  · obtain ⟨hA1', hA2⟩ := hA
    obtain ⟨j, hj⟩ : ∃ j : Nat, q % (c.stubs.length : Int) = (j : Int) := ⟨(q % (c.stubs.length : Int)).toNat, (Int.toNat_of_nonneg (Int.emod_nonneg _ (by omega))).symm⟩
    have hjl : j < c.stubs.length := by have := Int.emod_lt_of_pos q (show (0 : Int) < c.stubs.length by omega); omega
    obtain ⟨b, off, n, hcA, hbk, he, hcells⟩ := (Hc w7).s.at_ hjl
    obtain ⟨f0, f1, f2⟩ := NeedE.facts hcells
    have F0 := Later.cell f0
    have F1 := Later.cell f1
    have F2 := Later.cell f2
    have hnm : n ∈ c.stubs := List.mem_of_getElem? he
    have B0o := hide (boxed_later (w1 := w7) B0)
    rw [hcA] at B0
    clear f0 f1 f2 hcells hcA
    rcases idxOf_cases (isStub n.peer n.number) x.stubs with ⟨hi, hno⟩ | ⟨k, e, hi, hk, hp, hno⟩
    · have hf := hide (check_no_stub (c := c) (t := t) (ep := x.epoch) (S := x.stubs) (N := x.scions) (r := x.received) hnm (.inl (StubE.missing hi)))
      go_upto_region 14 with fail
      (refine wp_region_after (by kernel_rfl) (by kernel_rfl) ?_
       repeat (any_goals (first | go_big_quiet_skip | (go_big_quiet_want; go_big_quiet_op; first | go_big_quiet_on | go_big_quiet_call ((go_at_call 14; exact Calls.after (stub_any _ _ _ n _ (hS7.later _) (by omega))))) | quiet_step ((go_at_call 14; exact Calls.after (stub_any _ _ _ n _ (hS7.later _) (by omega)))) | (refine wpQuiet_step (fun K hK => ?_); go_simp; split <;> (refine hK _ ?_; clear hK K))))
       all_goals (refine wpQuiet_nil ?_; intro _ hw'; obtain ⟨u', hw''⟩ := hw'; subst hw''; obtain ⟨wd, hbd⟩ := u'; simp only [After.val_mk]))
      have ld := later hbd
      clear B0
      have B0 := B0o.out
      go_wp2_with fail
      refine (lawcheck_any c t ⟨aA, aC, x.stubs, bA, bC, x.scions, x.epoch, x.rA, x.rC, x.received⟩ _ (Hc _) (HX7 _)).mono ?_
      rintro r wz ⟨rfl, hbz⟩
      have lz := later hbz
      rw [hf.out]
      go_wp2_with fail
      go_ret
      exact ⟨rfl, below_of⟩
    · obtain ⟨g, rfl⟩ := O1.isSome (by rintro e0; rw [e0] at hk; simp at hk)
      have hg1 := O1.base_le
      have hg5 : (Value.slice bA x.scions.length bC).ownBlock ≠ some g := fun e0 => by have := hA1.out g rfl; have := (World.ownsRow.lt O2 g e0).1; omega
      have hkl := (List.getElem?_eq_some_iff.1 hk).1
      have hk' : ¬ ((k : Int) < 0) := by omega
      go_upto_region 14 with fail
      (refine wp_region_after (by kernel_rfl) (by kernel_rfl) ?_
       repeat (any_goals (first | go_big_quiet_skip | (go_big_quiet_want; go_big_quiet_op; first | go_big_quiet_on | go_big_quiet_call ((go_at_call 14; exact Calls.after (stub_any _ _ _ n _ (hS7.later _) (by omega))))) | quiet_step ((go_at_call 14; exact Calls.after (stub_any _ _ _ n _ (hS7.later _) (by omega)))) | (refine wpQuiet_step (fun K hK => ?_); go_simp; split <;> (refine hK _ ?_; clear hK K))))
       all_goals (refine wpQuiet_nil ?_; intro _ hw'; obtain ⟨u', hw''⟩ := hw'; subst hw''; obtain ⟨wd, hbd⟩ := u'; simp only [After.val_mk]))
      have ld := later hbd
      have O1d := O1.below hbd
      have O2d := O2.below hbd
      clear B0
      have B0 := B0o.out
      rcases (show hw % 8 = 0 ∨ hw % 8 = 1 ∨ hw % 8 = 2 ∨ hw % 8 = 3 by omega) with t0 | t0 | t0 | t0
      · have e0 := O1d.cell StubE.enc hk (j := 7) rfl
        have z0 := O1d.free (k * 12 + 7)
        go_upto_region 36 with fail
        refine wp_name ?_
        intro w9 hv9
        have B0a := boxed_far B0 (by first | (simp; done) | (simp; omega) | omega) hv9
        have B1a := boxed_far B1 (by first | (simp; done) | (simp; omega) | omega) hv9
        have B2a := boxed_far B2 (by first | (simp; done) | (simp; omega) | omega) hv9
        have l9 := later_put (W := w) (by show w.heap.size ≤ g; omega) hv9
        have O1e := O1d.store StubE.enc (j := 7) (u := .bool true) (x' := { e with touched := true }) hk (by omega) rfl
        have O2e := O2d.far (p := ⟨g, k * 12 + 7, none⟩) hg5 (.bool true)
        rw [hv9] at O1e O2e
        have hf := hide (refused_stub (c := c) (t := t) (ep := x.epoch) (S := x.stubs) (N := x.scions) (r := x.received) (x' := { e with touched := true }) hnm hk hp hno hp (by simp [quietE]))
        obtain ⟨S', hS'⟩ : ∃ S' : List StubE, S' = x.stubs.set k { e with touched := true } := ⟨_, rfl⟩
        have hSl : x.stubs.length = S'.length := by rw [hS', List.length_set]
        rw [← hS'] at O1e hf
        rw [hSl] at B2a O1e
        have hS1 := (O1e.at_ StubE.enc).2.2
        have hS2 := (O2e.at_ ScionE.enc).2.2
        have X : TablesV.at_ ⟨some ⟨g, 0, none⟩, aC, S', bA, bC, x.scions, x.epoch, x.rA, x.rC, x.received⟩ w9 := ⟨hS1, hS2, (Hx _).r, by simp only; omega, by simp only; omega, hxr⟩
        clear B0 B1 B2 B3 O1 O2 O1d O2d O1e O2e hS' hSl hv9 e0 z0
        go_wp2_with fail
        refine (lawcheck_any c t ⟨some ⟨g, 0, none⟩, aC, S', bA, bC, x.scions, x.epoch, x.rA, x.rC, x.received⟩ _ (Hc _) (X.below below_of)).mono ?_
        rintro r wz ⟨rfl, hbz⟩
        have lz := later hbz
        rw [hf.out]
        go_wp2_with fail
        go_ret
        exact ⟨rfl, below_of⟩
      · have e0 := O1d.cell StubE.enc hk (j := 9) rfl
        have z0 := O1d.free (k * 12 + 9)
        go_upto_region 36 with fail
        refine wp_name ?_
        intro w9 hv9
        have B0a := boxed_far B0 (by first | (simp; done) | (simp; omega) | omega) hv9
        have B1a := boxed_far B1 (by first | (simp; done) | (simp; omega) | omega) hv9
        have B2a := boxed_far B2 (by first | (simp; done) | (simp; omega) | omega) hv9
        have l9 := later_put (W := w) (by show w.heap.size ≤ g; omega) hv9
        have O1e := O1d.store StubE.enc (j := 9) (u := .bool true) (x' := { e with dead := true }) hk (by omega) rfl
        have O2e := O2d.far (p := ⟨g, k * 12 + 9, none⟩) hg5 (.bool true)
        rw [hv9] at O1e O2e
        have hf := hide (refused_stub (c := c) (t := t) (ep := x.epoch) (S := x.stubs) (N := x.scions) (r := x.received) (x' := { e with dead := true }) hnm hk hp hno hp (by simp [quietE]))
        obtain ⟨S', hS'⟩ : ∃ S' : List StubE, S' = x.stubs.set k { e with dead := true } := ⟨_, rfl⟩
        have hSl : x.stubs.length = S'.length := by rw [hS', List.length_set]
        rw [← hS'] at O1e hf
        rw [hSl] at B2a O1e
        have hS1 := (O1e.at_ StubE.enc).2.2
        have hS2 := (O2e.at_ ScionE.enc).2.2
        have X : TablesV.at_ ⟨some ⟨g, 0, none⟩, aC, S', bA, bC, x.scions, x.epoch, x.rA, x.rC, x.received⟩ w9 := ⟨hS1, hS2, (Hx _).r, by simp only; omega, by simp only; omega, hxr⟩
        clear B0 B1 B2 B3 O1 O2 O1d O2d O1e O2e hS' hSl hv9 e0 z0
        go_wp2_with fail
        refine (lawcheck_any c t ⟨some ⟨g, 0, none⟩, aC, S', bA, bC, x.scions, x.epoch, x.rA, x.rC, x.received⟩ _ (Hc _) (X.below below_of)).mono ?_
        rintro r wz ⟨rfl, hbz⟩
        have lz := later hbz
        rw [hf.out]
        go_wp2_with fail
        go_ret
        exact ⟨rfl, below_of⟩
      · have e0 := O1d.cell StubE.enc hk (j := 10) rfl
        have e1 := O1d.cell StubE.enc hk (j := 11) rfl
        have z0 := O1d.free (k * 12 + 10)
        have z1 := O1d.free (k * 12 + 11)
        go_upto_region 36 with fail
        refine wp_name ?_
        intro w9 hv9
        have B0a := boxed_far2 B0 (by first | (simp; done) | (simp; omega) | omega) (by first | (simp; done) | (simp; omega) | omega) hv9
        have B1a := boxed_far2 B1 (by first | (simp; done) | (simp; omega) | omega) (by first | (simp; done) | (simp; omega) | omega) hv9
        have B2a := boxed_far2 B2 (by first | (simp; done) | (simp; omega) | omega) (by first | (simp; done) | (simp; omega) | omega) hv9
        have l9 := later_put2 (W := w) (by show w.heap.size ≤ g; omega) (by show w.heap.size ≤ g; omega) hv9
        have O1e := (O1d.store StubE.enc (j := 10) (u := .int .i64 t.machine) (x' := { e with lockMachine := t.machine }) hk (by omega) rfl).store StubE.enc (j := 11) (u := .int .i64 (wrap64 (t.serial + 1))) (x' := { e with lockMachine := t.machine, lockSerial := wrap64 (t.serial + 1) }) (List.getElem?_set_self hkl) (by omega) rfl
        have O2e := (O2d.far (p := ⟨g, k * 12 + 10, none⟩) hg5 (.int .i64 t.machine)).far (p := ⟨g, k * 12 + 11, none⟩) hg5 (.int .i64 (wrap64 (t.serial + 1)))
        rw [List.set_set] at O1e
        have O1f := (show Own _ _ _ _ w9 _ _ from hv9 ▸ O1e)
        have O2f := (show Own _ _ _ _ w9 _ _ from hv9 ▸ O2e)
        have hf := hide (refused_stub (c := c) (t := t) (ep := x.epoch) (S := x.stubs) (N := x.scions) (r := x.received) (x' := { e with lockMachine := t.machine, lockSerial := wrap64 (t.serial + 1) }) hnm hk hp hno hp (by
          have hne : teq t.machine (wrap64 (t.serial + 1)) t.machine t.serial = false := teq_false.2 (fun h => wrap_ne _ h.2)
          simp [quietE, freeB, h0, hne]))
        obtain ⟨S', hS'⟩ : ∃ S' : List StubE, S' = x.stubs.set k { e with lockMachine := t.machine, lockSerial := wrap64 (t.serial + 1) } := ⟨_, rfl⟩
        have hSl : x.stubs.length = S'.length := by rw [hS', List.length_set]
        rw [← hS'] at O1f hf
        rw [hSl] at B2a O1f
        have hS1 := (O1f.at_ StubE.enc).2.2
        have hS2 := (O2f.at_ ScionE.enc).2.2
        have X : TablesV.at_ ⟨some ⟨g, 0, none⟩, aC, S', bA, bC, x.scions, x.epoch, x.rA, x.rC, x.received⟩ w9 := ⟨hS1, hS2, (Hx _).r, by simp only; omega, by simp only; omega, hxr⟩
        clear B0 B1 B2 B3 O1 O2 O1d O2d O1e O1f O2e O2f hS' hSl hv9 e0 z0 e1 z1
        go_wp2_with fail
        refine (lawcheck_any c t ⟨some ⟨g, 0, none⟩, aC, S', bA, bC, x.scions, x.epoch, x.rA, x.rC, x.received⟩ _ (Hc _) (X.below below_of)).mono ?_
        rintro r wz ⟨rfl, hbz⟩
        have lz := later hbz
        rw [hf.out]
        go_wp2_with fail
        go_ret
        exact ⟨rfl, below_of⟩
      · have hcs := (Hc wd).s
        go_upto_region 18 with (at_builtin; refine wpList_appE rfl (.tmp 78) (.tmp 80) rfl NeedE.enc needT _ _ c.stubs rfl rfl hcs (by omega) (by unfold maxLen; omega) ?_; intro nA nC w8 on hnc hb8; have l8 := later hb8)
        obtain ⟨gn, rfl⟩ := on.isSome (by rintro e0; rw [e0] at he; simp at he)
        have hgn1 := on.base_le
        have hwd := (below_of (b := w7) (w := wd)).size
        have O1x := O1d.later w8
        have O2x := O2d.later w8
        have f1 : (Value.slice (some ⟨g, 0, none⟩) x.stubs.length aC).ownBlock ≠ some gn := fun e0 => by have := (World.ownsRow.lt O1d gn e0).2; omega
        have f2 : (Value.slice bA x.scions.length bC).ownBlock ≠ some gn := fun e0 => by have := (World.ownsRow.lt O2d gn e0).2; omega
        have e2 := on.cell NeedE.enc he (j := 2) rfl
        have z2 := on.free (j * 3 + 2)
        clear O1 O2 O1d O2d
        go_upto_region 19 with fail
        refine wp_name ?_
        intro w9 hv9
        have B0a := boxed_far B0 (by first | (simp; done) | (simp; omega) | omega) hv9
        have B1a := boxed_far B1 (by first | (simp; done) | (simp; omega) | omega) hv9
        have B2a := boxed_far B2 (by first | (simp; done) | (simp; omega) | omega) hv9
        have l9 := later_put (W := w) (by show w.heap.size ≤ gn; omega) hv9
        have O1a := O1x.far (p := ⟨gn, j * 3 + 2, none⟩) f1 (.int .i64 4611686018427387904)
        have O2a := O2x.far (p := ⟨gn, j * 3 + 2, none⟩) f2 (.int .i64 4611686018427387904)
        have Na := on.store NeedE.enc (j := 2) (u := .int .i64 4611686018427387904) (x' := { n with stamp := 4611686018427387904 }) he (by omega) rfl
        rw [hv9] at O1a O2a Na
        clear B0 B1 B2 B3 on e2 z2 hv9 O1x O2x
        go_upto_region 20 with fail
        refine wp_name ?_
        intro w10 hv10
        have B0b := boxed_set B0a hv10
        have B1b := boxed_far B1a (by first | (simp; done) | (simp; omega) | omega) hv10
        have B2b := boxed_far B2a (by first | (simp; done) | (simp; omega) | omega) hv10
        have l10 := later_put (W := w) (Nat.le_refl _) hv10
        have O1b := O1a.set (p := ⟨w.heap.size, 2, none⟩) (by show w.heap.size < _; omega) (.slice (some ⟨gn, 0, none⟩) c.stubs.length nC)
        have O2b := O2a.set (p := ⟨w.heap.size, 2, none⟩) (by show w.heap.size < _; omega) (.slice (some ⟨gn, 0, none⟩) c.stubs.length nC)
        have Nb := Na.set (p := ⟨w.heap.size, 2, none⟩) (by show w.heap.size < _; omega) (.slice (some ⟨gn, 0, none⟩) c.stubs.length nC)
        rw [hv10] at O1b O2b Nb
        simp only [List.setIfInBounds_toArray, List.set_cons_zero, List.set_cons_succ] at B0b
        clear B0a B1a B2a O1a O2a Na hv10
        go_upto_region 36 with fail
        refine wp_name ?_
        intro w11 hv11
        have B0c := boxed_far B0b (by first | (simp; done) | (simp; omega) | omega) hv11
        have B1c := boxed_far B1b (by first | (simp; done) | (simp; omega) | omega) hv11
        have B2c := boxed_set B2b hv11
        have l11 := later_put (W := w) (by simp only; omega) hv11
        have O1c := O1b.set (p := ⟨w.heap.size + 1 + 1, 3, none⟩) (by show w.heap.size + 1 + 1 < _; omega) (.slice none 0 0)
        have O2c := O2b.set (p := ⟨w.heap.size + 1 + 1, 3, none⟩) (by show w.heap.size + 1 + 1 < _; omega) (.slice none 0 0)
        have Nc := Nb.set (p := ⟨w.heap.size + 1 + 1, 3, none⟩) (by show w.heap.size + 1 + 1 < _; omega) (.slice none 0 0)
        rw [hv11] at O1c O2c Nc
        simp only [List.setIfInBounds_toArray, List.set_cons_zero, List.set_cons_succ] at B2c
        obtain ⟨ns, hns⟩ : ∃ ns : List NeedE, ns = c.stubs.set j { n with stamp := 4611686018427387904 } := ⟨_, rfl⟩
        have hnl : c.stubs.length = ns.length := by rw [hns, List.length_set]
        rw [← hns] at Nc
        rw [hnl] at Nc B0c
        have hin : ({ n with stamp := 4611686018427387904 } : NeedE) ∈ ns := by rw [hns]; exact List.mem_of_getElem? (List.getElem?_set_self hjl)
        have C' : ClaimV.at_ ⟨c.machine, c.epoch, some ⟨gn, 0, none⟩, nC, ns, c.nA, c.nC, c.scions, c.kA, c.kC, c.checks⟩ w11 := ⟨(Nc.at_ NeedE.enc).2.2, (Hc _).n, (Hc _).k, by simp only; omega, hcl2, hcl3, by simp only; omega⟩
        have X' : TablesV.at_ ⟨some ⟨g, 0, none⟩, aC, x.stubs, bA, bC, x.scions, x.epoch, none, 0, []⟩ w11 := ⟨(O1c.at_ StubE.enc).2.2, (O2c.at_ ScionE.enc).2.2, SlAt.nil, by simp only; omega, by simp only; omega, by simp⟩
        have hf := hide (check_no_stub (c := ⟨c.machine, c.epoch, some ⟨gn, 0, none⟩, nC, ns, c.nA, c.nC, c.scions, c.kA, c.kC, c.checks⟩) (t := t) (ep := x.epoch) (S := x.stubs) (N := x.scions) (r := []) hin (.inr (by simp [arrivedB, have_])))
        clear B0b B1b B2b O1b O2b Nb O1c O2c Nc hv11 hns hnl
        go_wp2_with fail
        refine (lawcheck_any ⟨c.machine, c.epoch, some ⟨gn, 0, none⟩, nC, ns, c.nA, c.nC, c.scions, c.kA, c.kC, c.checks⟩ t ⟨some ⟨g, 0, none⟩, aC, x.stubs, bA, bC, x.scions, x.epoch, none, 0, []⟩ _ (C'.below below_of) (X'.below below_of)).mono ?_
        rintro r wz ⟨rfl, hbz⟩
        have lz := later hbz
        rw [hf.out]
        go_wp2_with fail
        go_ret
        exact ⟨rfl, below_of⟩
  · have alt : (¬ hw % 8 < 4) ∨ (hw % 8 < 4 ∧ ¬ 0 < c.stubs.length) := by omega
    clear hA
    rcases alt with hA1' | ⟨hA1', hA2⟩
    · by_cases hN : hw % 8 < 7 ∧ 0 < c.scions.length
      · obtain ⟨hN1, hN2⟩ := hN
        obtain ⟨j, hj⟩ : ∃ j : Nat, q % (c.scions.length : Int) = (j : Int) := ⟨(q % (c.scions.length : Int)).toNat, (Int.toNat_of_nonneg (Int.emod_nonneg _ (by omega))).symm⟩
        have hjl : j < c.scions.length := by have := Int.emod_lt_of_pos q (show (0 : Int) < c.scions.length by omega); omega
        obtain ⟨b, off, n, hcA, hbk, he, hcells⟩ := (Hc w7).n.at_ hjl
        obtain ⟨f0, f1, f2⟩ := NeedE.facts hcells
        have F0 := Later.cell f0
        have F1 := Later.cell f1
        have F2 := Later.cell f2
        have hnm : n ∈ c.scions := List.mem_of_getElem? he
        have B0o := hide (boxed_later (w1 := w7) B0)
        rw [hcA] at B0
        clear f0 f1 f2 hcells hcA
        rcases idxOf_cases (isScion n.peer n.number) x.scions with ⟨hi, hno⟩ | ⟨k, e, hi, hk, hp, hno⟩
        · have hf := hide (check_no_scion (c := c) (t := t) (ep := x.epoch) (S := x.stubs) (N := x.scions) (r := x.received) hnm (ScionE.missing hi))
          go_upto_region 28 with fail
          (refine wp_region_after (by kernel_rfl) (by kernel_rfl) ?_
           repeat (any_goals (first | go_big_quiet_skip | (go_big_quiet_want; go_big_quiet_op; first | go_big_quiet_on | go_big_quiet_call ((go_at_call 15; exact Calls.after (scion_any _ _ _ n _ (hT7.later _) (by omega))))) | quiet_step ((go_at_call 15; exact Calls.after (scion_any _ _ _ n _ (hT7.later _) (by omega)))) | (refine wpQuiet_step (fun K hK => ?_); go_simp; split <;> (refine hK _ ?_; clear hK K))))
           all_goals (refine wpQuiet_nil ?_; intro _ hw'; obtain ⟨u', hw''⟩ := hw'; subst hw''; obtain ⟨wd, hbd⟩ := u'; simp only [After.val_mk]))
          have ld := later hbd
          clear B0
          have B0 := B0o.out
          go_wp2_with fail
          refine (lawcheck_any c t ⟨aA, aC, x.stubs, bA, bC, x.scions, x.epoch, x.rA, x.rC, x.received⟩ _ (Hc _) (HX7 _)).mono ?_
          rintro r wz ⟨rfl, hbz⟩
          have lz := later hbz
          rw [hf.out]
          go_wp2_with fail
          go_ret
          exact ⟨rfl, below_of⟩
        · obtain ⟨g, rfl⟩ := O2.isSome (by rintro e0; rw [e0] at hk; simp at hk)
          have hg1 := O2.base_le
          have hg5 : (Value.slice aA x.stubs.length aC).ownBlock ≠ some g := fun e0 => by have := hA1.out g e0; omega
          have hkl := (List.getElem?_eq_some_iff.1 hk).1
          have hk' : ¬ ((k : Int) < 0) := by omega
          go_upto_region 28 with fail
          (refine wp_region_after (by kernel_rfl) (by kernel_rfl) ?_
           repeat (any_goals (first | go_big_quiet_skip | (go_big_quiet_want; go_big_quiet_op; first | go_big_quiet_on | go_big_quiet_call ((go_at_call 15; exact Calls.after (scion_any _ _ _ n _ (hT7.later _) (by omega))))) | quiet_step ((go_at_call 15; exact Calls.after (scion_any _ _ _ n _ (hT7.later _) (by omega)))) | (refine wpQuiet_step (fun K hK => ?_); go_simp; split <;> (refine hK _ ?_; clear hK K))))
           all_goals (refine wpQuiet_nil ?_; intro _ hw'; obtain ⟨u', hw''⟩ := hw'; subst hw''; obtain ⟨wd, hbd⟩ := u'; simp only [After.val_mk]))
          have ld := later hbd
          have O1d := O1.below hbd
          have O2d := O2.below hbd
          clear B0
          have B0 := B0o.out
          by_cases t4 : hw % 8 = 4
          · have e0 := O2d.cell ScionE.enc hk (j := 7) rfl
            have z0 := O2d.free (k * 12 + 7)
            go_upto_region 36 with fail
            refine wp_name ?_
            intro w9 hv9
            have B0a := boxed_far B0 (by first | (simp; done) | (simp; omega) | omega) hv9
            have B1a := boxed_far B1 (by first | (simp; done) | (simp; omega) | omega) hv9
            have B2a := boxed_far B2 (by first | (simp; done) | (simp; omega) | omega) hv9
            have l9 := later_put (W := w) (by show w.heap.size ≤ g; omega) hv9
            have O1e := O2d.store ScionE.enc (j := 7) (u := .bool true) (x' := { e with touched := true }) hk (by omega) rfl
            have O2e := O1d.far (p := ⟨g, k * 12 + 7, none⟩) hg5 (.bool true)
            rw [hv9] at O1e O2e
            have hf := hide (refused_scion (c := c) (t := t) (ep := x.epoch) (S := x.stubs) (N := x.scions) (r := x.received) (x' := { e with touched := true }) hnm hk hp hno hp (by simp [scionE]))
            obtain ⟨S', hS'⟩ : ∃ S' : List ScionE, S' = x.scions.set k { e with touched := true } := ⟨_, rfl⟩
            have hSl : x.scions.length = S'.length := by rw [hS', List.length_set]
            rw [← hS'] at O1e hf
            rw [hSl] at B2a O1e
            have hS1 := (O1e.at_ ScionE.enc).2.2
            have hS2 := (O2e.at_ StubE.enc).2.2
            have X : TablesV.at_ ⟨aA, aC, x.stubs, some ⟨g, 0, none⟩, bC, S', x.epoch, x.rA, x.rC, x.received⟩ w9 := ⟨hS2, hS1, (Hx _).r, by simp only; omega, by simp only; omega, hxr⟩
            clear B0 B1 B2 B3 O1 O2 O1d O2d O1e O2e hS' hSl hv9 e0 z0
            go_wp2_with fail
            refine (lawcheck_any c t ⟨aA, aC, x.stubs, some ⟨g, 0, none⟩, bC, S', x.epoch, x.rA, x.rC, x.received⟩ _ (Hc _) (X.below below_of)).mono ?_
            rintro r wz ⟨rfl, hbz⟩
            have lz := later hbz
            rw [hf.out]
            go_wp2_with fail
            go_ret
            exact ⟨rfl, below_of⟩
          · by_cases t5 : hw % 8 = 5
            · have e0 := O2d.cell ScionE.enc hk (j := 9) rfl
              have z0 := O2d.free (k * 12 + 9)
              go_upto_region 36 with fail
              refine wp_name ?_
              intro w9 hv9
              have B0a := boxed_far B0 (by first | (simp; done) | (simp; omega) | omega) hv9
              have B1a := boxed_far B1 (by first | (simp; done) | (simp; omega) | omega) hv9
              have B2a := boxed_far B2 (by first | (simp; done) | (simp; omega) | omega) hv9
              have l9 := later_put (W := w) (by show w.heap.size ≤ g; omega) hv9
              have O1e := O2d.store ScionE.enc (j := 9) (u := .bool true) (x' := { e with garbage := true }) hk (by omega) rfl
              have O2e := O1d.far (p := ⟨g, k * 12 + 9, none⟩) hg5 (.bool true)
              rw [hv9] at O1e O2e
              have hf := hide (refused_scion (c := c) (t := t) (ep := x.epoch) (S := x.stubs) (N := x.scions) (r := x.received) (x' := { e with garbage := true }) hnm hk hp hno hp (by simp [scionE]))
              obtain ⟨S', hS'⟩ : ∃ S' : List ScionE, S' = x.scions.set k { e with garbage := true } := ⟨_, rfl⟩
              have hSl : x.scions.length = S'.length := by rw [hS', List.length_set]
              rw [← hS'] at O1e hf
              rw [hSl] at B2a O1e
              have hS1 := (O1e.at_ ScionE.enc).2.2
              have hS2 := (O2e.at_ StubE.enc).2.2
              have X : TablesV.at_ ⟨aA, aC, x.stubs, some ⟨g, 0, none⟩, bC, S', x.epoch, x.rA, x.rC, x.received⟩ w9 := ⟨hS2, hS1, (Hx _).r, by simp only; omega, by simp only; omega, hxr⟩
              clear B0 B1 B2 B3 O1 O2 O1d O2d O1e O2e hS' hSl hv9 e0 z0
              go_wp2_with fail
              refine (lawcheck_any c t ⟨aA, aC, x.stubs, some ⟨g, 0, none⟩, bC, S', x.epoch, x.rA, x.rC, x.received⟩ _ (Hc _) (X.below below_of)).mono ?_
              rintro r wz ⟨rfl, hbz⟩
              have lz := later hbz
              rw [hf.out]
              go_wp2_with fail
              go_ret
              exact ⟨rfl, below_of⟩
            · have e0 := O2d.cell ScionE.enc hk (j := 10) rfl
              have e1 := O2d.cell ScionE.enc hk (j := 11) rfl
              have z0 := O2d.free (k * 12 + 10)
              have z1 := O2d.free (k * 12 + 11)
              go_upto_region 36 with fail
              refine wp_name ?_
              intro w9 hv9
              have B0a := boxed_far2 B0 (by first | (simp; done) | (simp; omega) | omega) (by first | (simp; done) | (simp; omega) | omega) hv9
              have B1a := boxed_far2 B1 (by first | (simp; done) | (simp; omega) | omega) (by first | (simp; done) | (simp; omega) | omega) hv9
              have B2a := boxed_far2 B2 (by first | (simp; done) | (simp; omega) | omega) (by first | (simp; done) | (simp; omega) | omega) hv9
              have l9 := later_put2 (W := w) (by show w.heap.size ≤ g; omega) (by show w.heap.size ≤ g; omega) hv9
              have O1e := (O2d.store ScionE.enc (j := 10) (u := .int .i64 t.machine) (x' := { e with lockMachine := t.machine }) hk (by omega) rfl).store ScionE.enc (j := 11) (u := .int .i64 (wrap64 (t.serial + 1))) (x' := { e with lockMachine := t.machine, lockSerial := wrap64 (t.serial + 1) }) (List.getElem?_set_self hkl) (by omega) rfl
              have O2e := (O1d.far (p := ⟨g, k * 12 + 10, none⟩) hg5 (.int .i64 t.machine)).far (p := ⟨g, k * 12 + 11, none⟩) hg5 (.int .i64 (wrap64 (t.serial + 1)))
              rw [List.set_set] at O1e
              have O1f := (show Own _ _ _ _ w9 _ _ from hv9 ▸ O1e)
              have O2f := (show Own _ _ _ _ w9 _ _ from hv9 ▸ O2e)
              have hf := hide (refused_scion (c := c) (t := t) (ep := x.epoch) (S := x.stubs) (N := x.scions) (r := x.received) (x' := { e with lockMachine := t.machine, lockSerial := wrap64 (t.serial + 1) }) hnm hk hp hno hp (by
                have hne : teq t.machine (wrap64 (t.serial + 1)) t.machine t.serial = false := teq_false.2 (fun h => wrap_ne _ h.2)
                simp [scionE, freeB, h0, hne]))
              obtain ⟨S', hS'⟩ : ∃ S' : List ScionE, S' = x.scions.set k { e with lockMachine := t.machine, lockSerial := wrap64 (t.serial + 1) } := ⟨_, rfl⟩
              have hSl : x.scions.length = S'.length := by rw [hS', List.length_set]
              rw [← hS'] at O1f hf
              rw [hSl] at B2a O1f
              have hS1 := (O1f.at_ ScionE.enc).2.2
              have hS2 := (O2f.at_ StubE.enc).2.2
              have X : TablesV.at_ ⟨aA, aC, x.stubs, some ⟨g, 0, none⟩, bC, S', x.epoch, x.rA, x.rC, x.received⟩ w9 := ⟨hS2, hS1, (Hx _).r, by simp only; omega, by simp only; omega, hxr⟩
              clear B0 B1 B2 B3 O1 O2 O1d O2d O1e O1f O2e O2f hS' hSl hv9 e0 z0 e1 z1
              go_wp2_with fail
              refine (lawcheck_any c t ⟨aA, aC, x.stubs, some ⟨g, 0, none⟩, bC, S', x.epoch, x.rA, x.rC, x.received⟩ _ (Hc _) (X.below below_of)).mono ?_
              rintro r wz ⟨rfl, hbz⟩
              have lz := later hbz
              rw [hf.out]
              go_wp2_with fail
              go_ret
              exact ⟨rfl, below_of⟩
      · have alt : (¬ hw % 8 < 7) ∨ (hw % 8 < 7 ∧ ¬ 0 < c.scions.length) := by omega
        clear hN
        rcases alt with hN1 | ⟨hN1, hN2⟩
        · have hf1 := hide (check_no_epoch (c := c) (t := t) (ep := wrap64 (c.epoch - 1)) (S := x.stubs) (N := x.scions) (r := x.received) (fun e => wrap_ne' _ e.symm))
          have hf2 := hide (check_no_epoch (c := c) (t := t) (ep := wrap64 (c.epoch + 1)) (S := x.stubs) (N := x.scions) (r := x.received) (fun e => wrap_ne _ e.symm))
          go_upto_region 11 with fail
          refine wp_name ?_
          intro w9 hv9
          have B0a := boxed_far B0 (by first | (simp; done) | (simp; omega) | omega) hv9
          have B1a := boxed_far B1 (by first | (simp; done) | (simp; omega) | omega) hv9
          have B2a := boxed_set B2 hv9
          have l9 := later_put (W := w) (by simp only; omega) hv9
          have O1a := O1.set (p := ⟨w.heap.size + 1 + 1, 2, none⟩) (by show w.heap.size + 1 + 1 < _; omega) (.int .i64 (wrap64 (c.epoch - 1)))
          have O2a := O2.set (p := ⟨w.heap.size + 1 + 1, 2, none⟩) (by show w.heap.size + 1 + 1 < _; omega) (.int .i64 (wrap64 (c.epoch - 1)))
          rw [hv9] at O1a O2a
          simp only [List.setIfInBounds_toArray, List.set_cons_zero, List.set_cons_succ] at B2a
          clear B0 B1 B2 B3 O1 O2 hv9
          by_cases hneg : c.epoch < 0
          · go_upto_region 36 with fail
            refine wp_name ?_
            intro w11 hv11
            have B0c := boxed_far B0a (by first | (simp; done) | (simp; omega) | omega) hv11
            have B1c := boxed_far B1a (by first | (simp; done) | (simp; omega) | omega) hv11
            have B2c := boxed_set B2a hv11
            have l11 := later_put (W := w) (by simp only; omega) hv11
            have O1c := O1a.set (p := ⟨w.heap.size + 1 + 1, 2, none⟩) (by show w.heap.size + 1 + 1 < _; omega) (.int .i64 (wrap64 (c.epoch + 1)))
            have O2c := O2a.set (p := ⟨w.heap.size + 1 + 1, 2, none⟩) (by show w.heap.size + 1 + 1 < _; omega) (.int .i64 (wrap64 (c.epoch + 1)))
            rw [hv11] at O1c O2c
            simp only [List.setIfInBounds_toArray, List.set_cons_zero, List.set_cons_succ] at B2c
            have X' : TablesV.at_ ⟨aA, aC, x.stubs, bA, bC, x.scions, wrap64 (c.epoch + 1), x.rA, x.rC, x.received⟩ w11 := ⟨(O1c.at_ StubE.enc).2.2, (O2c.at_ ScionE.enc).2.2, (Hx _).r, by simp only; omega, by simp only; omega, hxr⟩
            clear B0a B1a B2a O1a O2a O1c O2c hv11
            go_wp2_with fail
            refine (lawcheck_any c t ⟨aA, aC, x.stubs, bA, bC, x.scions, wrap64 (c.epoch + 1), x.rA, x.rC, x.received⟩ _ (Hc _) (X'.below below_of)).mono ?_
            rintro r wz ⟨rfl, hbz⟩
            have lz := later hbz
            rw [hf2.out]
            go_wp2_with fail
            go_ret
            exact ⟨rfl, below_of⟩
          · have X' : TablesV.at_ ⟨aA, aC, x.stubs, bA, bC, x.scions, wrap64 (c.epoch - 1), x.rA, x.rC, x.received⟩ w9 := ⟨(O1a.at_ StubE.enc).2.2, (O2a.at_ ScionE.enc).2.2, (Hx _).r, by simp only; omega, by simp only; omega, hxr⟩
            clear O1a O2a
            go_wp2_with fail
            refine (lawcheck_any c t ⟨aA, aC, x.stubs, bA, bC, x.scions, wrap64 (c.epoch - 1), x.rA, x.rC, x.received⟩ _ (Hc _) (X'.below below_of)).mono ?_
            rintro r wz ⟨rfl, hbz⟩
            have lz := later hbz
            rw [hf1.out]
            go_wp2_with fail
            go_ret
            exact ⟨rfl, below_of⟩
        · have hf1 := hide (check_no_epoch (c := c) (t := t) (ep := wrap64 (c.epoch - 1)) (S := x.stubs) (N := x.scions) (r := x.received) (fun e => wrap_ne' _ e.symm))
          have hf2 := hide (check_no_epoch (c := c) (t := t) (ep := wrap64 (c.epoch + 1)) (S := x.stubs) (N := x.scions) (r := x.received) (fun e => wrap_ne _ e.symm))
          go_upto_region 11 with fail
          refine wp_name ?_
          intro w9 hv9
          have B0a := boxed_far B0 (by first | (simp; done) | (simp; omega) | omega) hv9
          have B1a := boxed_far B1 (by first | (simp; done) | (simp; omega) | omega) hv9
          have B2a := boxed_set B2 hv9
          have l9 := later_put (W := w) (by simp only; omega) hv9
          have O1a := O1.set (p := ⟨w.heap.size + 1 + 1, 2, none⟩) (by show w.heap.size + 1 + 1 < _; omega) (.int .i64 (wrap64 (c.epoch - 1)))
          have O2a := O2.set (p := ⟨w.heap.size + 1 + 1, 2, none⟩) (by show w.heap.size + 1 + 1 < _; omega) (.int .i64 (wrap64 (c.epoch - 1)))
          rw [hv9] at O1a O2a
          simp only [List.setIfInBounds_toArray, List.set_cons_zero, List.set_cons_succ] at B2a
          clear B0 B1 B2 B3 O1 O2 hv9
          by_cases hneg : c.epoch < 0
          · go_upto_region 36 with fail
            refine wp_name ?_
            intro w11 hv11
            have B0c := boxed_far B0a (by first | (simp; done) | (simp; omega) | omega) hv11
            have B1c := boxed_far B1a (by first | (simp; done) | (simp; omega) | omega) hv11
            have B2c := boxed_set B2a hv11
            have l11 := later_put (W := w) (by simp only; omega) hv11
            have O1c := O1a.set (p := ⟨w.heap.size + 1 + 1, 2, none⟩) (by show w.heap.size + 1 + 1 < _; omega) (.int .i64 (wrap64 (c.epoch + 1)))
            have O2c := O2a.set (p := ⟨w.heap.size + 1 + 1, 2, none⟩) (by show w.heap.size + 1 + 1 < _; omega) (.int .i64 (wrap64 (c.epoch + 1)))
            rw [hv11] at O1c O2c
            simp only [List.setIfInBounds_toArray, List.set_cons_zero, List.set_cons_succ] at B2c
            have X' : TablesV.at_ ⟨aA, aC, x.stubs, bA, bC, x.scions, wrap64 (c.epoch + 1), x.rA, x.rC, x.received⟩ w11 := ⟨(O1c.at_ StubE.enc).2.2, (O2c.at_ ScionE.enc).2.2, (Hx _).r, by simp only; omega, by simp only; omega, hxr⟩
            clear B0a B1a B2a O1a O2a O1c O2c hv11
            go_wp2_with fail
            refine (lawcheck_any c t ⟨aA, aC, x.stubs, bA, bC, x.scions, wrap64 (c.epoch + 1), x.rA, x.rC, x.received⟩ _ (Hc _) (X'.below below_of)).mono ?_
            rintro r wz ⟨rfl, hbz⟩
            have lz := later hbz
            rw [hf2.out]
            go_wp2_with fail
            go_ret
            exact ⟨rfl, below_of⟩
          · have X' : TablesV.at_ ⟨aA, aC, x.stubs, bA, bC, x.scions, wrap64 (c.epoch - 1), x.rA, x.rC, x.received⟩ w9 := ⟨(O1a.at_ StubE.enc).2.2, (O2a.at_ ScionE.enc).2.2, (Hx _).r, by simp only; omega, by simp only; omega, hxr⟩
            clear O1a O2a
            go_wp2_with fail
            refine (lawcheck_any c t ⟨aA, aC, x.stubs, bA, bC, x.scions, wrap64 (c.epoch - 1), x.rA, x.rC, x.received⟩ _ (Hc _) (X'.below below_of)).mono ?_
            rintro r wz ⟨rfl, hbz⟩
            have lz := later hbz
            rw [hf1.out]
            go_wp2_with fail
            go_ret
            exact ⟨rfl, below_of⟩
    · by_cases hN : hw % 8 < 7 ∧ 0 < c.scions.length
      · obtain ⟨hN1, hN2⟩ := hN
        obtain ⟨j, hj⟩ : ∃ j : Nat, q % (c.scions.length : Int) = (j : Int) := ⟨(q % (c.scions.length : Int)).toNat, (Int.toNat_of_nonneg (Int.emod_nonneg _ (by omega))).symm⟩
        have hjl : j < c.scions.length := by have := Int.emod_lt_of_pos q (show (0 : Int) < c.scions.length by omega); omega
        obtain ⟨b, off, n, hcA, hbk, he, hcells⟩ := (Hc w7).n.at_ hjl
        obtain ⟨f0, f1, f2⟩ := NeedE.facts hcells
        have F0 := Later.cell f0
        have F1 := Later.cell f1
        have F2 := Later.cell f2
        have hnm : n ∈ c.scions := List.mem_of_getElem? he
        have B0o := hide (boxed_later (w1 := w7) B0)
        rw [hcA] at B0
        clear f0 f1 f2 hcells hcA
        rcases idxOf_cases (isScion n.peer n.number) x.scions with ⟨hi, hno⟩ | ⟨k, e, hi, hk, hp, hno⟩
        · have hf := hide (check_no_scion (c := c) (t := t) (ep := x.epoch) (S := x.stubs) (N := x.scions) (r := x.received) hnm (ScionE.missing hi))
          go_upto_region 28 with fail
          (refine wp_region_after (by kernel_rfl) (by kernel_rfl) ?_
           repeat (any_goals (first | go_big_quiet_skip | (go_big_quiet_want; go_big_quiet_op; first | go_big_quiet_on | go_big_quiet_call ((go_at_call 15; exact Calls.after (scion_any _ _ _ n _ (hT7.later _) (by omega))))) | quiet_step ((go_at_call 15; exact Calls.after (scion_any _ _ _ n _ (hT7.later _) (by omega)))) | (refine wpQuiet_step (fun K hK => ?_); go_simp; split <;> (refine hK _ ?_; clear hK K))))
           all_goals (refine wpQuiet_nil ?_; intro _ hw'; obtain ⟨u', hw''⟩ := hw'; subst hw''; obtain ⟨wd, hbd⟩ := u'; simp only [After.val_mk]))
          have ld := later hbd
          clear B0
          have B0 := B0o.out
          go_wp2_with fail
          refine (lawcheck_any c t ⟨aA, aC, x.stubs, bA, bC, x.scions, x.epoch, x.rA, x.rC, x.received⟩ _ (Hc _) (HX7 _)).mono ?_
          rintro r wz ⟨rfl, hbz⟩
          have lz := later hbz
          rw [hf.out]
          go_wp2_with fail
          go_ret
          exact ⟨rfl, below_of⟩
        · obtain ⟨g, rfl⟩ := O2.isSome (by rintro e0; rw [e0] at hk; simp at hk)
          have hg1 := O2.base_le
          have hg5 : (Value.slice aA x.stubs.length aC).ownBlock ≠ some g := fun e0 => by have := hA1.out g e0; omega
          have hkl := (List.getElem?_eq_some_iff.1 hk).1
          have hk' : ¬ ((k : Int) < 0) := by omega
          go_upto_region 28 with fail
          (refine wp_region_after (by kernel_rfl) (by kernel_rfl) ?_
           repeat (any_goals (first | go_big_quiet_skip | (go_big_quiet_want; go_big_quiet_op; first | go_big_quiet_on | go_big_quiet_call ((go_at_call 15; exact Calls.after (scion_any _ _ _ n _ (hT7.later _) (by omega))))) | quiet_step ((go_at_call 15; exact Calls.after (scion_any _ _ _ n _ (hT7.later _) (by omega)))) | (refine wpQuiet_step (fun K hK => ?_); go_simp; split <;> (refine hK _ ?_; clear hK K))))
           all_goals (refine wpQuiet_nil ?_; intro _ hw'; obtain ⟨u', hw''⟩ := hw'; subst hw''; obtain ⟨wd, hbd⟩ := u'; simp only [After.val_mk]))
          have ld := later hbd
          have O1d := O1.below hbd
          have O2d := O2.below hbd
          clear B0
          have B0 := B0o.out
          have e0 := O2d.cell ScionE.enc hk (j := 10) rfl
          have e1 := O2d.cell ScionE.enc hk (j := 11) rfl
          have z0 := O2d.free (k * 12 + 10)
          have z1 := O2d.free (k * 12 + 11)
          go_upto_region 36 with fail
          refine wp_name ?_
          intro w9 hv9
          have B0a := boxed_far2 B0 (by first | (simp; done) | (simp; omega) | omega) (by first | (simp; done) | (simp; omega) | omega) hv9
          have B1a := boxed_far2 B1 (by first | (simp; done) | (simp; omega) | omega) (by first | (simp; done) | (simp; omega) | omega) hv9
          have B2a := boxed_far2 B2 (by first | (simp; done) | (simp; omega) | omega) (by first | (simp; done) | (simp; omega) | omega) hv9
          have l9 := later_put2 (W := w) (by show w.heap.size ≤ g; omega) (by show w.heap.size ≤ g; omega) hv9
          have O1e := (O2d.store ScionE.enc (j := 10) (u := .int .i64 t.machine) (x' := { e with lockMachine := t.machine }) hk (by omega) rfl).store ScionE.enc (j := 11) (u := .int .i64 (wrap64 (t.serial + 1))) (x' := { e with lockMachine := t.machine, lockSerial := wrap64 (t.serial + 1) }) (List.getElem?_set_self hkl) (by omega) rfl
          have O2e := (O1d.far (p := ⟨g, k * 12 + 10, none⟩) hg5 (.int .i64 t.machine)).far (p := ⟨g, k * 12 + 11, none⟩) hg5 (.int .i64 (wrap64 (t.serial + 1)))
          rw [List.set_set] at O1e
          have O1f := (show Own _ _ _ _ w9 _ _ from hv9 ▸ O1e)
          have O2f := (show Own _ _ _ _ w9 _ _ from hv9 ▸ O2e)
          have hf := hide (refused_scion (c := c) (t := t) (ep := x.epoch) (S := x.stubs) (N := x.scions) (r := x.received) (x' := { e with lockMachine := t.machine, lockSerial := wrap64 (t.serial + 1) }) hnm hk hp hno hp (by
            have hne : teq t.machine (wrap64 (t.serial + 1)) t.machine t.serial = false := teq_false.2 (fun h => wrap_ne _ h.2)
            simp [scionE, freeB, h0, hne]))
          obtain ⟨S', hS'⟩ : ∃ S' : List ScionE, S' = x.scions.set k { e with lockMachine := t.machine, lockSerial := wrap64 (t.serial + 1) } := ⟨_, rfl⟩
          have hSl : x.scions.length = S'.length := by rw [hS', List.length_set]
          rw [← hS'] at O1f hf
          rw [hSl] at B2a O1f
          have hS1 := (O1f.at_ ScionE.enc).2.2
          have hS2 := (O2f.at_ StubE.enc).2.2
          have X : TablesV.at_ ⟨aA, aC, x.stubs, some ⟨g, 0, none⟩, bC, S', x.epoch, x.rA, x.rC, x.received⟩ w9 := ⟨hS2, hS1, (Hx _).r, by simp only; omega, by simp only; omega, hxr⟩
          clear B0 B1 B2 B3 O1 O2 O1d O2d O1e O1f O2e O2f hS' hSl hv9 e0 z0 e1 z1
          go_wp2_with fail
          refine (lawcheck_any c t ⟨aA, aC, x.stubs, some ⟨g, 0, none⟩, bC, S', x.epoch, x.rA, x.rC, x.received⟩ _ (Hc _) (X.below below_of)).mono ?_
          rintro r wz ⟨rfl, hbz⟩
          have lz := later hbz
          rw [hf.out]
          go_wp2_with fail
          go_ret
          exact ⟨rfl, below_of⟩
      · have hN1 : hw % 8 < 7 := by omega
        have hN2 : ¬ 0 < c.scions.length := by omega
        clear hN
        have hf1 := hide (check_no_epoch (c := c) (t := t) (ep := wrap64 (c.epoch - 1)) (S := x.stubs) (N := x.scions) (r := x.received) (fun e => wrap_ne' _ e.symm))
        have hf2 := hide (check_no_epoch (c := c) (t := t) (ep := wrap64 (c.epoch + 1)) (S := x.stubs) (N := x.scions) (r := x.received) (fun e => wrap_ne _ e.symm))
        go_upto_region 11 with fail
        refine wp_name ?_
        intro w9 hv9
        have B0a := boxed_far B0 (by first | (simp; done) | (simp; omega) | omega) hv9
        have B1a := boxed_far B1 (by first | (simp; done) | (simp; omega) | omega) hv9
        have B2a := boxed_set B2 hv9
        have l9 := later_put (W := w) (by simp only; omega) hv9
        have O1a := O1.set (p := ⟨w.heap.size + 1 + 1, 2, none⟩) (by show w.heap.size + 1 + 1 < _; omega) (.int .i64 (wrap64 (c.epoch - 1)))
        have O2a := O2.set (p := ⟨w.heap.size + 1 + 1, 2, none⟩) (by show w.heap.size + 1 + 1 < _; omega) (.int .i64 (wrap64 (c.epoch - 1)))
        rw [hv9] at O1a O2a
        simp only [List.setIfInBounds_toArray, List.set_cons_zero, List.set_cons_succ] at B2a
        clear B0 B1 B2 B3 O1 O2 hv9
        by_cases hneg : c.epoch < 0
        · go_upto_region 36 with fail
          refine wp_name ?_
          intro w11 hv11
          have B0c := boxed_far B0a (by first | (simp; done) | (simp; omega) | omega) hv11
          have B1c := boxed_far B1a (by first | (simp; done) | (simp; omega) | omega) hv11
          have B2c := boxed_set B2a hv11
          have l11 := later_put (W := w) (by simp only; omega) hv11
          have O1c := O1a.set (p := ⟨w.heap.size + 1 + 1, 2, none⟩) (by show w.heap.size + 1 + 1 < _; omega) (.int .i64 (wrap64 (c.epoch + 1)))
          have O2c := O2a.set (p := ⟨w.heap.size + 1 + 1, 2, none⟩) (by show w.heap.size + 1 + 1 < _; omega) (.int .i64 (wrap64 (c.epoch + 1)))
          rw [hv11] at O1c O2c
          simp only [List.setIfInBounds_toArray, List.set_cons_zero, List.set_cons_succ] at B2c
          have X' : TablesV.at_ ⟨aA, aC, x.stubs, bA, bC, x.scions, wrap64 (c.epoch + 1), x.rA, x.rC, x.received⟩ w11 := ⟨(O1c.at_ StubE.enc).2.2, (O2c.at_ ScionE.enc).2.2, (Hx _).r, by simp only; omega, by simp only; omega, hxr⟩
          clear B0a B1a B2a O1a O2a O1c O2c hv11
          go_wp2_with fail
          refine (lawcheck_any c t ⟨aA, aC, x.stubs, bA, bC, x.scions, wrap64 (c.epoch + 1), x.rA, x.rC, x.received⟩ _ (Hc _) (X'.below below_of)).mono ?_
          rintro r wz ⟨rfl, hbz⟩
          have lz := later hbz
          rw [hf2.out]
          go_wp2_with fail
          go_ret
          exact ⟨rfl, below_of⟩
        · have X' : TablesV.at_ ⟨aA, aC, x.stubs, bA, bC, x.scions, wrap64 (c.epoch - 1), x.rA, x.rC, x.received⟩ w9 := ⟨(O1a.at_ StubE.enc).2.2, (O2a.at_ ScionE.enc).2.2, (Hx _).r, by simp only; omega, by simp only; omega, hxr⟩
          clear O1a O2a
          go_wp2_with fail
          refine (lawcheck_any c t ⟨aA, aC, x.stubs, bA, bC, x.scions, wrap64 (c.epoch - 1), x.rA, x.rC, x.received⟩ _ (Hc _) (X'.below below_of)).mono ?_
          rintro r wz ⟨rfl, hbz⟩
          have lz := later hbz
          rw [hf1.out]
          go_wp2_with fail
          go_ret
          exact ⟨rfl, below_of⟩
end Go.Proofs.Ytnjpmpelgigmjaa
