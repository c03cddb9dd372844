/-
  Contracts of the functions of this seat that each theorem names: what a call returns, and that it writes nothing that was there before. The conditions stand in each theorem.
-/
import Derived.Test.YtnjpmpelgigmjaaC34Law4
import Derived.Test.YtnjpmpelgigmjaaC34Plain3
import Derived.Test.YtnjpmpelgigmjaaLater2
namespace Go.Proofs.Ytnjpmpelgigmjaa
open Go.RowKit
attribute [local go_sem ↓] run_eql_trace run_neq_trace run_neq_StubE run_neq_ScionE

set_option maxRecDepth 100000 in
set_option maxHeartbeats 1600000 in
theorem condemns_any (c : ClaimV) (t : TraceE) (x : TablesV) (w : World) (hc : c.at_ w) (hx : x.at_ w) :
    Calls Try.prog 5 #[c.v, t.v, x.v] w fun r w' => r = .returned (.bool true) ∧ Below w.heap.size w w' := by
  have Hc : ∀ u [Later w u], c.at_ u := fun u i => hc.below i.below
  have Hx : ∀ u [Later w u], x.at_ u := fun u i => hx.below i.below
  go_enter Try.func5, Try.ntmps5
  go_wp2_with fail
  refine calls_name ?_
  intro w0 h0
  obtain ⟨B0, B1, B2, l0⟩ := box3 h0
  have hs0 : w.heap.size + 1 + 1 < w0.heap.size := by rw [← h0]; simp
  clear h0
  refine (awake_any _).mono ?_
  rintro r w1 ⟨rfl, hb⟩
  have l1 := later hb
  clear hb
  go_wp2_with fail
  refine (many_any x c _ _ (heap_alloc_new _ _) hc.tot hx.sl hx.nl hx.rl).mono ?_
  rintro r w2 ⟨rfl, hb⟩
  have l2 := later hb
  clear hb
  cases hm : manyB x c
  rotate_left
  · go_wp2_with fail
    go_ret
    exact ⟨rfl, below_of⟩
  obtain ⟨n1, n2, n3, n4⟩ := many_false hm
  cases h0 : teq t.machine t.serial 0 0
  rotate_left
  · go_wp2_with fail
    go_ret
    exact ⟨rfl, below_of⟩
  go_wp2_with fail
  refine (refRelease_any false t x.sA x.sC x.stubs x.nA x.nC x.scions _ (Hx _).s (Hx _).n (by omega) (by omega)).mono ?_
  rintro r w3 ⟨v1, v2, rfl, ho1, ho2, hb⟩
  have l3 := later hb
  obtain ⟨pA, pC, rfl, hpC, hpm, -⟩ := ho1.slAt StubE.enc
  obtain ⟨qA, qC, rfl, hqC, hqm, -⟩ := ho2.slAt ScionE.enc
  have hg : w.heap.size + 1 + 1 < w2.heap.size := Nat.lt_of_lt_of_le hs0 (below_of (b := w0) (w := w2)).size
  clear hb
  go_upto_region 6 with fail
  refine wp_name ?_
  intro w4 hw4
  have B2' := boxed_set2 B2 hw4
  have B0' := boxed_far2 B0 (by first | (simp; done) | (simp; omega) | omega) (by first | (simp; done) | (simp; omega) | omega) hw4
  have B1' := boxed_far2 B1 (by first | (simp; done) | (simp; omega) | omega) (by first | (simp; done) | (simp; omega) | omega) hw4
  have l4 := later_put2 (W := w) (by simp; omega) (by simp; omega) hw4
  have ho1' := ho1.set2 hw4 hg hg
  have ho2' := ho2.set2 hw4 hg hg
  obtain ⟨x', hx'⟩ : ∃ x' : TablesV, x' = ⟨pA, pC, relStubs false t x.stubs, qA, qC, relScions false t x.scions, x.epoch, x.rA, x.rC, x.received⟩ := ⟨_, rfl⟩
  have hx4 : x'.at_ w4 := by
    rw [hx']
    refine ⟨(ho1'.at_ StubE.enc).2.2, (ho2'.at_ ScionE.enc).2.2, (Hx _).r, ?_, ?_, hx.rl⟩
    · simp only [maxLen] at hpm ⊢; omega
    · simp only [maxLen] at hqm ⊢; omega
  have hlen1 : x'.stubs.length ≤ 30 := by rw [hx']; simp only [checks_relS]; omega
  have hlen2 : x'.scions.length ≤ 30 := by rw [hx']; simp only [checks_relN]; omega
  have Q1 := hide (show x'.stubs = relStubs false t x.stubs by rw [hx'])
  have Q2 := hide (show x'.scions = relScions false t x.scions by rw [hx'])
  have BX : Boxed w4 (w.heap.size + 1 + 1) #[.slice x'.sA x'.stubs.length x'.sC, .slice x'.nA x'.scions.length x'.nC, .int .i64 x'.epoch, .slice x'.rA x'.received.length x'.rC] 31 := by rw [hx']; exact B2'
  have HX : ∀ u [Later w4 u], x'.at_ u := fun u i => hx4.below i.below
  clear hx' hx4 ho1 ho2 ho1' ho2' B2' B0 B1 B2 hpC hpm hqC hqm l0 l1 l2 l3 hw4 Hx hx hs0
  go_wp2_with fail
  refine (lawlock_any c t x' _ (Hc _) (HX _) (by omega) (by omega)).mono ?_
  rintro r w5 ⟨y, rfl, hy, hy1, hy2, hy3, hy4, -, -, hb⟩
  have l5 := later hb
  have HY1 := hide hy1
  have HY2 := hide hy2
  have hly1 := hide (show y.stubs.length = x'.stubs.length by rw [hy1, lockStubs_length])
  have hly2 := hide (show y.scions.length = x'.scions.length by rw [hy2, lockScions_length])
  have hm1 : y.stubs.length ≤ 30 := by rw [hly1.out]; exact hlen1
  have hm2 : y.scions.length ≤ 30 := by rw [hly2.out]; exact hlen2
  have Hy : ∀ u [Later w5 u], y.at_ u := fun u i => hy.below i.below
  clear hb hy1 hy2 hy3 hy4
  go_wp2_with fail
  refine calls_name ?_
  intro w6 hw6
  obtain ⟨B6, l6⟩ := box1 hw6
  clear hw6
  refine (commit_any t y.sA y.sC y.stubs y.nA y.nC y.scions _ (Hy _).s (Hy _).n (by omega) (by omega)).mono ?_
  rintro r w7 ⟨v3, v4, rfl, ho3, ho4, hb⟩
  have l7 := later hb
  obtain ⟨rA, rC, rfl, hrC, hrm, -⟩ := ho3.slAt StubE.enc
  obtain ⟨sA, sC, rfl, hsC, hsm, -⟩ := ho4.slAt ScionE.enc
  have hg6 := boxed_lt B6
  clear hb
  go_upto_region 8 with fail
  refine wp_name ?_
  intro w8 hw8
  have B8 := boxed_set2 B6 hw8
  have l8 := later_put2 (W := w5) (by simp) (by simp) hw8
  obtain ⟨Y1, hY1⟩ : ∃ Y1, Y1 = relStubs true t y.stubs := ⟨_, rfl⟩
  obtain ⟨Y2, hY2⟩ : ∃ Y2, Y2 = relScions true t y.scions := ⟨_, rfl⟩
  have hlY1 := hide (show Y1.length = x'.stubs.length by rw [hY1, checks_relS, hly1.out])
  have hlY2 := hide (show Y2.length = x'.scions.length by rw [hY2, checks_relN, hly2.out])
  have HS : ∀ u [Later w8 u], SlAt StubE.cells 12 u rA Y1 := fun u i => (((ho3.set2 hw8 hg6 hg6).at_ StubE.enc).2.2.below i.below : SlAt StubE.cells 12 u rA (relStubs true t y.stubs)) |> (hY1 ▸ ·)
  have HN : ∀ u [Later w8 u], SlAt ScionE.cells 12 u sA Y2 := fun u i => (((ho4.set2 hw8 hg6 hg6).at_ ScionE.enc).2.2.below i.below : SlAt ScionE.cells 12 u sA (relScions true t y.scions)) |> (hY2 ▸ ·)
  simp only [List.setIfInBounds_toArray, List.set_cons_zero, List.set_cons_succ] at B8
  have BY : Boxed w8 w5.heap.size #[.slice rA x'.stubs.length rC, .slice sA x'.scions.length sC, .int .i64 y.epoch, .slice y.rA y.received.length y.rC] 31 := by rw [← hlY1.out, ← hlY2.out, hY1, hY2]; exact B8
  have Z1 := hide (fun (i : Nat) (e : StubE) (h : x'.stubs[i]? = some e) => show Y1[i]? = some (StubE.want x'.stubs c.stubs i e) by
    rw [hY1, HY1.out]; exact StubE.condemned h0 (by rw [Q1.out]; exact StubE.rel_no h0) h)
  have Z2 := hide (fun (i : Nat) (e : ScionE) (h : x'.scions[i]? = some e) => show Y2[i]? = some (ScionE.want x'.scions c.scions i e) by
    rw [hY2, HY2.out]; exact ScionE.condemned h0 (by rw [Q2.out]; exact ScionE.rel_no h0) h)
  clear B8 B6 ho3 ho4 hw8 hY1 hY2 hrC hrm hsC hsm HY1 HY2 Q1 Q2 hly1 hly2 hg6 l6 l7 hm1 hm2
  have hbs := (Hc w8).sl
  have hbn := (Hc w8).nl
  go_wp2_with fail
  go_loopw [8, 9, 10] (fun i _ _ wr => ∃ n : Nat, n ≤ x'.stubs.length ∧ i = .int .i64 n ∧ Below w8.heap.size w8 wr) (fun i _ _ _ => x'.stubs.length - (intOf i).toNat)
  case atStart => exact ⟨0, by omega, rfl, Below.refl _ _⟩
  case round =>
    obtain ⟨n, hn, rfl, hb⟩ := hrel
    have lr := later hb
    obtain ⟨wo, rfl⟩ : ∃ wo : World, wo = wr := ⟨_, rfl⟩
    by_cases hlt : n < x'.stubs.length
    · obtain ⟨b, off, e, hA, hbk, he, hcells⟩ := (HX wo).s.at_ hlt
      obtain ⟨f0, f1, f2, f3, f4, f5, f6, f7, f8, f9, f10, f11⟩ := StubE.facts hcells
      have Hz := hide (Z1.out n e he)
      have HXs : ∀ u [Later w4 u], SlAt StubE.cells 12 u (some ⟨b, off, none⟩) x'.stubs := fun u i => hA ▸ (HX u).s
      rw [hA] at BX
      clear hcells hA he
      go_wp2_with fail
      refine wp_name ?_
      intro wi hwi
      obtain ⟨BW, li⟩ := box1 hwi
      clear hwi f0 f1 f2 f3 f4 f5 f6 f7 f8 f9 f10 f11
      go_loopw [10] (fun k wx => ∃ m : Nat, m ≤ c.stubs.length ∧ k = .int .i64 m ∧ Boxed wx wo.heap.size (StubE.want x'.stubs (c.stubs.take m) n e).arr 42 ∧ Below wo.heap.size wi wx) (fun k _ => c.stubs.length - (intOf k).toNat)
      case atStart => exact ⟨0, by omega, rfl, BW, Below.refl _ _⟩
      case round =>
        obtain ⟨m, hm, rfl, BX', hb'⟩ := hrel
        have lx : ∀ b [Later b wo], Later b wr := fun b k => ⟨((li b).below).trans (hb'.mono k.below.size)⟩
        have hzr : wo.heap.size ≤ wr.heap.size := (lx wo).below.size
        by_cases hlt' : m < c.stubs.length
        · obtain ⟨b', off', nd, hA2, hbk2, he2, hcells2⟩ := (Hc wr).s.at_ hlt'
          obtain ⟨g0, g1, g2⟩ := NeedE.facts hcells2
          have G0 := Later.cell g0
          have G1 := Later.cell g1
          have G2 := Later.cell g2
          have Hw := hide (show StubE.want x'.stubs (c.stubs.take (m + 1)) n e = if StubE.hit x'.stubs n nd then (StubE.want x'.stubs (c.stubs.take m) n e).cond else StubE.want x'.stubs (c.stubs.take m) n e by rw [List.take_add_one, he2]; exact StubE.want_snoc)
          rw [hA2] at B0'
          clear g0 g1 g2 hcells2 hA2 he2
          go_wp2_with fail
          (refine wp_region_after (by kernel_rfl) (by kernel_rfl) ?_
           repeat (any_goals (first | go_big_quiet_skip | (go_big_quiet_want; go_big_quiet_op; first | go_big_quiet_on | go_big_quiet_call ((go_at_call 14; exact Calls.after (stub_any _ _ _ nd _ (HXs _) (HX w4).sl)))) | quiet_step ((go_at_call 14; exact Calls.after (stub_any _ _ _ nd _ (HXs _) (HX w4).sl))) | (refine wpQuiet_step (fun K hK => ?_); go_simp; split <;> (refine hK _ ?_; clear hK K))))
           all_goals (refine wpQuiet_nil ?_; intro _ hw'; obtain ⟨u', hw''⟩ := hw'; subst hw''; obtain ⟨w1, hb1⟩ := u'; simp only [After.val_mk]))
          all_goals go_wp2_with fail
          · have ht : StubE.hit x'.stubs n nd = true := by assumption
            have ld := later hb1
            go_roundw
            case rel => exact ⟨m + 1, by omega, by go_num, by rw [Hw.out, if_pos ht]; exact boxed_set3 BX' rfl, (by repeat (first | with_reducible exact (hb'.trans (hb1.mono hzr)) | with_reducible exact Below.refl _ _ | (with_reducible refine Below.drew ?_) | (with_reducible refine below_drewN ?_ _) | (with_reducible refine Below.alloc ?_ ?_ _; rotate_left; (first | omega | (simp <;> omega))) | (with_reducible refine Below.setCell ?_ ?_ _; rotate_left; (first | omega | (simp <;> omega)))))⟩
            case measure => simp [intOf]; omega
          · have ht : StubE.hit x'.stubs n nd = false := by assumption
            have ld := later hb1
            go_roundw
            case rel => exact ⟨m + 1, by omega, by go_num, by rw [Hw.out, if_neg (by rw [ht]; decide)]; exact boxed_later BX', (by repeat (first | with_reducible exact (hb'.trans (hb1.mono hzr)) | with_reducible exact Below.refl _ _ | (with_reducible refine Below.drew ?_) | (with_reducible refine below_drewN ?_ _) | (with_reducible refine Below.alloc ?_ ?_ _; rotate_left; (first | omega | (simp <;> omega))) | (with_reducible refine Below.setCell ?_ ?_ _; rotate_left; (first | omega | (simp <;> omega)))))⟩
            case measure => simp [intOf]; omega
        · obtain ⟨z, hz⟩ : ∃ z, z = StubE.want x'.stubs c.stubs n e := ⟨_, rfl⟩
          have hm' : m = c.stubs.length := by omega
          rw [hm', List.take_length, ← hz] at BX'
          obtain ⟨b2, off2, z', hA2, hbk2, he2, hcells2⟩ := (HS wr).at_ (k := n) (List.getElem?_eq_some_iff.1 Hz.out).1
          rw [Hz.out, ← hz] at he2
          injection he2 with he2
          subst he2
          obtain ⟨g0, g1, g2, g3, g4, g5, g6, g7, g8, g9, g10, g11⟩ := StubE.facts hcells2
          have G0 := Later.cell g0
          have G1 := Later.cell g1
          have G2 := Later.cell g2
          have G3 := Later.cell g3
          have G4 := Later.cell g4
          have G5 := Later.cell g5
          have G6 := Later.cell g6
          have G7 := Later.cell g7
          have G8 := Later.cell g8
          have G9 := Later.cell g9
          have G10 := Later.cell g10
          have G11 := Later.cell g11
          have hzz : StubE.beq z z = true := StubE.beq_iff.2 rfl
          rw [hA2] at BY
          clear g0 g1 g2 g3 g4 g5 g6 g7 g8 g9 g10 g11 hcells2 hA2 hz hm'
          go_wp2_with fail
          (refine wp_region_after (by kernel_rfl) (by kernel_rfl) ?_
           repeat (any_goals (first | go_big_quiet_skip | (go_big_quiet_want; go_big_quiet_op; first | go_big_quiet_on | go_big_quiet_call (fail)) | quiet_step (fail) | (refine wpQuiet_step (fun K hK => ?_); go_simp; split <;> (refine hK _ ?_; clear hK K))))
           all_goals (refine wpQuiet_nil ?_; intro _ hw'; obtain ⟨u', hw''⟩ := hw'; subst hw''; obtain ⟨w1, hb1⟩ := u'; simp only [After.val_mk]))
          have ld := later hb1
          go_wp2_with fail
          go_roundw
          case rel => exact ⟨n + 1, by omega, by go_num, below_of⟩
          case measure => simp [intOf]; omega
    · have hn' : n = x'.stubs.length := by omega
      clear hn'
      go_wp2_with fail
      obtain ⟨wq, rfl⟩ : ∃ wq : World, wq = wo := ⟨_, rfl⟩
      go_loopw [11, 12, 13] (fun i _ _ wr => ∃ n : Nat, n ≤ x'.scions.length ∧ i = .int .i64 n ∧ Below wq.heap.size wq wr) (fun i _ _ _ => x'.scions.length - (intOf i).toNat)
      case atStart => exact ⟨0, by omega, rfl, Below.refl _ _⟩
      case round =>
        obtain ⟨n, hn, rfl, hb⟩ := hrel
        have lr := later hb
        obtain ⟨wo, rfl⟩ : ∃ wo : World, wo = wr := ⟨_, rfl⟩
        by_cases hlt : n < x'.scions.length
        · obtain ⟨b, off, e, hA, hbk, he, hcells⟩ := (HX wo).n.at_ hlt
          obtain ⟨f0, f1, f2, f3, f4, f5, f6, f7, f8, f9, f10, f11⟩ := ScionE.facts hcells
          have Hz := hide (Z2.out n e he)
          have HXs : ∀ u [Later w4 u], SlAt ScionE.cells 12 u (some ⟨b, off, none⟩) x'.scions := fun u i => hA ▸ (HX u).n
          rw [hA] at BX
          clear hcells hA he
          go_wp2_with fail
          refine wp_name ?_
          intro wi hwi
          obtain ⟨BW, li⟩ := box1 hwi
          clear hwi f0 f1 f2 f3 f4 f5 f6 f7 f8 f9 f10 f11
          go_loopw [13] (fun k wx => ∃ m : Nat, m ≤ c.scions.length ∧ k = .int .i64 m ∧ Boxed wx wo.heap.size (ScionE.want x'.scions (c.scions.take m) n e).arr 45 ∧ Below wo.heap.size wi wx) (fun k _ => c.scions.length - (intOf k).toNat)
          case atStart => exact ⟨0, by omega, rfl, BW, Below.refl _ _⟩
          case round =>
            obtain ⟨m, hm, rfl, BX', hb'⟩ := hrel
            have lx : ∀ b [Later b wo], Later b wr := fun b k => ⟨((li b).below).trans (hb'.mono k.below.size)⟩
            have hzr : wo.heap.size ≤ wr.heap.size := (lx wo).below.size
            by_cases hlt' : m < c.scions.length
            · obtain ⟨b', off', nd, hA2, hbk2, he2, hcells2⟩ := (Hc wr).n.at_ hlt'
              obtain ⟨g0, g1, g2⟩ := NeedE.facts hcells2
              have G0 := Later.cell g0
              have G1 := Later.cell g1
              have G2 := Later.cell g2
              have Hw := hide (show ScionE.want x'.scions (c.scions.take (m + 1)) n e = if ScionE.hit x'.scions n nd then (ScionE.want x'.scions (c.scions.take m) n e).cond else ScionE.want x'.scions (c.scions.take m) n e by rw [List.take_add_one, he2]; exact ScionE.want_snoc)
              rw [hA2] at B0'
              clear g0 g1 g2 hcells2 hA2 he2
              go_wp2_with fail
              (refine wp_region_after (by kernel_rfl) (by kernel_rfl) ?_
               repeat (any_goals (first | go_big_quiet_skip | (go_big_quiet_want; go_big_quiet_op; first | go_big_quiet_on | go_big_quiet_call ((go_at_call 15; exact Calls.after (scion_any _ _ _ nd _ (HXs _) (HX w4).nl)))) | quiet_step ((go_at_call 15; exact Calls.after (scion_any _ _ _ nd _ (HXs _) (HX w4).nl))) | (refine wpQuiet_step (fun K hK => ?_); go_simp; split <;> (refine hK _ ?_; clear hK K))))
               all_goals (refine wpQuiet_nil ?_; intro _ hw'; obtain ⟨u', hw''⟩ := hw'; subst hw''; obtain ⟨w1, hb1⟩ := u'; simp only [After.val_mk]))
              all_goals go_wp2_with fail
              · have ht : ScionE.hit x'.scions n nd = true := by assumption
                have ld := later hb1
                go_roundw
                case rel => exact ⟨m + 1, by omega, by go_num, by rw [Hw.out, if_pos ht]; exact boxed_set3 BX' rfl, (by repeat (first | with_reducible exact (hb'.trans (hb1.mono hzr)) | with_reducible exact Below.refl _ _ | (with_reducible refine Below.drew ?_) | (with_reducible refine below_drewN ?_ _) | (with_reducible refine Below.alloc ?_ ?_ _; rotate_left; (first | omega | (simp <;> omega))) | (with_reducible refine Below.setCell ?_ ?_ _; rotate_left; (first | omega | (simp <;> omega)))))⟩
                case measure => simp [intOf]; omega
              · have ht : ScionE.hit x'.scions n nd = false := by assumption
                have ld := later hb1
                go_roundw
                case rel => exact ⟨m + 1, by omega, by go_num, by rw [Hw.out, if_neg (by rw [ht]; decide)]; exact boxed_later BX', (by repeat (first | with_reducible exact (hb'.trans (hb1.mono hzr)) | with_reducible exact Below.refl _ _ | (with_reducible refine Below.drew ?_) | (with_reducible refine below_drewN ?_ _) | (with_reducible refine Below.alloc ?_ ?_ _; rotate_left; (first | omega | (simp <;> omega))) | (with_reducible refine Below.setCell ?_ ?_ _; rotate_left; (first | omega | (simp <;> omega)))))⟩
                case measure => simp [intOf]; omega
            · obtain ⟨z, hz⟩ : ∃ z, z = ScionE.want x'.scions c.scions n e := ⟨_, rfl⟩
              have hm' : m = c.scions.length := by omega
              rw [hm', List.take_length, ← hz] at BX'
              obtain ⟨b2, off2, z', hA2, hbk2, he2, hcells2⟩ := (HN wr).at_ (k := n) (List.getElem?_eq_some_iff.1 Hz.out).1
              rw [Hz.out, ← hz] at he2
              injection he2 with he2
              subst he2
              obtain ⟨g0, g1, g2, g3, g4, g5, g6, g7, g8, g9, g10, g11⟩ := ScionE.facts hcells2
              have G0 := Later.cell g0
              have G1 := Later.cell g1
              have G2 := Later.cell g2
              have G3 := Later.cell g3
              have G4 := Later.cell g4
              have G5 := Later.cell g5
              have G6 := Later.cell g6
              have G7 := Later.cell g7
              have G8 := Later.cell g8
              have G9 := Later.cell g9
              have G10 := Later.cell g10
              have G11 := Later.cell g11
              have hzz : ScionE.beq z z = true := ScionE.beq_iff.2 rfl
              rw [hA2] at BY
              clear g0 g1 g2 g3 g4 g5 g6 g7 g8 g9 g10 g11 hcells2 hA2 hz hm'
              go_wp2_with fail
              (refine wp_region_after (by kernel_rfl) (by kernel_rfl) ?_
               repeat (any_goals (first | go_big_quiet_skip | (go_big_quiet_want; go_big_quiet_op; first | go_big_quiet_on | go_big_quiet_call (fail)) | quiet_step (fail) | (refine wpQuiet_step (fun K hK => ?_); go_simp; split <;> (refine hK _ ?_; clear hK K))))
               all_goals (refine wpQuiet_nil ?_; intro _ hw'; obtain ⟨u', hw''⟩ := hw'; subst hw''; obtain ⟨w1, hb1⟩ := u'; simp only [After.val_mk]))
              have ld := later hb1
              go_wp2_with fail
              go_roundw
              case rel => exact ⟨n + 1, by omega, by go_num, below_of⟩
              case measure => simp [intOf]; omega
        · go_wp2_with fail
          go_ret
          exact ⟨rfl, below_of⟩
end Go.Proofs.Ytnjpmpelgigmjaa
