/-
  Contracts of the functions of this seat that each theorem names: what a call returns, and that it writes nothing that was there before. The conditions stand in each theorem.
-/
import Derived.Test.YtnjpmpelgigmjaaC34Walk2
namespace Go.Proofs.Ytnjpmpelgigmjaa
open Go.RowKit
attribute [local go_sem ↓] run_eql_trace

set_option maxHeartbeats 1600000 in
theorem refCheck_any (c : ClaimV) (t : TraceE) (ep : Int) (sA : Option Addr) (sC : Nat) (stubs : List StubE) (nA : Option Addr) (nC : Nat) (scions : List ScionE) (rA : Option Addr) (rC : Nat) (received : List Int) (w : World)
    (hc : c.at_ w) (hs : SlAt StubE.cells 12 w sA stubs) (hn : SlAt ScionE.cells 12 w nA scions) (hr : SlAt I64.cells 1 w rA received)
    (hsl : stubs.length ≤ 9223372036854775807) (hnl : scions.length ≤ 9223372036854775807) (hrl : received.length ≤ 9223372036854775807) :
    Calls Try.prog 13 #[c.v, t.v, .int .i64 ep, .slice sA stubs.length sC, .slice nA scions.length nC, .slice rA received.length rC] w
      fun e w' => e = .returned (.bool (checkB c t ep stubs scions received)) ∧ Below w.heap.size w w' := by
  by_cases h0 : teq t.machine t.serial 0 0 = true
  · have Hfin := hide (show checkB c t ep stubs scions received = false by simp [checkB, h0])
    go_enter Try.func13, Try.ntmps13
    go_wp2
    go_ret
    exact ⟨ret_bool Hfin.out.symm, (by repeat (first | with_reducible exact Below.refl _ _ | (with_reducible refine Below.drew ?_) | (with_reducible refine below_drewN ?_ _) | (with_reducible refine Below.alloc ?_ ?_ _; rotate_left; (first | omega | (simp <;> omega))) | (with_reducible refine Below.setCell ?_ ?_ _; rotate_left; (first | omega | (simp <;> omega)))))⟩
  by_cases h1 : c.epoch = ep
  rotate_left
  · have Hfin := hide (show checkB c t ep stubs scions received = false by simp [checkB, h1])
    go_enter Try.func13, Try.ntmps13
    go_wp2
    go_ret
    exact ⟨ret_bool Hfin.out.symm, (by repeat (first | with_reducible exact Below.refl _ _ | (with_reducible refine Below.drew ?_) | (with_reducible refine below_drewN ?_ _) | (with_reducible refine Below.alloc ?_ ?_ _; rotate_left; (first | omega | (simp <;> omega))) | (with_reducible refine Below.setCell ?_ ?_ _; rotate_left; (first | omega | (simp <;> omega)))))⟩
  subst h1
  have Hfin := hide (show checkB c t c.epoch stubs scions received = (c.stubs.all (stubP t stubs received) && (c.checks.all (fun n => quietB n t stubs) && c.scions.all (scionP t scions received))) by simp [checkB, h0])
  go_enter Try.func13, Try.ntmps13
  go_wp2
  refine wp_name ?_
  intro w0 hw0
  have hb0 : Below w.heap.size w w0 := by rw [← hw0]; exact (by repeat (first | with_reducible exact Below.refl _ _ | (with_reducible refine Below.drew ?_) | (with_reducible refine below_drewN ?_ _) | (with_reducible refine Below.alloc ?_ ?_ _; rotate_left; (first | omega | (simp <;> omega))) | (with_reducible refine Below.setCell ?_ ?_ _; rotate_left; (first | omega | (simp <;> omega)))))
  have z2 : w0.cell? ⟨w.heap.size, 2, none⟩ = some (.slice c.sA c.stubs.length c.sC) := by rw [← hw0]; simp
  have z3 : w0.cell? ⟨w.heap.size, 3, none⟩ = some (.slice c.nA c.scions.length c.nC) := by rw [← hw0]; simp
  have z4 : w0.cell? ⟨w.heap.size, 4, none⟩ = some (.slice c.kA c.checks.length c.kC) := by rw [← hw0]; simp
  have t0 : w0.cell? ⟨w.heap.size + 1, 0, none⟩ = some (.int .i64 t.machine) := by rw [← hw0]; simp
  have t1 : w0.cell? ⟨w.heap.size + 1, 1, none⟩ = some (.int .i64 t.serial) := by rw [← hw0]; simp
  clear hw0
  have hc0 := hc.below hb0
  have hs0 := hs.below hb0
  have hn0 := hn.below hb0
  have hr0 := hr.below hb0
  have hsl' := hc.sl
  have hnl' := hc.nl
  have hkl' := hc.kl
  clear hc hs hn hr
  go_loopw [13] (fun i wr => ∃ k : Nat, k ≤ c.stubs.length ∧ i = .int .i64 k ∧ AllTo (stubP t stubs received) c.stubs k ∧ Below w0.heap.size w0 wr) (fun i _ => c.stubs.length - (intOf i).toNat)
  case atStart => exact ⟨0, by omega, rfl, AllTo.zero, Below.refl _ _⟩
  case round =>
    obtain ⟨k, hk, rfl, hall, hb⟩ := hrel
    have hb' : Below w.heap.size w wr := hb0.trans (hb.mono hb0.size)
    have y2 := cell_below z2 hb
    by_cases hlt : k < c.stubs.length
    · obtain ⟨b, off, n, hA, hbk, he, hcells⟩ := (hc0.s.below hb).at_ hlt
      obtain ⟨f0, f1, f2⟩ := NeedE.facts hcells
      rw [hA] at y2
      clear hcells hA
      have g0 := After.cell f0
      have g1 := After.cell f1
      have g2 := After.cell f2
      have y2' := After.cell y2
      have q0 := After.cell (cell_below t0 hb)
      have q1 := After.cell (cell_below t1 hb)
      have Hs := hs0.below hb
      have Hr := hr0.below hb
      clear hs0 hr0 hn0 hc0 z2 z3 z4 t0 t1 f0 f1 f2 hb0
      go_wp2
      (refine wp_region_after (by kernel_rfl) (by kernel_rfl) ?_
       repeat (any_goals (first | go_big_quiet_skip | (go_big_quiet_want; go_big_quiet_op; first | go_big_quiet_on | go_big_quiet_call ((first | (go_at_call 30; exact Calls.after (quiet_any sA sC stubs n t _ (Hs.after _) hsl)) | (go_at_call 31; exact Calls.after (arrived_any rA rC received n.peer n.number n.stamp _ (Hr.after _) hrl))))) | quiet_step ((first | (go_at_call 30; exact Calls.after (quiet_any sA sC stubs n t _ (Hs.after _) hsl)) | (go_at_call 31; exact Calls.after (arrived_any rA rC received n.peer n.number n.stamp _ (Hr.after _) hrl)))) | (refine wpQuiet_step (fun K hK => ?_); go_simp; split <;> (refine hK _ ?_; clear hK K))))
       all_goals (refine wpQuiet_nil ?_; intro _ hw'; obtain ⟨u', hw''⟩ := hw'; subst hw''; obtain ⟨w1, hb1⟩ := u'; simp only [After.val_mk]))
      all_goals go_wp2
      all_goals first
        | (go_ret; exact ⟨ret_bool (by rw [Hfin.out, all_not he (by first | (simp [stubP, *]; done) | (simp [stubP, *, bnt ‹(!_) = true›]; done) | (simp [stubP, *, bnf ‹(!_) = false›]; done))]; rfl), hb'.trans (hb1.mono hb'.size)⟩)
        | (go_roundw
           case rel => exact ⟨k + 1, by omega, by go_num, hall.succ he (by first | (simp [stubP, *]; done) | (simp [stubP, *, bnt ‹(!_) = true›]; done) | (simp [stubP, *, bnf ‹(!_) = false›]; done)), hb.trans (hb1.mono hb.size)⟩
           case measure => simp [intOf]; omega)
    · have hk' : k = c.stubs.length := by omega
      have Hall := hide (show c.stubs.all (stubP t stubs received) = true by subst hk'; exact hall.all)
      have Z3 := cell_below z3 hb
      have Z4 := cell_below z4 hb
      have T0 := cell_below t0 hb
      have T1 := cell_below t1 hb
      have Hc := hc0.below hb
      have Hs := hs0.below hb
      have Hn := hn0.below hb
      have Hr := hr0.below hb
      clear hc0 hs0 hn0 hr0 z2 z3 z4 t0 t1 hall hk'
      go_wp2
      clear y2 hb hb0 hlt hk
      obtain ⟨w2, rfl⟩ : ∃ w2, w2 = wr := ⟨_, rfl⟩
      go_loopw [14] (fun i wx => ∃ k : Nat, k ≤ c.checks.length ∧ i = .int .i64 k ∧ AllTo (fun n => quietB n t stubs) c.checks k ∧ Below w2.heap.size w2 wx) (fun i _ => c.checks.length - (intOf i).toNat)
      case atStart => exact ⟨0, by omega, rfl, AllTo.zero, Below.refl _ _⟩
      case round =>
        obtain ⟨k, hk, rfl, hall, hb⟩ := hrel
        have hb'' : Below w.heap.size w wr := hb'.trans (hb.mono hb'.size)
        have y4 := cell_below Z4 hb
        by_cases hlt : k < c.checks.length
        · obtain ⟨b, off, n, hA, hbk, he, hcells⟩ := (Hc.k.below hb).at_ hlt
          obtain ⟨f0, f1, f2⟩ := NeedE.facts hcells
          rw [hA] at y4
          clear hcells hA
          have g0 := After.cell f0
          have g1 := After.cell f1
          have g2 := After.cell f2
          have y4' := After.cell y4
          have q0 := After.cell (cell_below T0 hb)
          have q1 := After.cell (cell_below T1 hb)
          have Hs' := Hs.below hb
          clear Hs Hr Hn Hc Z3 Z4 T0 T1 f0 f1 f2 hb'
          go_wp2
          (refine wp_region_after (by kernel_rfl) (by kernel_rfl) ?_
           repeat (any_goals (first | go_big_quiet_skip | (go_big_quiet_want; go_big_quiet_op; first | go_big_quiet_on | go_big_quiet_call ((go_at_call 30; exact Calls.after (quiet_any sA sC stubs n t _ (Hs'.after _) hsl)))) | quiet_step ((go_at_call 30; exact Calls.after (quiet_any sA sC stubs n t _ (Hs'.after _) hsl))) | (refine wpQuiet_step (fun K hK => ?_); go_simp; split <;> (refine hK _ ?_; clear hK K))))
           all_goals (refine wpQuiet_nil ?_; intro _ hw'; obtain ⟨u', hw''⟩ := hw'; subst hw''; obtain ⟨w1, hb1⟩ := u'; simp only [After.val_mk]))
          all_goals go_wp2
          all_goals first
            | (go_ret; exact ⟨ret_bool (by rw [Hfin.out, Hall.out, all_not he (by first | (simp [stubP, *]; done) | (simp [stubP, *, bnt ‹(!_) = true›]; done) | (simp [stubP, *, bnf ‹(!_) = false›]; done))]; rfl), hb''.trans (hb1.mono hb''.size)⟩)
            | (go_roundw
               case rel => exact ⟨k + 1, by omega, by go_num, hall.succ he (by first | (simp [stubP, *]; done) | (simp [stubP, *, bnt ‹(!_) = true›]; done) | (simp [stubP, *, bnf ‹(!_) = false›]; done)), hb.trans (hb1.mono hb.size)⟩
               case measure => simp [intOf]; omega)
        · have hk' : k = c.checks.length := by omega
          have Hall2 := hide (show c.checks.all (fun n => quietB n t stubs) = true by subst hk'; exact hall.all)
          have Y3 := cell_below Z3 hb
          have U0 := cell_below T0 hb
          have U1 := cell_below T1 hb
          have Gc := Hc.below hb
          have Gs := Hs.below hb
          have Gn := Hn.below hb
          have Gr := Hr.below hb
          clear Hc Hs Hn Hr Z3 Z4 T0 T1 hall hk'
          go_wp2
          clear y4 hb hb' hlt hk
          obtain ⟨w3, rfl⟩ : ∃ w3, w3 = wr := ⟨_, rfl⟩
          go_loopw [15, 16] (fun i _ wx => ∃ k : Nat, k ≤ c.scions.length ∧ i = .int .i64 k ∧ AllTo (scionP t scions received) c.scions k ∧ Below w3.heap.size w3 wx) (fun i _ _ => c.scions.length - (intOf i).toNat)
          case atStart => exact ⟨0, by omega, rfl, AllTo.zero, Below.refl _ _⟩
          case round =>
            obtain ⟨k, hk, rfl, hall, hb⟩ := hrel
            have hb' : Below w.heap.size w wr := hb''.trans (hb.mono hb''.size)
            have y3 := cell_below Y3 hb
            by_cases hlt : k < c.scions.length
            · obtain ⟨b, off, n, hA, hbk, he, hcells⟩ := (Gc.n.below hb).at_ hlt
              obtain ⟨f0, f1, f2⟩ := NeedE.facts hcells
              rw [hA] at y3
              clear hcells hA
              have Gn' := Gn.below hb
              have Gr' := Gr.below hb
              rcases idxOf_cases (isScion n.peer n.number) scions with ⟨hi, hno⟩ | ⟨k', x, hi, hx, hp, hno⟩
              · have Hn := hide (show scionP t scions received n = false by unfold scionP scionB; rw [find_miss hno]; rfl)
                clear hno
                go_wp2_with fail
                refine (scion_any nA nC scions n _ Gn' hnl).mono ?_
                rintro e w4 ⟨rfl, hb4⟩
                go_wp2_with fail
                (refine wp_region_after (by kernel_rfl) (by kernel_rfl) ?_
                 repeat (any_goals (first | go_big_quiet_skip | (go_big_quiet_want; go_big_quiet_op; first | go_big_quiet_on | go_big_quiet_call (fail)) | quiet_step (fail) | (refine wpQuiet_step (fun K hK => ?_); go_simp; split <;> (refine hK _ ?_; clear hK K))))
                 all_goals (refine wpQuiet_nil ?_; intro _ hw'; obtain ⟨u', hw''⟩ := hw'; subst hw''; obtain ⟨w1, hb1⟩ := u'; simp only [After.val_mk]))
                go_wp2
                go_ret
                exact ⟨ret_bool (by rw [Hfin.out, Hall.out, Hall2.out, all_not he Hn.out]; rfl), (hb'.trans (hb4.mono hb'.size)).trans (hb1.mono (Nat.le_trans hb'.size hb4.size))⟩
              · have Hn := hide (show scionP t scions received n = (scionE t x && arrivedB n.peer n.stamp received) by unfold scionP scionB; rw [find_hit hx hp hno])
                obtain ⟨b', off', x', hA', hbk', hx', hc'⟩ := Gn'.at_ (List.getElem?_eq_some_iff.1 hx).1
                obtain rfl : x = x' := by rw [hx] at hx'; injection hx'
                have hk2 : k' < scions.length := (List.getElem?_eq_some_iff.1 hx).1
                have hk3 : decide ((k' : Int) < 0) = false := by simp
                obtain ⟨e0, e1, e2, e3, e4, e5, e6, e7, e8, e9, e10, e11⟩ := ScionE.facts hc'
                subst hA'
                clear hc' hx hx' hp hno
                go_wp2_with fail
                refine (scion_any _ nC scions n _ Gn' hnl).mono ?_
                rintro e w4 ⟨rfl, hb4⟩
                have hb5 : Below w.heap.size w w4 := hb'.trans (hb4.mono hb'.size)
                have g0 := After.cell (cell_below f0 hb4)
                have g1 := After.cell (cell_below f1 hb4)
                have g2 := After.cell (cell_below f2 hb4)
                have y3' := After.cell (cell_below y3 hb4)
                have q0 := After.cell (cell_below (cell_below U0 hb) hb4)
                have q1 := After.cell (cell_below (cell_below U1 hb) hb4)
                have g7 := After.cell (cell_below e7 hb4)
                have g9 := After.cell (cell_below e9 hb4)
                have g10 := After.cell (cell_below e10 hb4)
                have g11 := After.cell (cell_below e11 hb4)
                have Gr4 := Gr'.below hb4
                clear Gc Gs Gn Gr Gn' Gr' Y3 U0 U1 f0 f1 f2 e0 e1 e2 e3 e4 e5 e6 e7 e8 e9 e10 e11
                go_wp2_with fail
                (refine wp_region_after (by kernel_rfl) (by kernel_rfl) ?_
                 repeat (any_goals (first | go_big_quiet_skip | (go_big_quiet_want; go_big_quiet_op; first | go_big_quiet_on | go_big_quiet_call ((first | (go_at_call 32; exact Calls.after (free_any _ _ _ _ _)) | (go_at_call 31; exact Calls.after (arrived_any rA rC received n.peer n.number n.stamp _ (Gr4.after _) hrl))))) | quiet_step ((first | (go_at_call 32; exact Calls.after (free_any _ _ _ _ _)) | (go_at_call 31; exact Calls.after (arrived_any rA rC received n.peer n.number n.stamp _ (Gr4.after _) hrl)))) | (refine wpQuiet_step (fun K hK => ?_); go_simp; split <;> (refine hK _ ?_; clear hK K))))
                 all_goals (refine wpQuiet_nil ?_; intro _ hw'; obtain ⟨u', hw''⟩ := hw'; subst hw''; obtain ⟨w1, hb1⟩ := u'; simp only [After.val_mk]))
                all_goals go_wp2
                all_goals first
                  | (go_ret; exact ⟨ret_bool (by rw [Hfin.out, Hall.out, Hall2.out, all_not he (by rw [Hn.out]; exact (by first | (simp [scionE, *]; done) | (simp [scionE, *, bnt ‹(!_) = true›]; done) | (simp [scionE, *, bnf ‹(!_) = false›]; done)))]; rfl), hb5.trans (hb1.mono hb5.size)⟩)
                  | (go_roundw
                     case rel => exact ⟨k + 1, by omega, by go_num, hall.succ he (by rw [Hn.out]; exact (by first | (simp [scionE, *]; done) | (simp [scionE, *, bnt ‹(!_) = true›]; done) | (simp [scionE, *, bnf ‹(!_) = false›]; done))), (hb.trans (hb4.mono hb.size)).trans (hb1.mono (Nat.le_trans hb.size hb4.size))⟩
                     case measure => simp [intOf]; omega)
            · have hk' : k = c.scions.length := by omega
              have Hall3 := hide (show c.scions.all (scionP t scions received) = true by subst hk'; exact hall.all)
              clear hall hk' Gc Gs Gn Gr
              go_wp2
              go_ret
              exact ⟨ret_bool (by rw [Hfin.out, Hall.out, Hall2.out, Hall3.out]; rfl), hb'⟩
end Go.Proofs.Ytnjpmpelgigmjaa
