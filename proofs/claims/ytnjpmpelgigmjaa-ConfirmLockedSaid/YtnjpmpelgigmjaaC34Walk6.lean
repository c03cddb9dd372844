/-
  Contracts of the functions of this seat that each theorem names: what a call returns, and that it writes nothing that was there before. The conditions stand in each theorem.
-/
import Derived.Test.YtnjpmpelgigmjaaC34Walk5
import Derived.Laws.EntriesVeiled
namespace Go.Proofs.Ytnjpmpelgigmjaa
open Go.RowKit
attribute [local go_sem ↓] run_eql_trace run_neq_trace

set_option maxHeartbeats 1600000 in
theorem check_any (c : ClaimV) (t : TraceE) (ep : Int) (sA : Option Addr) (sC : Nat) (stubs : List StubE) (nA : Option Addr) (nC : Nat) (scions : List ScionE) (rA : Option Addr) (rC : Nat) (received : List Int) (w : World)
    (hc : c.at_ w) (hs : SlAt StubE.cells 12 w sA stubs) (hn : SlAt ScionE.cells 12 w nA scions) (hr : SlAt I64.cells 1 w rA received)
    (hsl : stubs.length ≤ 9223372036854775807) (hnl : scions.length ≤ 9223372036854775807) (hrl : received.length ≤ 9223372036854775807) :
    Calls Try.prog 29 #[c.v, t.v, .int .i64 ep, .slice sA stubs.length sC, .slice nA scions.length nC, .slice rA received.length rC] w
      fun e w' => e = .returned (.bool (checkB c t ep stubs scions received)) ∧ Below w.heap.size w w' := by
  by_cases h0 : teq t.machine t.serial 0 0 = true
  · have Hfin := hide (show checkB c t ep stubs scions received = false by simp [checkB, h0])
    go_enter Try.func29, Try.ntmps29
    go_wp2
    go_ret
    exact ⟨ret_bool Hfin.out.symm, (by repeat (first | with_reducible exact Below.refl _ _ | (with_reducible refine Below.drew ?_) | (with_reducible refine below_drewN ?_ _) | (with_reducible refine Below.alloc ?_ ?_ _; rotate_left; (first | omega | (simp <;> omega))) | (with_reducible refine Below.setCell ?_ ?_ _; rotate_left; (first | omega | (simp <;> omega)))))⟩
  by_cases h1 : c.epoch = ep
  rotate_left
  · have Hfin := hide (show checkB c t ep stubs scions received = false by simp [checkB, h1])
    go_enter Try.func29, Try.ntmps29
    go_wp2
    go_ret
    exact ⟨ret_bool Hfin.out.symm, (by repeat (first | with_reducible exact Below.refl _ _ | (with_reducible refine Below.drew ?_) | (with_reducible refine below_drewN ?_ _) | (with_reducible refine Below.alloc ?_ ?_ _; rotate_left; (first | omega | (simp <;> omega))) | (with_reducible refine Below.setCell ?_ ?_ _; rotate_left; (first | omega | (simp <;> omega)))))⟩
  subst h1
  have Hfin := hide (show checkB c t c.epoch stubs scions received = (c.stubs.all (namedB isStub (fun n e => quietE t e && arrivedB n.peer n.stamp received) stubs) &&
      (c.checks.all (namedB isStub (fun _ e => quietE t e) stubs) && c.scions.all (namedB isScion (fun n e => scionE t e && arrivedB n.peer n.stamp received) scions))) by rw [checkB_named]; simp [h0])
  have hc0 := hc
  have hsl' := hc.sl
  have hnl' := hc.nl
  have hkl' := hc.kl
  clear hc
  go_enter Try.func29, Try.ntmps29
  go_upto_region 6 with fail
  refine wp_name ?_
  intro w0 hw0
  have hb0 : Below w.heap.size w w0 := by rw [← hw0]; exact (by repeat (first | with_reducible exact Below.refl _ _ | (with_reducible refine Below.drew ?_) | (with_reducible refine below_drewN ?_ _) | (with_reducible refine Below.alloc ?_ ?_ _; rotate_left; (first | omega | (simp <;> omega))) | (with_reducible refine Below.setCell ?_ ?_ _; rotate_left; (first | omega | (simp <;> omega)))))
  have z1 : w0.cell? ⟨w.heap.size, 1, none⟩ = some (.int .i64 c.epoch) := by rw [← hw0]; simp [go_sem]
  have z2 : w0.cell? ⟨w.heap.size, 2, none⟩ = some (.slice c.sA c.stubs.length c.sC) := by rw [← hw0]; simp [go_sem]
  have z3 : w0.cell? ⟨w.heap.size, 3, none⟩ = some (.slice c.nA c.scions.length c.nC) := by rw [← hw0]; simp [go_sem]
  have z4 : w0.cell? ⟨w.heap.size, 4, none⟩ = some (.slice c.kA c.checks.length c.kC) := by rw [← hw0]; simp [go_sem]
  have E : CEnv w0 t rA rC received (w.heap.size + 1) (w.heap.size + 1 + 1) (w.heap.size + 1 + 1 + 1) (w.heap.size + 1 + 1 + 1 + 1) (w.heap.size + 1 + 1 + 1 + 1 + 1) := by
    refine ⟨?_, ?_, ?_, ?_, ?_, ?_, hr.below hb0, hrl⟩ <;> (rw [← hw0]; simp [go_sem])
  have q0 := E.t0
  have q1 := E.t1
  have q15 := E.q
  clear hw0
  have C0 := hc0.below hb0
  have S0 := hs.below hb0
  have N0 := hn.below hb0
  clear hc0 hs hn hr
  go_wp2_with fail
  refine (named4_any c.sA c.sC c.stubs sA sC stubs _ _ _ w0 C0.s C0.sl S0 hsl (fun n e W hW => stub4_any (E.below hW) n e)).mono ?_
  rintro r w1 ⟨rfl, hb1⟩
  have hb1' : Below w.heap.size w w1 := hb0.trans (hb1.mono hb0.size)
  have y3 := cell_below z3 hb1
  have y4 := cell_below z4 hb1
  have y15 := cell_below q15 hb1
  cases hX : c.stubs.all (namedB isStub (fun n e => quietE t e && arrivedB n.peer n.stamp received) stubs)
  · go_wp2_with fail
    go_ret
    exact ⟨ret_bool (by rw [Hfin.out, hX]; rfl), hb1'⟩
  have E1 := E.below hb1
  have C1 := C0.below hb1
  have S1 := S0.below hb1
  have N1 := N0.below hb1
  clear z1 z2 z3 z4 q0 q1 q15 E C0 S0 N0
  go_wp2_with fail
  refine (named3_any c.kA c.kC c.checks sA sC stubs _ 0 _ w1 C1.k C1.kl S1 hsl (fun n e W hW => quiet3_any (E1.below hW) n e)).mono ?_
  rintro r w2 ⟨rfl, hb2⟩
  have hb2' : Below w.heap.size w w2 := hb1'.trans (hb2.mono hb1'.size)
  have x3 := cell_below y3 hb2
  cases hY : c.checks.all (namedB isStub (fun _ e => quietE t e) stubs)
  · go_wp2_with fail
    go_ret
    exact ⟨ret_bool (by rw [Hfin.out, hX, hY]; rfl), hb2'⟩
  have E2 := E1.below hb2
  have C2 := C1.below hb2
  have N2 := N1.below hb2
  clear y3 y4 y15 E1 C1 S1 N1
  go_wp2_with fail
  refine (named5_any c.nA c.nC c.scions nA nC scions _ _ _ w2 C2.n C2.nl N2 hnl (fun n e W hW => scion5_any (E2.below hW) n e)).mono ?_
  rintro r w3 ⟨rfl, hb3⟩
  go_wp2_with fail
  go_ret
  exact ⟨ret_bool (by rw [Hfin.out, hX, hY]; rfl), hb2'.trans (hb3.mono hb2'.size)⟩
end Go.Proofs.Ytnjpmpelgigmjaa
