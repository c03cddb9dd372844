/-
  Contracts of the functions of this seat that each theorem names: what a call returns, and that it writes nothing that was there before. The conditions stand in each theorem.
-/
import Derived.Test.YtnjpmpelgigmjaaC34Walk3
import Derived.Test.YtnjpmpelgigmjaaC34Walk4
namespace Go.Proofs.Ytnjpmpelgigmjaa
open Go.RowKit
attribute [local go_sem ↓] run_eql_trace

structure CEnv (w : World) (t : TraceE) (rA : Option Addr) (rC : Nat) (received : List Int) (gt gr gf ga gq : Nat) : Prop where
  t0 : w.cell? ⟨gt, 0, none⟩ = some (.int .i64 t.machine)
  t1 : w.cell? ⟨gt, 1, none⟩ = some (.int .i64 t.serial)
  r : w.cell? ⟨gr, 0, none⟩ = some (.slice rA received.length rC)
  f : w.cell? ⟨gf, 0, none⟩ = some (.func (.func 48) #[] #[.pointer (some ⟨gt, 0, none⟩)])
  a : w.cell? ⟨ga, 0, none⟩ = some (.func (.func 49) #[] #[.pointer (some ⟨gr, 0, none⟩)])
  q : w.cell? ⟨gq, 0, none⟩ = some (.func (.func 50) #[] #[.pointer (some ⟨gf, 0, none⟩)])
  rs : SlAt I64.cells 1 w rA received
  rl : received.length ≤ 9223372036854775807
theorem CEnv.below {w w' : World} {t : TraceE} {rA : Option Addr} {rC : Nat} {received : List Int} {gt gr gf ga gq : Nat} (h : CEnv w t rA rC received gt gr gf ga gq) (hb : Below w.heap.size w w') : CEnv w' t rA rC received gt gr gf ga gq :=
  ⟨cell_below h.t0 hb, cell_below h.t1 hb, cell_below h.r hb, cell_below h.f hb, cell_below h.a hb, cell_below h.q hb, h.rs.below hb, h.rl⟩

set_option maxHeartbeats 400000 in
theorem free1_any (a b : Int) (t : TraceE) (gt : Nat) (w : World) (h0 : w.cell? ⟨gt, 0, none⟩ = some (.int .i64 t.machine)) (h1 : w.cell? ⟨gt, 1, none⟩ = some (.int .i64 t.serial)) :
    Calls Try.prog 48 #[.agg #[.int .i64 a, .int .i64 b], .pointer (some ⟨gt, 0, none⟩)] w fun e w' => e = .returned (.bool (freeB a b t.machine t.serial)) ∧ Below w.heap.size w w' := by
  have hg := World.block_lt_of_cell? w _ h0
  simp only at hg
  go_enter Try.func48, Try.ntmps48
  go_wp2
  all_goals
    go_ret
    exact ⟨ret_bool (by first | (simp [freeB, *]; done) | (simp [freeB, *, bnt ‹(!_) = true›]; done) | (simp [freeB, *, bnf ‹(!_) = false›]; done)), (by repeat (first | with_reducible exact Below.refl _ _ | (with_reducible refine Below.drew ?_) | (with_reducible refine below_drewN ?_ _) | (with_reducible refine Below.alloc ?_ ?_ _; rotate_left; (first | omega | (simp <;> omega))) | (with_reducible refine Below.setCell ?_ ?_ _; rotate_left; (first | omega | (simp <;> omega)))))⟩

set_option maxHeartbeats 400000 in
theorem arrived1_any (A : Option Addr) (c : Nat) (l : List Int) (p q s : Int) (g : Nat) (w : World) (hr : SlAt I64.cells 1 w A l) (hlen : l.length ≤ 9223372036854775807) (h0 : w.cell? ⟨g, 0, none⟩ = some (.slice A l.length c)) :
    Calls Try.prog 49 #[.agg #[.int .i64 p, .int .u64 q, .int .i64 s], .pointer (some ⟨g, 0, none⟩)] w fun e w' => e = .returned (.bool (arrivedB p s l)) ∧ Below w.heap.size w w' := by
  have hg := World.block_lt_of_cell? w _ h0
  simp only at hg
  by_cases h1 : 1 ≤ p
  · by_cases h2 : p ≤ l.length
    · obtain ⟨k, rfl⟩ : ∃ k : Nat, p = k + 1 := ⟨(p - 1).toNat, by omega⟩
      obtain ⟨b, off, e, rfl, hbk, he, hc⟩ := hr.at_ (k := k) (by omega)
      have f0 := I64.fact hc
      have hfin : arrivedB (k + 1) s l = decide (s ≤ e) := by
        unfold arrivedB have_
        rw [if_pos ⟨h1, h2⟩]
        simp [List.getD, he]
      have Hfin := hide hfin
      clear hfin hc he
      go_enter Try.func49, Try.ntmps49
      go_wp2
      all_goals
        go_ret
        exact ⟨ret_bool (by rw [Hfin.out]), (by repeat (first | with_reducible exact Below.refl _ _ | (with_reducible refine Below.drew ?_) | (with_reducible refine below_drewN ?_ _) | (with_reducible refine Below.alloc ?_ ?_ _; rotate_left; (first | omega | (simp <;> omega))) | (with_reducible refine Below.setCell ?_ ?_ _; rotate_left; (first | omega | (simp <;> omega)))))⟩
    · have hfin : arrivedB p s l = decide (s ≤ 0) := by
        unfold arrivedB have_
        rw [if_neg (by omega)]
      have Hfin := hide hfin
      clear hfin
      go_enter Try.func49, Try.ntmps49
      go_wp2
      all_goals
        go_ret
        exact ⟨ret_bool (by rw [Hfin.out]), (by repeat (first | with_reducible exact Below.refl _ _ | (with_reducible refine Below.drew ?_) | (with_reducible refine below_drewN ?_ _) | (with_reducible refine Below.alloc ?_ ?_ _; rotate_left; (first | omega | (simp <;> omega))) | (with_reducible refine Below.setCell ?_ ?_ _; rotate_left; (first | omega | (simp <;> omega)))))⟩
  · have hfin : arrivedB p s l = decide (s ≤ 0) := by
      unfold arrivedB have_
      rw [if_neg (by omega)]
    have Hfin := hide hfin
    clear hfin
    go_enter Try.func49, Try.ntmps49
    go_wp2
    all_goals
      go_ret
      exact ⟨ret_bool (by rw [Hfin.out]), (by repeat (first | with_reducible exact Below.refl _ _ | (with_reducible refine Below.drew ?_) | (with_reducible refine below_drewN ?_ _) | (with_reducible refine Below.alloc ?_ ?_ _; rotate_left; (first | omega | (simp <;> omega))) | (with_reducible refine Below.setCell ?_ ?_ _; rotate_left; (first | omega | (simp <;> omega)))))⟩

set_option maxHeartbeats 400000 in
theorem quiet3_any {w : World} {t : TraceE} {rA : Option Addr} {rC : Nat} {received : List Int} {gt gr gf ga gq : Nat} (h : CEnv w t rA rC received gt gr gf ga gq) (n : NeedE) (e : StubE) :
    Calls Try.prog 50 #[n.v, e.v, .pointer (some ⟨gf, 0, none⟩)] w fun r w' => r = .returned (.bool (quietE t e)) ∧ Below w.heap.size w w' := by
  have hf := h.f
  have h0 := h.t0
  have h1 := h.t1
  have hgf := World.block_lt_of_cell? w _ hf
  have hgt := World.block_lt_of_cell? w _ h0
  simp only at hgf hgt
  go_enter Try.func50, Try.ntmps50
  go_wp2_with fail
  all_goals try
    refine (free1_any e.lockMachine e.lockSerial t gt _ (by simpa [go_sem, hgt] using h0) (by simpa [go_sem, hgt] using h1)).mono ?_
    rintro r w1 ⟨rfl, hb⟩
    go_wp2_with fail
  all_goals
    go_ret
    first
      | exact ⟨ret_bool (by first | (simp [quietE, *]; done) | (simp [quietE, *, bnt ‹(!_) = true›]; done) | (simp [quietE, *, bnf ‹(!_) = false›]; done)), (Below.trans (by repeat (first | with_reducible exact Below.refl _ _ | (with_reducible refine Below.drew ?_) | (with_reducible refine below_drewN ?_ _) | (with_reducible refine Below.alloc ?_ ?_ _; rotate_left; (first | omega | (simp <;> omega))) | (with_reducible refine Below.setCell ?_ ?_ _; rotate_left; (first | omega | (simp <;> omega))))) (hb.mono (by first | omega | (simp <;> omega))))⟩
      | exact ⟨ret_bool (by first | (simp [quietE, *]; done) | (simp [quietE, *, bnt ‹(!_) = true›]; done) | (simp [quietE, *, bnf ‹(!_) = false›]; done)), (by repeat (first | with_reducible exact Below.refl _ _ | (with_reducible refine Below.drew ?_) | (with_reducible refine below_drewN ?_ _) | (with_reducible refine Below.alloc ?_ ?_ _; rotate_left; (first | omega | (simp <;> omega))) | (with_reducible refine Below.setCell ?_ ?_ _; rotate_left; (first | omega | (simp <;> omega)))))⟩

set_option maxHeartbeats 400000 in
theorem stub4_any {w : World} {t : TraceE} {rA : Option Addr} {rC : Nat} {received : List Int} {gt gr gf ga gq : Nat} (h : CEnv w t rA rC received gt gr gf ga gq) (n : NeedE) (e : StubE) :
    Calls Try.prog 51 #[n.v, e.v, .pointer (some ⟨gq, 0, none⟩), .pointer (some ⟨ga, 0, none⟩)] w
      fun r w' => r = .returned (.bool (quietE t e && arrivedB n.peer n.stamp received)) ∧ Below w.heap.size w w' := by
  have hq := h.q
  have ha := h.a
  have hgq := World.block_lt_of_cell? w _ hq
  have hga := World.block_lt_of_cell? w _ ha
  simp only at hgq hga
  go_enter Try.func51, Try.ntmps51
  go_wp2_with fail
  refine (quiet3_any (h.below (by repeat (first | with_reducible exact Below.refl _ _ | (with_reducible refine Below.drew ?_) | (with_reducible refine below_drewN ?_ _) | (with_reducible refine Below.alloc ?_ ?_ _; rotate_left; (first | omega | (simp <;> omega))) | (with_reducible refine Below.setCell ?_ ?_ _; rotate_left; (first | omega | (simp <;> omega)))))) n e).mono ?_
  rintro r w1 ⟨rfl, hb⟩
  have hb' : Below w.heap.size w w1 := (Below.trans (by repeat (first | with_reducible exact Below.refl _ _ | (with_reducible refine Below.drew ?_) | (with_reducible refine below_drewN ?_ _) | (with_reducible refine Below.alloc ?_ ?_ _; rotate_left; (first | omega | (simp <;> omega))) | (with_reducible refine Below.setCell ?_ ?_ _; rotate_left; (first | omega | (simp <;> omega))))) (hb.mono (by first | omega | (simp <;> omega))))
  have h1 := h.below hb'
  have n0 : w1.cell? ⟨w.heap.size, 0, none⟩ = some (.int .i64 n.peer) := cell_below (by simp) hb
  have n1 : w1.cell? ⟨w.heap.size, 1, none⟩ = some (.int .u64 n.number) := cell_below (by simp) hb
  have n2 : w1.cell? ⟨w.heap.size, 2, none⟩ = some (.int .i64 n.stamp) := cell_below (by simp) hb
  have ha1 := h1.a
  cases hq' : quietE t e
  · go_wp2_with fail
    go_ret
    exact ⟨ret_bool (by simp [hq']), hb'⟩
  · go_wp2_with fail
    refine (arrived1_any rA rC received n.peer n.number n.stamp gr _ h1.rs h1.rl h1.r).mono ?_
    rintro r w2 ⟨rfl, hb2⟩
    go_wp2_with fail
    go_ret
    exact ⟨ret_bool (by simp [hq']), hb'.trans (hb2.mono hb'.size)⟩

set_option maxHeartbeats 400000 in
theorem scion5_any {w : World} {t : TraceE} {rA : Option Addr} {rC : Nat} {received : List Int} {gt gr gf ga gq : Nat} (h : CEnv w t rA rC received gt gr gf ga gq) (n : NeedE) (e : ScionE) :
    Calls Try.prog 52 #[n.v, e.v, .pointer (some ⟨gf, 0, none⟩), .pointer (some ⟨ga, 0, none⟩)] w
      fun r w' => r = .returned (.bool (scionE t e && arrivedB n.peer n.stamp received)) ∧ Below w.heap.size w w' := by
  have hf := h.f
  have ha := h.a
  have hgf := World.block_lt_of_cell? w _ hf
  have hga := World.block_lt_of_cell? w _ ha
  simp only at hgf hga
  cases h1 : e.touched
  rotate_left
  · go_enter Try.func52, Try.ntmps52
    go_wp2_with fail
    go_ret
    exact ⟨ret_bool (by simp [scionE, h1]), (by repeat (first | with_reducible exact Below.refl _ _ | (with_reducible refine Below.drew ?_) | (with_reducible refine below_drewN ?_ _) | (with_reducible refine Below.alloc ?_ ?_ _; rotate_left; (first | omega | (simp <;> omega))) | (with_reducible refine Below.setCell ?_ ?_ _; rotate_left; (first | omega | (simp <;> omega)))))⟩
  cases h2 : e.garbage
  rotate_left
  · go_enter Try.func52, Try.ntmps52
    go_wp2_with fail
    go_ret
    exact ⟨ret_bool (by simp [scionE, h1, h2]), (by repeat (first | with_reducible exact Below.refl _ _ | (with_reducible refine Below.drew ?_) | (with_reducible refine below_drewN ?_ _) | (with_reducible refine Below.alloc ?_ ?_ _; rotate_left; (first | omega | (simp <;> omega))) | (with_reducible refine Below.setCell ?_ ?_ _; rotate_left; (first | omega | (simp <;> omega)))))⟩
  go_enter Try.func52, Try.ntmps52
  go_wp2_with fail
  have h0 : CEnv _ t rA rC received gt gr gf ga gq := h.below (w' := (w.alloc (.cells #[.int .i64 n.peer, .int .u64 n.number, .int .i64 n.stamp] 39)).alloc (.cells e.cells.toArray 45)) (by repeat (first | with_reducible exact Below.refl _ _ | (with_reducible refine Below.drew ?_) | (with_reducible refine below_drewN ?_ _) | (with_reducible refine Below.alloc ?_ ?_ _; rotate_left; (first | omega | (simp <;> omega))) | (with_reducible refine Below.setCell ?_ ?_ _; rotate_left; (first | omega | (simp <;> omega)))))
  refine (free1_any e.lockMachine e.lockSerial t gt _ (h.below (by repeat (first | with_reducible exact Below.refl _ _ | (with_reducible refine Below.drew ?_) | (with_reducible refine below_drewN ?_ _) | (with_reducible refine Below.alloc ?_ ?_ _; rotate_left; (first | omega | (simp <;> omega))) | (with_reducible refine Below.setCell ?_ ?_ _; rotate_left; (first | omega | (simp <;> omega)))))).t0 (h.below (by repeat (first | with_reducible exact Below.refl _ _ | (with_reducible refine Below.drew ?_) | (with_reducible refine below_drewN ?_ _) | (with_reducible refine Below.alloc ?_ ?_ _; rotate_left; (first | omega | (simp <;> omega))) | (with_reducible refine Below.setCell ?_ ?_ _; rotate_left; (first | omega | (simp <;> omega)))))).t1).mono ?_
  rintro r w1 ⟨rfl, hb⟩
  have hb' : Below w.heap.size w w1 := (Below.trans (by repeat (first | with_reducible exact Below.refl _ _ | (with_reducible refine Below.drew ?_) | (with_reducible refine below_drewN ?_ _) | (with_reducible refine Below.alloc ?_ ?_ _; rotate_left; (first | omega | (simp <;> omega))) | (with_reducible refine Below.setCell ?_ ?_ _; rotate_left; (first | omega | (simp <;> omega))))) (hb.mono (by first | omega | (simp <;> omega))))
  have h1' := h.below hb'
  have n0 : w1.cell? ⟨w.heap.size, 0, none⟩ = some (.int .i64 n.peer) := cell_below (by simp) hb
  have n1 : w1.cell? ⟨w.heap.size, 1, none⟩ = some (.int .u64 n.number) := cell_below (by simp) hb
  have n2 : w1.cell? ⟨w.heap.size, 2, none⟩ = some (.int .i64 n.stamp) := cell_below (by simp) hb
  have ha1 := h1'.a
  clear h0
  cases hq' : freeB e.lockMachine e.lockSerial t.machine t.serial
  · go_wp2_with fail
    go_ret
    exact ⟨ret_bool (by simp [scionE, h1, h2, hq']), hb'⟩
  · go_wp2_with fail
    refine (arrived1_any rA rC received n.peer n.number n.stamp gr _ h1'.rs h1'.rl h1'.r).mono ?_
    rintro r w2 ⟨rfl, hb2⟩
    go_wp2_with fail
    go_ret
    exact ⟨ret_bool (by simp [scionE, h1, h2, hq']), hb'.trans (hb2.mono hb'.size)⟩

set_option maxHeartbeats 800000 in
theorem named4_any (nA : Option Addr) (nC : Nat) (ns : List NeedE) (A : Option Addr) (c : Nat) (l : List StubE) (g1 g2 : Nat) (H : NeedE → StubE → Bool) (w : World)
    (hns : SlAt NeedE.cells 3 w nA ns) (hnl : ns.length ≤ 9223372036854775807) (hr : SlAt StubE.cells 12 w A l) (hlen : l.length ≤ 9223372036854775807)
    (hH : ∀ n e W, Below w.heap.size w W → Calls Try.prog 51 #[NeedE.v n, StubE.v e, .pointer (some ⟨g1, 0, none⟩), .pointer (some ⟨g2, 0, none⟩)] W fun r w' => r = .returned (.bool (H n e)) ∧ Below W.heap.size W w') :
    Calls Try.prog 53 #[.slice nA ns.length nC, .slice A l.length c, .func (.func 35) #[] #[], .func (.func 51) #[] #[.pointer (some ⟨g1, 0, none⟩), .pointer (some ⟨g2, 0, none⟩)]] w
      fun r w' => r = .returned (.bool (ns.all (namedB isStub H l))) ∧ Below w.heap.size w w' := by
  have HH := hide hH
  clear hH
  go_enter Try.func53, Try.ntmps53
  go_wp2
  go_loopw [10, 11, 14] (fun _ _ i wr => ∃ k : Nat, k ≤ ns.length ∧ i = .int .i64 k ∧ AllTo (namedB isStub H l) ns k ∧ Below w.heap.size w wr) (fun _ _ i _ => ns.length - (intOf i).toNat)
  case atStart => exact ⟨0, by omega, rfl, AllTo.zero, Below.refl _ _⟩
  case round =>
    obtain ⟨k, hk, rfl, hall, hb⟩ := hrel
    by_cases hlt : k < ns.length
    · obtain ⟨b, off, n, rfl, hbk, he, hcells⟩ := (hns.below hb).at_ hlt
      obtain ⟨f0, f1, f2⟩ := NeedE.facts hcells
      clear hcells hns
      go_wp2_with fail
      refine (isStub_mk n _).mono ?_
      rintro r w1 ⟨rfl, m0, m1, hb1⟩
      simp only [World.size_alloc] at m0 m1
      have hb1' : Below wr.heap.size wr w1 := (Below.trans (by repeat (first | with_reducible exact Below.refl _ _ | (with_reducible refine Below.drew ?_) | (with_reducible refine below_drewN ?_ _) | (with_reducible refine Below.alloc ?_ ?_ _; rotate_left; (first | omega | (simp <;> omega))) | (with_reducible refine Below.setCell ?_ ?_ _; rotate_left; (first | omega | (simp <;> omega))))) (hb1.mono (by first | omega | (simp <;> omega))))
      have n0 : w1.cell? ⟨wr.heap.size, 0, none⟩ = some (.int .i64 n.peer) := cell_below (by simp) hb1
      have n1 : w1.cell? ⟨wr.heap.size, 1, none⟩ = some (.int .u64 n.number) := cell_below (by simp) hb1
      have n2 : w1.cell? ⟨wr.heap.size, 2, none⟩ = some (.int .i64 n.stamp) := cell_below (by simp) hb1
      go_wp2_with fail
      refine (idxStub_any A c l n _ _ ((hr.below hb).below hb1') hlen m0 m1).mono ?_
      rintro r w2 ⟨rfl, hb2⟩
      have hb2' : Below wr.heap.size wr w2 := hb1'.trans (hb2.mono hb1'.size)
      have hb3 : Below w.heap.size w w2 := hb.trans (hb2'.mono hb.size)
      have k0 := After.cell (cell_below n0 hb2)
      have k1 := After.cell (cell_below n1 hb2)
      have k2 := After.cell (cell_below n2 hb2)
      have Hr := hr.below hb3
      clear m0 m1 n0 n1 n2 hr f0 f1 f2 hb1 hb1' hb2 hb2'
      rcases idxOf_cases (isStub n.peer n.number) l with ⟨hi, hno⟩ | ⟨k', x, hi, hx, hp, hno⟩
      · have Hn := hide (show namedB isStub H l n = false by unfold namedB; rw [find_miss hno])
        clear hno
        go_wp2_with fail
        (refine wp_region_after (by kernel_rfl) (by kernel_rfl) ?_
         repeat (any_goals (first | go_big_quiet_skip | (go_big_quiet_want; go_big_quiet_op; first | go_big_quiet_on | go_big_quiet_call (fail)) | quiet_step (fail) | (refine wpQuiet_step (fun K hK => ?_); go_simp; split <;> (refine hK _ ?_; clear hK K))))
         all_goals (refine wpQuiet_nil ?_; intro _ hw'; obtain ⟨u', hw''⟩ := hw'; subst hw''; obtain ⟨w1, hb1⟩ := u'; simp only [After.val_mk]))
        go_wp2
        go_ret
        exact ⟨ret_bool (all_not he Hn.out).symm, hb3.trans (hb1.mono hb3.size)⟩
      · have Hn := hide (show namedB isStub H l n = H n x by unfold namedB; rw [find_hit hx hp hno])
        obtain ⟨b', off', x', rfl, hbk', hx', hc'⟩ := Hr.at_ (List.getElem?_eq_some_iff.1 hx).1
        obtain rfl : x = x' := by rw [hx] at hx'; injection hx'
        have hk2 : k' < l.length := (List.getElem?_eq_some_iff.1 hx).1
        have hk3 : decide ((k' : Int) < 0) = false := by simp
        obtain ⟨e0, e1, e2, e3, e4, e5, e6, e7, e8, e9, e10, e11⟩ := StubE.facts hc'
        have q0 := After.cell e0
        have q1 := After.cell e1
        have q2 := After.cell e2
        have q3 := After.cell e3
        have q4 := After.cell e4
        have q5 := After.cell e5
        have q6 := After.cell e6
        have q7 := After.cell e7
        have q8 := After.cell e8
        have q9 := After.cell e9
        have q10 := After.cell e10
        have q11 := After.cell e11
        clear hc' hx hx' hp hno Hr e0 e1 e2 e3 e4 e5 e6 e7 e8 e9 e10 e11
        go_wp2_with fail
        (refine wp_region_after (by kernel_rfl) (by kernel_rfl) ?_
         repeat (any_goals (first | go_big_quiet_skip | (go_big_quiet_want; go_big_quiet_op; first | go_big_quiet_on | go_big_quiet_call (exact Calls.after (HH.out n x _ (hb3.trans ((After.below _).mono hb3.size))))) | quiet_step (exact Calls.after (HH.out n x _ (hb3.trans ((After.below _).mono hb3.size)))) | (refine wpQuiet_step (fun K hK => ?_); go_simp; split <;> (refine hK _ ?_; clear hK K))))
         all_goals (refine wpQuiet_nil ?_; intro _ hw'; obtain ⟨u', hw''⟩ := hw'; subst hw''; obtain ⟨w1, hb1⟩ := u'; simp only [After.val_mk]))
        all_goals go_wp2
        all_goals first
          | (go_ret; exact ⟨ret_bool (all_not he (by rw [Hn.out]; exact (by first | (simp [namedB, *]; done) | (simp [namedB, *, bnt ‹(!_) = true›]; done) | (simp [namedB, *, bnf ‹(!_) = false›]; done)))).symm, hb3.trans (hb1.mono hb3.size)⟩)
          | (go_roundw
             case rel => exact ⟨k + 1, by omega, by go_num, hall.succ he (by rw [Hn.out]; exact (by first | (simp [namedB, *]; done) | (simp [namedB, *, bnt ‹(!_) = true›]; done) | (simp [namedB, *, bnf ‹(!_) = false›]; done))), hb3.trans (hb1.mono hb3.size)⟩
             case measure => simp [intOf]; omega)
    · have hk' : k = ns.length := by omega
      have Hall := hide (show ns.all (namedB isStub H l) = true by subst hk'; exact hall.all)
      clear hall hk' hr hns
      go_wp2
      go_ret
      exact ⟨ret_bool Hall.out.symm, hb⟩

set_option maxHeartbeats 800000 in
theorem named3_any (nA : Option Addr) (nC : Nat) (ns : List NeedE) (A : Option Addr) (c : Nat) (l : List StubE) (g1 g2 : Nat) (H : NeedE → StubE → Bool) (w : World)
    (hns : SlAt NeedE.cells 3 w nA ns) (hnl : ns.length ≤ 9223372036854775807) (hr : SlAt StubE.cells 12 w A l) (hlen : l.length ≤ 9223372036854775807)
    (hH : ∀ n e W, Below w.heap.size w W → Calls Try.prog 50 #[NeedE.v n, StubE.v e, .pointer (some ⟨g1, 0, none⟩)] W fun r w' => r = .returned (.bool (H n e)) ∧ Below W.heap.size W w') :
    Calls Try.prog 53 #[.slice nA ns.length nC, .slice A l.length c, .func (.func 35) #[] #[], .func (.func 50) #[] #[.pointer (some ⟨g1, 0, none⟩)]] w
      fun r w' => r = .returned (.bool (ns.all (namedB isStub H l))) ∧ Below w.heap.size w w' := by
  have HH := hide hH
  clear hH
  go_enter Try.func53, Try.ntmps53
  go_wp2
  go_loopw [10, 11, 14] (fun _ _ i wr => ∃ k : Nat, k ≤ ns.length ∧ i = .int .i64 k ∧ AllTo (namedB isStub H l) ns k ∧ Below w.heap.size w wr) (fun _ _ i _ => ns.length - (intOf i).toNat)
  case atStart => exact ⟨0, by omega, rfl, AllTo.zero, Below.refl _ _⟩
  case round =>
    obtain ⟨k, hk, rfl, hall, hb⟩ := hrel
    by_cases hlt : k < ns.length
    · obtain ⟨b, off, n, rfl, hbk, he, hcells⟩ := (hns.below hb).at_ hlt
      obtain ⟨f0, f1, f2⟩ := NeedE.facts hcells
      clear hcells hns
      go_wp2_with fail
      refine (isStub_mk n _).mono ?_
      rintro r w1 ⟨rfl, m0, m1, hb1⟩
      simp only [World.size_alloc] at m0 m1
      have hb1' : Below wr.heap.size wr w1 := (Below.trans (by repeat (first | with_reducible exact Below.refl _ _ | (with_reducible refine Below.drew ?_) | (with_reducible refine below_drewN ?_ _) | (with_reducible refine Below.alloc ?_ ?_ _; rotate_left; (first | omega | (simp <;> omega))) | (with_reducible refine Below.setCell ?_ ?_ _; rotate_left; (first | omega | (simp <;> omega))))) (hb1.mono (by first | omega | (simp <;> omega))))
      have n0 : w1.cell? ⟨wr.heap.size, 0, none⟩ = some (.int .i64 n.peer) := cell_below (by simp) hb1
      have n1 : w1.cell? ⟨wr.heap.size, 1, none⟩ = some (.int .u64 n.number) := cell_below (by simp) hb1
      have n2 : w1.cell? ⟨wr.heap.size, 2, none⟩ = some (.int .i64 n.stamp) := cell_below (by simp) hb1
      go_wp2_with fail
      refine (idxStub_any A c l n _ _ ((hr.below hb).below hb1') hlen m0 m1).mono ?_
      rintro r w2 ⟨rfl, hb2⟩
      have hb2' : Below wr.heap.size wr w2 := hb1'.trans (hb2.mono hb1'.size)
      have hb3 : Below w.heap.size w w2 := hb.trans (hb2'.mono hb.size)
      have k0 := After.cell (cell_below n0 hb2)
      have k1 := After.cell (cell_below n1 hb2)
      have k2 := After.cell (cell_below n2 hb2)
      have Hr := hr.below hb3
      clear m0 m1 n0 n1 n2 hr f0 f1 f2 hb1 hb1' hb2 hb2'
      rcases idxOf_cases (isStub n.peer n.number) l with ⟨hi, hno⟩ | ⟨k', x, hi, hx, hp, hno⟩
      · have Hn := hide (show namedB isStub H l n = false by unfold namedB; rw [find_miss hno])
        clear hno
        go_wp2_with fail
        (refine wp_region_after (by kernel_rfl) (by kernel_rfl) ?_
         repeat (any_goals (first | go_big_quiet_skip | (go_big_quiet_want; go_big_quiet_op; first | go_big_quiet_on | go_big_quiet_call (fail)) | quiet_step (fail) | (refine wpQuiet_step (fun K hK => ?_); go_simp; split <;> (refine hK _ ?_; clear hK K))))
         all_goals (refine wpQuiet_nil ?_; intro _ hw'; obtain ⟨u', hw''⟩ := hw'; subst hw''; obtain ⟨w1, hb1⟩ := u'; simp only [After.val_mk]))
        go_wp2
        go_ret
        exact ⟨ret_bool (all_not he Hn.out).symm, hb3.trans (hb1.mono hb3.size)⟩
      · have Hn := hide (show namedB isStub H l n = H n x by unfold namedB; rw [find_hit hx hp hno])
        obtain ⟨b', off', x', rfl, hbk', hx', hc'⟩ := Hr.at_ (List.getElem?_eq_some_iff.1 hx).1
        obtain rfl : x = x' := by rw [hx] at hx'; injection hx'
        have hk2 : k' < l.length := (List.getElem?_eq_some_iff.1 hx).1
        have hk3 : decide ((k' : Int) < 0) = false := by simp
        obtain ⟨e0, e1, e2, e3, e4, e5, e6, e7, e8, e9, e10, e11⟩ := StubE.facts hc'
        have q0 := After.cell e0
        have q1 := After.cell e1
        have q2 := After.cell e2
        have q3 := After.cell e3
        have q4 := After.cell e4
        have q5 := After.cell e5
        have q6 := After.cell e6
        have q7 := After.cell e7
        have q8 := After.cell e8
        have q9 := After.cell e9
        have q10 := After.cell e10
        have q11 := After.cell e11
        clear hc' hx hx' hp hno Hr e0 e1 e2 e3 e4 e5 e6 e7 e8 e9 e10 e11
        go_wp2_with fail
        (refine wp_region_after (by kernel_rfl) (by kernel_rfl) ?_
         repeat (any_goals (first | go_big_quiet_skip | (go_big_quiet_want; go_big_quiet_op; first | go_big_quiet_on | go_big_quiet_call (exact Calls.after (HH.out n x _ (hb3.trans ((After.below _).mono hb3.size))))) | quiet_step (exact Calls.after (HH.out n x _ (hb3.trans ((After.below _).mono hb3.size)))) | (refine wpQuiet_step (fun K hK => ?_); go_simp; split <;> (refine hK _ ?_; clear hK K))))
         all_goals (refine wpQuiet_nil ?_; intro _ hw'; obtain ⟨u', hw''⟩ := hw'; subst hw''; obtain ⟨w1, hb1⟩ := u'; simp only [After.val_mk]))
        all_goals go_wp2
        all_goals first
          | (go_ret; exact ⟨ret_bool (all_not he (by rw [Hn.out]; exact (by first | (simp [namedB, *]; done) | (simp [namedB, *, bnt ‹(!_) = true›]; done) | (simp [namedB, *, bnf ‹(!_) = false›]; done)))).symm, hb3.trans (hb1.mono hb3.size)⟩)
          | (go_roundw
             case rel => exact ⟨k + 1, by omega, by go_num, hall.succ he (by rw [Hn.out]; exact (by first | (simp [namedB, *]; done) | (simp [namedB, *, bnt ‹(!_) = true›]; done) | (simp [namedB, *, bnf ‹(!_) = false›]; done))), hb3.trans (hb1.mono hb3.size)⟩
             case measure => simp [intOf]; omega)
    · have hk' : k = ns.length := by omega
      have Hall := hide (show ns.all (namedB isStub H l) = true by subst hk'; exact hall.all)
      clear hall hk' hr hns
      go_wp2
      go_ret
      exact ⟨ret_bool Hall.out.symm, hb⟩

set_option maxHeartbeats 800000 in
theorem named5_any (nA : Option Addr) (nC : Nat) (ns : List NeedE) (A : Option Addr) (c : Nat) (l : List ScionE) (g1 g2 : Nat) (H : NeedE → ScionE → Bool) (w : World)
    (hns : SlAt NeedE.cells 3 w nA ns) (hnl : ns.length ≤ 9223372036854775807) (hr : SlAt ScionE.cells 12 w A l) (hlen : l.length ≤ 9223372036854775807)
    (hH : ∀ n e W, Below w.heap.size w W → Calls Try.prog 52 #[NeedE.v n, ScionE.v e, .pointer (some ⟨g1, 0, none⟩), .pointer (some ⟨g2, 0, none⟩)] W fun r w' => r = .returned (.bool (H n e)) ∧ Below W.heap.size W w') :
    Calls Try.prog 54 #[.slice nA ns.length nC, .slice A l.length c, .func (.func 38) #[] #[], .func (.func 52) #[] #[.pointer (some ⟨g1, 0, none⟩), .pointer (some ⟨g2, 0, none⟩)]] w
      fun r w' => r = .returned (.bool (ns.all (namedB isScion H l))) ∧ Below w.heap.size w w' := by
  have HH := hide hH
  clear hH
  go_enter Try.func54, Try.ntmps54
  go_wp2
  go_loopw [10, 11, 14] (fun _ _ i wr => ∃ k : Nat, k ≤ ns.length ∧ i = .int .i64 k ∧ AllTo (namedB isScion H l) ns k ∧ Below w.heap.size w wr) (fun _ _ i _ => ns.length - (intOf i).toNat)
  case atStart => exact ⟨0, by omega, rfl, AllTo.zero, Below.refl _ _⟩
  case round =>
    obtain ⟨k, hk, rfl, hall, hb⟩ := hrel
    by_cases hlt : k < ns.length
    · obtain ⟨b, off, n, rfl, hbk, he, hcells⟩ := (hns.below hb).at_ hlt
      obtain ⟨f0, f1, f2⟩ := NeedE.facts hcells
      clear hcells hns
      go_wp2_with fail
      refine (isScion_mk n _).mono ?_
      rintro r w1 ⟨rfl, m0, m1, hb1⟩
      simp only [World.size_alloc] at m0 m1
      have hb1' : Below wr.heap.size wr w1 := (Below.trans (by repeat (first | with_reducible exact Below.refl _ _ | (with_reducible refine Below.drew ?_) | (with_reducible refine below_drewN ?_ _) | (with_reducible refine Below.alloc ?_ ?_ _; rotate_left; (first | omega | (simp <;> omega))) | (with_reducible refine Below.setCell ?_ ?_ _; rotate_left; (first | omega | (simp <;> omega))))) (hb1.mono (by first | omega | (simp <;> omega))))
      have n0 : w1.cell? ⟨wr.heap.size, 0, none⟩ = some (.int .i64 n.peer) := cell_below (by simp) hb1
      have n1 : w1.cell? ⟨wr.heap.size, 1, none⟩ = some (.int .u64 n.number) := cell_below (by simp) hb1
      have n2 : w1.cell? ⟨wr.heap.size, 2, none⟩ = some (.int .i64 n.stamp) := cell_below (by simp) hb1
      go_wp2_with fail
      refine (idxScion_any A c l n _ _ ((hr.below hb).below hb1') hlen m0 m1).mono ?_
      rintro r w2 ⟨rfl, hb2⟩
      have hb2' : Below wr.heap.size wr w2 := hb1'.trans (hb2.mono hb1'.size)
      have hb3 : Below w.heap.size w w2 := hb.trans (hb2'.mono hb.size)
      have k0 := After.cell (cell_below n0 hb2)
      have k1 := After.cell (cell_below n1 hb2)
      have k2 := After.cell (cell_below n2 hb2)
      have Hr := hr.below hb3
      clear m0 m1 n0 n1 n2 hr f0 f1 f2 hb1 hb1' hb2 hb2'
      rcases idxOf_cases (isScion n.peer n.number) l with ⟨hi, hno⟩ | ⟨k', x, hi, hx, hp, hno⟩
      · have Hn := hide (show namedB isScion H l n = false by unfold namedB; rw [find_miss hno])
        clear hno
        go_wp2_with fail
        (refine wp_region_after (by kernel_rfl) (by kernel_rfl) ?_
         repeat (any_goals (first | go_big_quiet_skip | (go_big_quiet_want; go_big_quiet_op; first | go_big_quiet_on | go_big_quiet_call (fail)) | quiet_step (fail) | (refine wpQuiet_step (fun K hK => ?_); go_simp; split <;> (refine hK _ ?_; clear hK K))))
         all_goals (refine wpQuiet_nil ?_; intro _ hw'; obtain ⟨u', hw''⟩ := hw'; subst hw''; obtain ⟨w1, hb1⟩ := u'; simp only [After.val_mk]))
        go_wp2
        go_ret
        exact ⟨ret_bool (all_not he Hn.out).symm, hb3.trans (hb1.mono hb3.size)⟩
      · have Hn := hide (show namedB isScion H l n = H n x by unfold namedB; rw [find_hit hx hp hno])
        obtain ⟨b', off', x', rfl, hbk', hx', hc'⟩ := Hr.at_ (List.getElem?_eq_some_iff.1 hx).1
        obtain rfl : x = x' := by rw [hx] at hx'; injection hx'
        have hk2 : k' < l.length := (List.getElem?_eq_some_iff.1 hx).1
        have hk3 : decide ((k' : Int) < 0) = false := by simp
        obtain ⟨e0, e1, e2, e3, e4, e5, e6, e7, e8, e9, e10, e11⟩ := ScionE.facts hc'
        have q0 := After.cell e0
        have q1 := After.cell e1
        have q2 := After.cell e2
        have q3 := After.cell e3
        have q4 := After.cell e4
        have q5 := After.cell e5
        have q6 := After.cell e6
        have q7 := After.cell e7
        have q8 := After.cell e8
        have q9 := After.cell e9
        have q10 := After.cell e10
        have q11 := After.cell e11
        clear hc' hx hx' hp hno Hr e0 e1 e2 e3 e4 e5 e6 e7 e8 e9 e10 e11
        go_wp2_with fail
        (refine wp_region_after (by kernel_rfl) (by kernel_rfl) ?_
         repeat (any_goals (first | go_big_quiet_skip | (go_big_quiet_want; go_big_quiet_op; first | go_big_quiet_on | go_big_quiet_call (exact Calls.after (HH.out n x _ (hb3.trans ((After.below _).mono hb3.size))))) | quiet_step (exact Calls.after (HH.out n x _ (hb3.trans ((After.below _).mono hb3.size)))) | (refine wpQuiet_step (fun K hK => ?_); go_simp; split <;> (refine hK _ ?_; clear hK K))))
         all_goals (refine wpQuiet_nil ?_; intro _ hw'; obtain ⟨u', hw''⟩ := hw'; subst hw''; obtain ⟨w1, hb1⟩ := u'; simp only [After.val_mk]))
        all_goals go_wp2
        all_goals first
          | (go_ret; exact ⟨ret_bool (all_not he (by rw [Hn.out]; exact (by first | (simp [namedB, *]; done) | (simp [namedB, *, bnt ‹(!_) = true›]; done) | (simp [namedB, *, bnf ‹(!_) = false›]; done)))).symm, hb3.trans (hb1.mono hb3.size)⟩)
          | (go_roundw
             case rel => exact ⟨k + 1, by omega, by go_num, hall.succ he (by rw [Hn.out]; exact (by first | (simp [namedB, *]; done) | (simp [namedB, *, bnt ‹(!_) = true›]; done) | (simp [namedB, *, bnf ‹(!_) = false›]; done))), hb3.trans (hb1.mono hb3.size)⟩
             case measure => simp [intOf]; omega)
    · have hk' : k = ns.length := by omega
      have Hall := hide (show ns.all (namedB isScion H l) = true by subst hk'; exact hall.all)
      clear hall hk' hr hns
      go_wp2
      go_ret
      exact ⟨ret_bool Hall.out.symm, hb⟩
end Go.Proofs.Ytnjpmpelgigmjaa
