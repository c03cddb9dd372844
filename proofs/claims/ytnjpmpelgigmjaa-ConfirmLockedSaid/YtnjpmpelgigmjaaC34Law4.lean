/-
  Contracts of the functions of this seat that each theorem names: what a call returns, and that it writes nothing that was there before. The conditions stand in each theorem.
-/
import Derived.Test.YtnjpmpelgigmjaaC34Law3
import Derived.Test.YtnjpmpelgigmjaaC34Walk10
import Derived.Test.YtnjpmpelgigmjaaC34Plain
namespace Go.Proofs.Ytnjpmpelgigmjaa
open Go.RowKit
attribute [local go_sem ↓] run_eql_trace run_neq_trace

theorem checks_relS {b : Bool} {t : TraceE} {l : List StubE} : (relStubs b t l).length = l.length := by unfold relStubs; split <;> simp
theorem checks_relN {b : Bool} {t : TraceE} {l : List ScionE} : (relScions b t l).length = l.length := by unfold relScions; split <;> simp
theorem lockStubs_length (t : TraceE) (ns : List NeedE) : ∀ l : List StubE, (lockStubs t ns l).length = l.length := by
  induction ns with
  | nil => intro l; rfl
  | cons n ns ih => intro l; exact (ih _).trans (setAt_length _ _ _)
theorem lockScions_length (t : TraceE) (ns : List NeedE) : ∀ l : List ScionE, (lockScions t ns l).length = l.length := by
  induction ns with
  | nil => intro l; rfl
  | cons n ns ih => intro l; exact (ih _).trans (setAt_length _ _ _)
theorem many_false {x : TablesV} {c : ClaimV} (h : manyB x c = false) : x.stubs.length ≤ 30 ∧ x.scions.length ≤ 30 ∧ x.received.length ≤ 30 ∧ c.stubs.length + c.scions.length + c.checks.length ≤ 30 := by
  simp only [manyB, Bool.or_eq_false_iff, decide_eq_false_iff_not] at h
  omega

/-- The boxes of the claim and the trace; the box of tables. -/
structure LB (w : World) (c : ClaimV) (t : TraceE) (h : Nat) : Prop where
  cB : w.heap[h]? = some (.cells #[.int .i64 c.machine, .int .i64 c.epoch, .slice c.sA c.stubs.length c.sC, .slice c.nA c.scions.length c.nC, .slice c.kA c.checks.length c.kC] 24 (0, 0))
  tB : w.heap[h + 1]? = some (.cells #[.int .i64 t.machine, .int .i64 t.serial] 26 (0, 0))
def XB (w : World) (x : TablesV) (g : Nat) : Prop := w.heap[g]? = some (.cells #[.slice x.sA x.stubs.length x.sC, .slice x.nA x.scions.length x.nC, .int .i64 x.epoch, .slice x.rA x.received.length x.rC] 31 (0, 0))
section
variable {w w' : World} {c : ClaimV} {t : TraceE} {x : TablesV} {h g : Nat}
theorem LB.below (E : LB w c t h) (hb : Below w.heap.size w w') : LB w' c t h := ⟨blk_below E.cB hb, blk_below E.tB hb⟩
theorem XB.below (X : XB w x g) (hb : Below w.heap.size w w') : XB w' x g := blk_below X hb
theorem LB.far (E : LB w c t h) {p : Addr} (hp : h + 1 < p.block) (u : Value) : LB (w.setCell p u) c t h := ⟨(blk_far (by omega) u).trans E.cB, (blk_far (by omega) u).trans E.tB⟩
theorem XB.far (X : XB w x g) {p : Addr} (hp : g ≠ p.block) (u : Value) : XB (w.setCell p u) x g := (blk_far hp u).trans X
theorem LB.cells (E : LB w c t h) : w.cell? ⟨h, 0, none⟩ = some (.int .i64 c.machine) ∧ w.cell? ⟨h, 1, none⟩ = some (.int .i64 c.epoch) ∧ w.cell? ⟨h, 2, none⟩ = some (.slice c.sA c.stubs.length c.sC) ∧ w.cell? ⟨h, 3, none⟩ = some (.slice c.nA c.scions.length c.nC) ∧ w.cell? ⟨h, 4, none⟩ = some (.slice c.kA c.checks.length c.kC) ∧
    w.cell? ⟨h + 1, 0, none⟩ = some (.int .i64 t.machine) ∧ w.cell? ⟨h + 1, 1, none⟩ = some (.int .i64 t.serial) :=
  ⟨blk_cell E.cB 0, blk_cell E.cB 1, blk_cell E.cB 2, blk_cell E.cB 3, blk_cell E.cB 4, blk_cell E.tB 0, blk_cell E.tB 1⟩
theorem XB.cells (X : XB w x g) : w.cell? ⟨g, 0, none⟩ = some (.slice x.sA x.stubs.length x.sC) ∧ w.cell? ⟨g, 1, none⟩ = some (.slice x.nA x.scions.length x.nC) ∧ w.cell? ⟨g, 2, none⟩ = some (.int .i64 x.epoch) ∧ w.cell? ⟨g, 3, none⟩ = some (.slice x.rA x.received.length x.rC) :=
  ⟨blk_cell X 0, blk_cell X 1, blk_cell X 2, blk_cell X 3⟩
theorem XB.free (X : XB w x g) (i : Nat) : w.frozen? ⟨g, i, none⟩ = false := blk_free X i
/-- Two slices are stored into the box of tables. -/
theorem XB.store (X : XB w x g) (pA : Option Addr) (pC : Nat) (S : List StubE) (qA : Option Addr) (qC : Nat) (N : List ScionE) :
    XB ((w.setCell ⟨g, 0, none⟩ (.slice pA S.length pC)).setCell ⟨g, 1, none⟩ (.slice qA N.length qC)) ⟨pA, pC, S, qA, qC, N, x.epoch, x.rA, x.rC, x.received⟩ g := blk_set (blk_set X 0 _) 1 _
end

/-- The beginning of a law over a claim, a trace and tables: the boxes. -/
theorem boxes_any {w w1 : World} {c : ClaimV} {t : TraceE} {x : TablesV} (hb : Below (((w.alloc (.cells #[.int .i64 c.machine, .int .i64 c.epoch, .slice c.sA c.stubs.length c.sC, .slice c.nA c.scions.length c.nC, .slice c.kA c.checks.length c.kC] 24)).alloc (.cells #[.int .i64 t.machine, .int .i64 t.serial] 26)).alloc (.cells #[.slice x.sA x.stubs.length x.sC, .slice x.nA x.scions.length x.nC, .int .i64 x.epoch, .slice x.rA x.received.length x.rC] 31)).heap.size
      (((w.alloc (.cells #[.int .i64 c.machine, .int .i64 c.epoch, .slice c.sA c.stubs.length c.sC, .slice c.nA c.scions.length c.nC, .slice c.kA c.checks.length c.kC] 24)).alloc (.cells #[.int .i64 t.machine, .int .i64 t.serial] 26)).alloc (.cells #[.slice x.sA x.stubs.length x.sC, .slice x.nA x.scions.length x.nC, .int .i64 x.epoch, .slice x.rA x.received.length x.rC] 31)) w1) :
    LB w1 c t w.heap.size ∧ XB w1 x (w.heap.size + 1 + 1) ∧ Below w.heap.size w w1 := by
  refine ⟨⟨blk_below ?_ hb, blk_below ?_ hb⟩, blk_below ?_ hb, (Below.trans (by repeat (first | with_reducible exact Below.refl _ _ | (with_reducible refine Below.drew ?_) | (with_reducible refine below_drewN ?_ _) | (with_reducible refine Below.alloc ?_ ?_ _; rotate_left; (first | omega | (simp <;> omega))) | (with_reducible refine Below.setCell ?_ ?_ _; rotate_left; (first | omega | (simp <;> omega))))) (hb.mono (by first | omega | (simp <;> omega))))⟩ <;> (simp only [heap_alloc_if, World.size_alloc]; repeat (first | rw [if_pos trivial] | rw [if_neg (by omega)] | rw [if_pos (by omega)]))

set_option maxHeartbeats 1600000 in
theorem undone_any (c : ClaimV) (t : TraceE) (x : TablesV) (w : World) (hc : c.at_ w) (hx : x.at_ w) :
    Calls Try.prog 6 #[c.v, t.v, x.v] w fun r w' => r = .returned (.bool true) ∧ Below w.heap.size w w' := by
  go_enter Try.func6, Try.ntmps6
  go_wp2_with fail
  refine (awake_any _).mono ?_
  rintro r w1 ⟨rfl, hb⟩
  obtain ⟨E, X, hb1⟩ := boxes_any hb
  obtain ⟨e0, e1, e2, e3, e4, -, -⟩ := E.cells
  obtain ⟨e5, e6, e7, e8⟩ := X.cells
  have hlX := blk_lt X
  have hl0 : w.heap.size < w1.heap.size := by omega
  have hl1 : w.heap.size + 1 < w1.heap.size := by omega
  have HX := hide X
  clear hb X
  go_wp2_with fail
  refine (many_any x c _ _ (heap_alloc_new _ _) hc.tot hx.sl hx.nl hx.rl).mono ?_
  rintro r w2 ⟨rfl, hb⟩
  have hb2 : Below w1.heap.size w1 w2 := (Below.trans (by repeat (first | with_reducible exact Below.refl _ _ | (with_reducible refine Below.drew ?_) | (with_reducible refine below_drewN ?_ _) | (with_reducible refine Below.alloc ?_ ?_ _; rotate_left; (first | omega | (simp <;> omega))) | (with_reducible refine Below.setCell ?_ ?_ _; rotate_left; (first | omega | (simp <;> omega))))) (hb.mono (by first | omega | (simp <;> omega))))
  have E2 := E.below hb2
  have HX2 := hide (HX.out.below hb2)
  have hbA : Below w.heap.size w w2 := hb1.trans (hb2.mono hb1.size)
  clear e0 e1 e2 e3 e4 e5 e6 e7 e8 E hb hb1 HX
  cases hm : manyB x c
  rotate_left
  · go_wp2_with fail
    go_ret
    exact ⟨rfl, hbA⟩
  obtain ⟨n1, n2, n3, n4⟩ := many_false hm
  obtain ⟨-, -, -, -, -, e0, e1⟩ := E2.cells
  obtain ⟨e2, e3, -, -⟩ := HX2.out.cells
  go_wp2_with fail
  refine (refRelease_any false t x.sA x.sC x.stubs x.nA x.nC x.scions _ (hx.s.below hbA) (hx.n.below hbA) (by omega) (by omega)).mono ?_
  rintro r w3 ⟨v1, v2, rfl, ho1, ho2, hb3⟩
  obtain ⟨pA, pC, rfl, hpC, hpm, -⟩ := ho1.slAt StubE.enc
  obtain ⟨qA, qC, rfl, hqC, hqm, -⟩ := ho2.slAt ScionE.enc
  have E3 := E2.below hb3
  have X3 := HX2.out.below hb3
  have f0 := X3.free 0
  have f1 := X3.free 1
  obtain ⟨g0, g1, -, -⟩ := X3.cells
  have hbB : Below w.heap.size w w3 := hbA.trans (hb3.mono hbA.size)
  have hw2 : w.heap.size + 1 + 1 < w2.heap.size := blk_lt HX2.out
  have HX3 := hide X3
  clear e0 e1 e2 e3 X3 E2
  go_upto_region 6 with fail
  refine wp_name ?_
  intro w4 hw4
  obtain ⟨x', hx'⟩ : ∃ x' : TablesV, x' = ⟨pA, pC, relStubs false t x.stubs, qA, qC, relScions false t x.scions, x.epoch, x.rA, x.rC, x.received⟩ := ⟨_, rfl⟩
  have X4 : XB w4 x' (w.heap.size + 1 + 1) := by rw [hx', ← hw4]; exact HX3.out.store pA pC _ qA qC _
  have E4 : LB w4 c t w.heap.size := by rw [← hw4]; exact (E3.far (p := ⟨w.heap.size + 1 + 1, 0, none⟩) (by simp) _).far (p := ⟨w.heap.size + 1 + 1, 1, none⟩) (by simp) _
  have hb4 : Below w.heap.size w w4 := by rw [← hw4]; exact (by repeat (first | with_reducible exact hbB | with_reducible exact Below.refl _ _ | (with_reducible refine Below.drew ?_) | (with_reducible refine below_drewN ?_ _) | (with_reducible refine Below.alloc ?_ ?_ _; rotate_left; (first | omega | (simp <;> omega))) | (with_reducible refine Below.setCell ?_ ?_ _; rotate_left; (first | omega | (simp <;> omega)))))
  have hk4 : ∀ k, w2.heap.size ≤ k → w4.heap[k]? = w3.heap[k]? := fun k hk => by rw [← hw4, blk_far (by simp; omega), blk_far (by simp; omega)]
  have hx4 : x'.at_ w4 := by
    rw [hx']
    refine ⟨((ho1.of_heap hk4).at_ StubE.enc).2.2, ((ho2.of_heap hk4).at_ ScionE.enc).2.2, hx.r.below hb4, ?_, ?_, hx.rl⟩
    · simp only [maxLen] at hpm ⊢; omega
    · simp only [maxLen] at hqm ⊢; omega
  have hlen1 : x'.stubs.length ≤ 30 := by rw [hx']; simp only [checks_relS]; omega
  have hlen2 : x'.scions.length ≤ 30 := by rw [hx']; simp only [checks_relN]; omega
  have q1 : x'.stubs = relStubs false t x.stubs := by rw [hx']
  have q2 : x'.scions = relScions false t x.scions := by rw [hx']
  have q3 : x'.epoch = x.epoch := by rw [hx']
  have HX4 := hide X4
  have Q1 := hide q1
  have Q2 := hide q2
  obtain ⟨-, e1, e2, e3, -, e5, e6⟩ := E4.cells
  obtain ⟨g0, g1, g2, g3⟩ := X4.cells
  have hl4 := blk_lt X4
  clear hx' hw4 q1 q2 q3 X4 f0 f1 g0 g1 E3 ho1 ho2 hk4 hb3 hbB hbA hpC hpm hqC hqm HX3 HX2 hb2 hw2
  obtain ⟨g0, g1, g2, g3⟩ := HX4.out.cells
  have hc4 := hc.below hb4
  go_wp2_with fail
  refine (refCheck_any ⟨0, x'.epoch, c.sA, c.sC, c.stubs, c.nA, c.nC, c.scions, none, 0, []⟩ t x'.epoch x'.sA x'.sC x'.stubs x'.nA x'.nC x'.scions x'.rA x'.rC x'.received _ ⟨hc4.s, hc4.n, SlAt.nil, hc4.sl, hc4.nl, by simp, by simp only [List.length_nil]; omega⟩ hx4.s hx4.n hx4.r hx4.sl hx4.nl hx4.rl).mono ?_
  rintro r w5 ⟨rfl, hb5⟩
  have E5 := E4.below hb5
  have HX5 := hide (HX4.out.below hb5)
  have hx5 := hx4.below hb5
  have hbC : Below w.heap.size w w5 := hb4.trans (hb5.mono hb4.size)
  clear e1 e2 e3 e5 e6 g0 g1 g2 g3 HX4 E4 hb5 hc4 hx4 hb4 hl4
  cases hck : checkB ⟨0, x'.epoch, c.sA, c.sC, c.stubs, c.nA, c.nC, c.scions, none, 0, []⟩ t x'.epoch x'.stubs x'.scions x'.received
  · go_wp2_with fail
    go_ret
    exact ⟨rfl, hbC⟩
  have h0 : teq t.machine t.serial 0 0 = false := by
    cases h : teq t.machine t.serial 0 0
    · rfl
    · simp [checkB, h] at hck
  have hfree := free_of_check hck (by rw [Q1.out]; exact StubE.rel_no h0) (by rw [Q2.out]; exact ScionE.rel_no h0)
  have U1 := hide (StubE.undone (t := t) (S := x'.stubs) (ns := c.stubs) (by rw [Q1.out]; exact StubE.rel_no h0) hfree.1)
  have U2 := hide (ScionE.undone (t := t) (S := x'.scions) (ns := c.scions) (by rw [Q2.out]; exact ScionE.rel_no h0) hfree.2)
  obtain ⟨e0, e1, e2, e3, e4, e5, e6⟩ := E5.cells
  obtain ⟨g0, g1, g2, g3⟩ := HX5.out.cells
  have hl5 := blk_lt HX5.out
  clear hck hfree h0
  go_wp2_with fail
  refine (lawlock_any c t x' _ (hc.below hbC) hx5 (by omega) (by omega)).mono ?_
  rintro r w6 ⟨y, rfl, hy, hy1, hy2, -, -, -, -, hb6⟩
  have E6 := E5.below hb6
  have HX6 := hide (HX5.out.below hb6)
  have hx6 := hx5.below hb6
  have hbD : Below w.heap.size w w6 := hbC.trans (hb6.mono hbC.size)
  have HY1 := hide hy1
  have HY2 := hide hy2
  have hly1 : y.stubs.length ≤ 30 := by rw [hy1, lockStubs_length]; omega
  have hly2 : y.scions.length ≤ 30 := by rw [hy2, lockScions_length]; omega
  clear e0 e1 e2 e3 e4 e5 e6 g0 g1 g2 g3 E5 HX5 hx5 hy1 hy2 hb6
  obtain ⟨-, -, -, -, -, e5, e6⟩ := E6.cells
  have hl6 := blk_lt HX6.out
  have hl6' : w.heap.size + 1 < w6.heap.size := by omega
  go_wp2_with fail
  refine (abort_any t y.sA y.sC y.stubs y.nA y.nC y.scions _ (hy.s.below (by repeat (first | with_reducible exact Below.refl _ _ | (with_reducible refine Below.drew ?_) | (with_reducible refine below_drewN ?_ _) | (with_reducible refine Below.alloc ?_ ?_ _; rotate_left; (first | omega | (simp <;> omega))) | (with_reducible refine Below.setCell ?_ ?_ _; rotate_left; (first | omega | (simp <;> omega)))))) (hy.n.below (by repeat (first | with_reducible exact Below.refl _ _ | (with_reducible refine Below.drew ?_) | (with_reducible refine below_drewN ?_ _) | (with_reducible refine Below.alloc ?_ ?_ _; rotate_left; (first | omega | (simp <;> omega))) | (with_reducible refine Below.setCell ?_ ?_ _; rotate_left; (first | omega | (simp <;> omega)))))) (by omega) (by omega)).mono ?_
  rintro r w7 ⟨v3, v4, rfl, ho3, ho4, hb7⟩
  have Y7 : XB w7 y w6.heap.size := blk_below (heap_alloc_new _ _) hb7
  obtain ⟨pA, pC, rfl, hpC, hpm, -⟩ := ho3.slAt StubE.enc
  obtain ⟨qA, qC, rfl, hqC, hqm, -⟩ := ho4.slAt ScionE.enc
  have hb7' : Below w6.heap.size w6 w7 := (Below.trans (by repeat (first | with_reducible exact Below.refl _ _ | (with_reducible refine Below.drew ?_) | (with_reducible refine below_drewN ?_ _) | (with_reducible refine Below.alloc ?_ ?_ _; rotate_left; (first | omega | (simp <;> omega))) | (with_reducible refine Below.setCell ?_ ?_ _; rotate_left; (first | omega | (simp <;> omega))))) (hb7.mono (by first | omega | (simp <;> omega))))
  have HX7 := hide (HX6.out.below hb7')
  have hx7 := hx6.below hb7'
  have hbE : Below w.heap.size w w7 := hbD.trans (hb7'.mono hbD.size)
  have f0 := Y7.free 0
  have f1 := Y7.free 1
  obtain ⟨g0, g1, -, -⟩ := Y7.cells
  have hl7 := blk_lt Y7
  have HY7 := hide Y7
  simp only [World.size_alloc] at ho3 ho4
  clear e5 e6 Y7 hb7
  go_upto_region 10 with fail
  refine wp_name ?_
  intro w8 hw8
  have X8 : XB w8 x' (w.heap.size + 1 + 1) := by rw [← hw8]; exact (HX7.out.far (p := ⟨w6.heap.size, 0, none⟩) (by simp; omega) _).far (p := ⟨w6.heap.size, 1, none⟩) (by simp; omega) _
  have Y8 : XB w8 ⟨pA, pC, relStubs false t y.stubs, qA, qC, relScions false t y.scions, y.epoch, y.rA, y.rC, y.received⟩ w6.heap.size := by rw [← hw8]; exact HY7.out.store pA pC _ qA qC _
  have hb78 : Below w6.heap.size w7 w8 := by rw [← hw8]; exact (by repeat (first | with_reducible exact Below.refl _ _ | (with_reducible refine Below.drew ?_) | (with_reducible refine below_drewN ?_ _) | (with_reducible refine Below.alloc ?_ ?_ _; rotate_left; (first | omega | (simp <;> omega))) | (with_reducible refine Below.setCell ?_ ?_ _; rotate_left; (first | omega | (simp <;> omega)))))
  have hbF : Below w.heap.size w w8 := hbE.trans (hb78.mono hbD.size)
  have hk8 : ∀ k, w6.heap.size + 1 ≤ k → w8.heap[k]? = w7.heap[k]? := fun k hk => by rw [← hw8, blk_far (by simp; omega), blk_far (by simp; omega)]
  have hx8 : x'.at_ w8 := hx6.below (hb7'.trans hb78)
  have hy8 : TablesV.at_ ⟨pA, pC, relStubs false t y.stubs, qA, qC, relScions false t y.scions, y.epoch, y.rA, y.rC, y.received⟩ w8 := by
    refine ⟨((ho3.of_heap hk8).at_ StubE.enc).2.2, ((ho4.of_heap hk8).at_ ScionE.enc).2.2, hy.r.below (hb7'.trans hb78), ?_, ?_, hy.rl⟩
    · simp only [checks_relS]; omega
    · simp only [checks_relN]; omega
  obtain ⟨g0, g1, g2, g3⟩ := X8.cells
  obtain ⟨h0, h1, h2, h3⟩ := Y8.cells
  clear hw8 X8 Y8 f0 f1
  go_wp2_with fail
  refine (lawsame_any x' _ _ hx8 hy8).mono ?_
  rintro r w9 ⟨q, rfl, hq, hb9⟩
  have hq' : q = true := hq.2 ⟨by rw [HY1.out]; exact U1.out.symm, by rw [HY2.out]; exact U2.out.symm⟩
  subst hq'
  clear hq
  go_wp2_with fail
  go_ret
  exact ⟨rfl, hbF.trans (hb9.mono hbF.size)⟩
end Go.Proofs.Ytnjpmpelgigmjaa
