/-
  Contracts of the functions of this seat that each theorem names: what a call returns, and that it writes nothing that was there before. The conditions stand in each theorem.
-/
import Derived.Test.YtnjpmpelgigmjaaC34Law4
import Derived.Test.YtnjpmpelgigmjaaC34Plain2
import Derived.Test.YtnjpmpelgigmjaaLater
namespace Go.Proofs.Ytnjpmpelgigmjaa
open Go.RowKit
attribute [local go_sem ↓] run_eql_trace run_neq_trace

set_option maxHeartbeats 800000 in
theorem exclusive_any (c : ClaimV) (t u : TraceE) (x : TablesV) (w : World) (hc : c.at_ w) (hx : x.at_ w) :
    Calls Try.prog 7 #[c.v, t.v, u.v, x.v] w fun r w' => r = .returned (.bool true) ∧ Below w.heap.size w w' := by
  have Hc : ∀ u [Later w u], c.at_ u := fun u i => hc.below i.below
  have Hx : ∀ u [Later w u], x.at_ u := fun u i => hx.below i.below
  go_enter Try.func7, Try.ntmps7
  go_wp2_with fail
  refine calls_name ?_
  intro w0 h0
  obtain ⟨B0, B1, B2, B3, l0⟩ := box4 h0
  clear h0
  refine (awake_any _).mono ?_
  rintro r w1 ⟨rfl, hb⟩
  have l1 := later hb
  clear hb
  go_wp2_with fail
  refine (many_any x c _ _ (heap_alloc_new _ _) hc.tot hx.sl hx.nl hx.rl).mono ?_
  rintro r w2 ⟨rfl, hb⟩
  have l2 := later hb
  clear hb
  cases hm : manyB x c
  rotate_left
  · go_wp2_with fail
    go_ret
    exact ⟨rfl, below_of⟩
  obtain ⟨n1, n2, n3, n4⟩ := many_false hm
  cases htu : teq t.machine t.serial u.machine u.serial
  rotate_left
  · go_wp2_with fail
    go_ret
    exact ⟨rfl, below_of⟩
  by_cases hs : c.stubs.length + c.scions.length = 0
  · have hs' : (c.stubs.length : Int) + (c.scions.length : Int) = 0 := by omega
    go_wp2_with fail
    go_ret
    exact ⟨rfl, below_of⟩
  have hs' : ¬ (c.stubs.length : Int) + (c.scions.length : Int) = 0 := by omega
  go_wp2_with fail
  refine (lawcheck_any c t x _ (Hc _) (Hx _)).mono ?_
  rintro r w3 ⟨rfl, hb⟩
  have l3 := later hb
  clear hb
  cases hck : checkB c t x.epoch x.stubs x.scions x.received
  · go_wp2_with fail
    go_ret
    exact ⟨rfl, below_of⟩
  have U1 := hide (check_locked hck)
  have U2 := hide (check_other hck htu (by intro h; rw [h.1, h.2] at hs; exact hs rfl))
  have U3 := hide (StubE.lock_twice t c.stubs x.stubs)
  have U4 := hide (ScionE.lock_twice t c.scions x.scions)
  have U5 := hide (fun h => check_aborted hck h htu (u := u))
  go_wp2_with fail
  refine (lawcheck_any c u x _ (Hc _) (Hx _)).mono ?_
  rintro r w4 ⟨rfl, hb⟩
  have l4 := later hb
  clear hb hck
  go_wp2_with fail
  refine (lawlock_any c t x _ (Hc _) (Hx _) (by omega) (by omega)).mono ?_
  rintro r w5 ⟨y, rfl, hy, hy1, hy2, hy3, hy4, -, -, hb⟩
  have l5 := later hb
  have HY1 := hide hy1
  have HY2 := hide hy2
  have HY3 := hide hy3
  have HY4 := hide hy4
  have hly1 : y.stubs.length ≤ 30 := by rw [hy1, lockStubs_length]; omega
  have hly2 : y.scions.length ≤ 30 := by rw [hy2, lockScions_length]; omega
  have T1 := hide (show checkB c t y.epoch y.stubs y.scions y.received = true by rw [HY1.out, HY2.out, HY3.out, HY4.out]; exact U1.out)
  have T2 := hide (show checkB c u y.epoch y.stubs y.scions y.received = false by rw [HY1.out, HY2.out, HY3.out, HY4.out]; exact U2.out)
  have Hy : ∀ u [Later w5 u], y.at_ u := fun u i => hy.below i.below
  clear hb hy1 hy2 hy3 hy4
  go_upto_region 7 with fail
  refine wp_name ?_
  intro w6 hw6
  obtain ⟨B6, l6⟩ := box1 hw6
  clear hw6
  go_region_held3 (fun w' => ∀ b [Later b w6], Later b w') ((intro b _; infer_instance))
    ((first
      | (go_at_call 17; refine (lawlock_any c t y _ (Hc _) (Hy _) (by omega) (by omega)).mono ?_; rintro r w7 ⟨z, rfl, hzz, hz1, hz2, -, -, -, -, hb7⟩; have l7 := later hb7)
      | (go_at_call 20; refine (lawsame_any z y _ (hzz.below below_of) (Hy _)).mono ?_; rintro r w8 ⟨q, rfl, hq, hb8⟩; have l8 := later hb8)
      | (go_at_call 12; refine (lawcheck_any c _ y _ (Hc _) (Hy _)).mono ?_; rintro r w7 ⟨rfl, hb7⟩; have l7 := later hb7; first | rw [T1.out] | rw [T2.out])))
  have hq' : q = true := hq.2 ⟨by rw [hz1, HY1.out]; exact U3.out, by rw [hz2, HY2.out]; exact U4.out⟩
  subst hq'
  clear hq hz1 hz2 hzz
  go_wp2_with fail
  refine (abort_any t y.sA y.sC y.stubs y.nA y.nC y.scions _ (Hy _).s (Hy _).n (by omega) (by omega)).mono ?_
  rintro r w9 ⟨v3, v4, rfl, ho3, ho4, hb9⟩
  have l9 := later hb9
  obtain ⟨pA, pC, rfl, hpC, hpm, -⟩ := ho3.slAt StubE.enc
  obtain ⟨qA, qC, rfl, hqC, hqm, -⟩ := ho4.slAt ScionE.enc
  have hg : w5.heap.size < w8.heap.size := Nat.lt_of_lt_of_le (boxed_lt B6) (below_of (b := w6) (w := w8)).size
  clear hb7 hb8 hb9
  go_upto_region 10 with fail
  refine wp_name ?_
  intro w10 hw10
  have B10 := boxed_set2 B6 hw10
  have l10 := later_set2 (W := w5) hw10
  have ho3' := ho3.set2 hw10 hg hg
  have ho4' := ho4.set2 hw10 hg hg
  have hy8 : TablesV.at_ ⟨pA, pC, relStubs false t y.stubs, qA, qC, relScions false t y.scions, y.epoch, y.rA, y.rC, y.received⟩ w10 := by
    refine ⟨(ho3'.at_ StubE.enc).2.2, (ho4'.at_ ScionE.enc).2.2, (Hy w10).r, ?_, ?_, (Hy w5).rl⟩
    · simp only [checks_relS]; omega
    · simp only [checks_relN]; omega
  clear B6 hw10 ho3 ho4 ho3' ho4'
  simp only [List.setIfInBounds_toArray, List.set_cons_zero, List.set_cons_succ] at B10
  cases hwas : checkB c u x.epoch x.stubs x.scions x.received
  · go_wp2_with fail
    go_ret
    exact ⟨rfl, below_of⟩
  have V := hide (U5.out hwas)
  go_wp2_with fail
  refine (lawcheck_any c u _ _ (Hc _) hy8).mono ?_
  rintro r w11 ⟨rfl, hb⟩
  have l11 := later hb
  rw [show checkB c u y.epoch (relStubs false t y.stubs) (relScions false t y.scions) y.received = true by rw [HY1.out, HY2.out, HY3.out, HY4.out]; exact V.out]
  go_wp2_with fail
  go_ret
  exact ⟨rfl, below_of⟩
end Go.Proofs.Ytnjpmpelgigmjaa
