/-
  Contracts of the functions of this seat that each theorem names: what a call returns, and that it writes nothing that was there before. The conditions stand in each theorem.
-/
import Derived.Test.YtnjpmpelgigmjaaC34Law8
import Derived.Test.YtnjpmpelgigmjaaC34PlainU
namespace Go.Proofs.Ytnjpmpelgigmjaa
open Go.RowKit
attribute [local go_sem ↓] run_eql_trace run_neq_trace
theorem any_take {α : Type} {p : α → Bool} {l : List α} {k : Nat} {x : α} (hx : l[k]? = some x) : (l.take (k + 1)).any p = ((l.take k).any p || p x) := by
  rw [List.take_add_one, hx]; simp
set_option maxRecDepth 100000 in
set_option maxHeartbeats 8000000 in
theorem lockedlaw_any' (HP : LockedAll) (cm ce : Int) (cA : Option Addr) (cC : Nat) (cst : List NeedE) (dA : Option Addr) (dC : Nat) (csc : List NeedE) (kA : Option Addr) (kC : Nat) (kch : List NeedE) (t : TraceE) (x : TablesV) (w : World)
    (hc : ClaimV.at_ ⟨cm, ce, cA, cC, cst, dA, dC, csc, kA, kC, kch⟩ w) (hx : x.at_ w) :
    Calls Try.prog 9 #[.agg #[.int .i64 cm, .int .i64 ce, .slice cA cst.length cC, .slice dA csc.length dC, .slice kA kch.length kC], t.v, x.v] w fun r w' => r = .returned (.bool true) ∧ Below w.heap.size w w' := by
  have HcS : ∀ u [Later w u], SlAt NeedE.cells 3 u cA cst := fun u i => hc.s.below i.below
  have HcN : ∀ u [Later w u], SlAt NeedE.cells 3 u dA csc := fun u i => hc.n.below i.below
  have Hc : ∀ u [Later w u], ClaimV.at_ ⟨cm, ce, cA, cC, cst, dA, dC, csc, kA, kC, kch⟩ u := fun u i => hc.below i.below
  have Hx : ∀ u [Later w u], x.at_ u := fun u i => hx.below i.below
  go_enter Try.func9, Try.ntmps9
  go_wp2_with fail
  refine calls_name ?_
  intro w0 h0
  obtain ⟨B0, B1, B2, l0⟩ := box3 h0
  clear h0
  refine (awake_any _).mono ?_
  rintro r w1 ⟨rfl, hb⟩
  have l1 := later hb
  clear hb
  go_wp2_with fail
  refine (many_any x ⟨cm, ce, cA, cC, cst, dA, dC, csc, kA, kC, kch⟩ _ _ (heap_alloc_new _ _) hc.tot hx.sl hx.nl hx.rl).mono ?_
  rintro r w2 ⟨rfl, hb⟩
  have l2 := later hb
  clear hb
  cases hm : manyB x ⟨cm, ce, cA, cC, cst, dA, dC, csc, kA, kC, kch⟩
  rotate_left
  · go_wp2_with fail
    go_ret
    exact ⟨rfl, below_of⟩
  obtain ⟨n1, n2, n3, n4⟩ := many_false hm
  simp only at n1 n2 n3 n4
  go_wp2_with fail
  refine (lawlock_any ⟨cm, ce, cA, cC, cst, dA, dC, csc, kA, kC, kch⟩ t x _ (Hc _) (Hx _) (by omega) (by omega)).mono ?_
  rintro r w3 ⟨y, rfl, hy, hy1, hy2, hy3, hy4, -, -, hb⟩
  have l3 := later hb
  have hly1 : y.stubs.length ≤ 30 := by rw [hy1, lockStubs_length]; omega
  have hly2 : y.scions.length ≤ 30 := by rw [hy2, lockScions_length]; omega
  have HY1 := hide hy1
  have HY2 := hide hy2
  have HyS : ∀ u [Later w3 u], SlAt StubE.cells 12 u y.sA y.stubs := fun u i => hy.s.below i.below
  have HyN : ∀ u [Later w3 u], SlAt ScionE.cells 12 u y.nA y.scions := fun u i => hy.n.below i.below
  clear hb hy1 hy2 hy3 hy4 hy hm
  obtain ⟨S2, hS2⟩ : ∃ S, S = relStubs true t y.stubs := ⟨_, rfl⟩
  obtain ⟨N2, hN2⟩ : ∃ N, N = relScions true t y.scions := ⟨_, rfl⟩
  obtain ⟨S3, hS3⟩ : ∃ S, S = relStubs false t y.stubs := ⟨_, rfl⟩
  obtain ⟨N3, hN3⟩ : ∃ N, N = relScions false t y.scions := ⟨_, rfl⟩
  have s3 : (relStubs true t y.stubs).length ≤ 30 := by rw [relStubs_map, List.length_map]; omega
  have s4 : (relScions true t y.scions).length ≤ 30 := by rw [relScions_map, List.length_map]; omega
  have s5 : (relStubs false t y.stubs).length ≤ 30 := by rw [relStubs_map, List.length_map]; omega
  have s6 : (relScions false t y.scions).length ≤ 30 := by rw [relScions_map, List.length_map]; omega
  have HC : ∀ u [Later w3 u], Calls Try.prog 18 #[t.v, .slice y.sA y.stubs.length y.sC, .slice y.nA y.scions.length y.nC] u (TwoPost u (relStubs true t y.stubs) (relScions true t y.scions)) := fun u i =>
    (commit_any t y.sA y.sC y.stubs y.nA y.nC y.scions u (HyS u) (HyN u) (by omega) (by omega)).mono fun _ _ => two_of
  have HA : ∀ u [Later w3 u], Calls Try.prog 19 #[t.v, .slice y.sA y.stubs.length y.sC, .slice y.nA y.scions.length y.nC] u (TwoPost u (relStubs false t y.stubs) (relScions false t y.scions)) := fun u i =>
    (abort_any t y.sA y.sC y.stubs y.nA y.nC y.scions u (HyS u) (HyN u) (by omega) (by omega)).mono fun _ _ => two_of
  clear hS2 hN2 hS3 hN3 S2 N2 S3 N3
  go_upto_region 6 with fail
  refine wp_name ?_
  intro w4 hw4
  obtain ⟨B3, l4⟩ := box1 hw4
  clear hw4
  go_wp2_with (go_at_call 26; refine (HP y.sA y.sC y.stubs y.nA y.nC y.scions _ (HyS _) (HyN _) (by omega) (by omega)).mono ?_)
  rintro r w5 ⟨q, Aq, cq, Hq, rfl, hoq, hb5⟩
  have l5 := later hb5
  have hqs := (hoq.at_ TraceE.enc).2.2
  have HqS : ∀ u [Later w5 u], SlAt TraceE.cells 2 u Aq q := fun u i => hqs.below i.below
  have hql : q.length ≤ 60 := by
    have := locked_len (locksOf y.stubs y.scions)
    rw [← Hq.out] at this
    simp only [locksOf, List.length_append, List.length_map] at this
    omega
  have Hstr := hide (show StrictT q by rw [Hq.out]; exact locked_strict _)
  have Hnz : ∀ z, z ∈ q → zeroT z = false := fun z hz => by rw [Hq.out, locked_mem] at hz; exact hz.2
  have Hnm := hide (fun (h : namedAny cst csc x.stubs x.scions = true) (hz : zeroT t = false) => show hasT t q = true by
    rw [hasT_iff, Hq.out, HY1.out, HY2.out]
    exact named_has h hz)
  clear hqs hb5 hoq
  go_wp2_with fail
  go_loopw [9, 11] (fun nv iv wr => ∃ (k : Nat) (b : Bool), k ≤ cst.length ∧ iv = .int .i64 k ∧ nv = .bool b ∧ Hid (b = (cst.take k).any (idxIs isStub x.stubs)) ∧ Below w5.heap.size w5 wr) (fun _ iv _ => cst.length - (intOf iv).toNat)
  case atStart => exact ⟨0, false, by omega, rfl, rfl, hide (by simp), Below.refl _ _⟩
  case round =>
    obtain ⟨k, b, hk, rfl, rfl, Hb, hbr⟩ := hrel
    have lr := later hbr
    by_cases hlt : k < cst.length
    · obtain ⟨bk, off, n, rfl, hbk, he, hcl⟩ := (HcS wr).at_ hlt
      obtain ⟨f0, f1, f2⟩ := NeedE.facts hcl
      have F0 := Later.cell f0
      have F1 := Later.cell f1
      have F2 := Later.cell f2
      have Ht := hide (any_take (p := idxIs isStub x.stubs) he)
      obtain ⟨ix, hix⟩ : ∃ ix, ix = idxOf (isStub n.peer n.number) x.stubs := ⟨_, rfl⟩
      have HCall : ∀ u [Later w u], Calls Try.prog 14 #[.slice x.sA x.stubs.length x.sC, .agg #[.int .i64 n.peer, .int .u64 n.number, .int .i64 n.stamp]] u fun r w' => r = .returned (.int .i64 ix) ∧ Below u.heap.size u w' := fun u i => by
        rw [hix]
        exact stub_any x.sA x.sC x.stubs n u (Hx u).s (by omega)
      have Hix := hide hix
      clear hcl he f0 f1 f2 hix
      cases b
      · go_upto_region 11 with fail
        (refine wp_region_after (by kernel_rfl) (by kernel_rfl) ?_
         repeat (any_goals (first | go_big_quiet_skip | (go_big_quiet_want; go_big_quiet_op; first | go_big_quiet_on | go_big_quiet_call ((go_at_call 14; exact Calls.after (HCall _)))) | quiet_step ((go_at_call 14; exact Calls.after (HCall _))) | (refine wpQuiet_step (fun K hK => ?_); go_simp; split <;> (refine hK _ ?_; clear hK K))))
         all_goals (refine wpQuiet_nil ?_; intro _ hw'; obtain ⟨u', hw''⟩ := hw'; subst hw''; obtain ⟨wd, hbd⟩ := u'; simp only [After.val_mk]))
        all_goals (have ld := later hbd)
        all_goals go_wp2_with fail
        all_goals go_roundw
        case rel => exact ⟨k + 1, decide (0 ≤ ix), by omega, by go_num, rfl, hide (by rw [Ht.out]; have := Hb.out; skip; rw [← this]; simp [idxIs, Hix.out]), hbr.trans (below_of.mono hbr.size)⟩
        case measure => simp [intOf]; omega
      · go_upto_region 11 with fail
        (refine wp_region_after (by kernel_rfl) (by kernel_rfl) ?_
         repeat (any_goals (first | go_big_quiet_skip | (go_big_quiet_want; go_big_quiet_op; first | go_big_quiet_on | go_big_quiet_call (fail)) | quiet_step (fail) | (refine wpQuiet_step (fun K hK => ?_); go_simp; split <;> (refine hK _ ?_; clear hK K))))
         all_goals (refine wpQuiet_nil ?_; intro _ hw'; obtain ⟨u', hw''⟩ := hw'; subst hw''; obtain ⟨wd, hbd⟩ := u'; simp only [After.val_mk]))
        all_goals (have ld := later hbd)
        all_goals go_wp2_with fail
        all_goals go_roundw
        case rel => exact ⟨k + 1, true, by omega, by go_num, rfl, hide (by rw [Ht.out]; have := Hb.out; skip; rw [← this]; simp), hbr.trans (below_of.mono hbr.size)⟩
        case measure => simp [intOf]; omega
    · have hk' : k = cst.length := by omega
      subst hk'
      have Hb0 := hide (show b = (cst.any (idxIs isStub x.stubs) || (csc.take 0).any (idxIs isScion x.scions)) by rw [Hb.out, List.take_length]; simp)
      clear Hb
      go_wp2_with fail
      go_loopw [9, 12] (fun nv iv wr => ∃ (k : Nat) (b : Bool), k ≤ csc.length ∧ iv = .int .i64 k ∧ nv = .bool b ∧ Hid (b = (cst.any (idxIs isStub x.stubs) || (csc.take k).any (idxIs isScion x.scions))) ∧ Below w5.heap.size w5 wr) (fun _ iv _ => csc.length - (intOf iv).toNat)
      case atStart => exact ⟨0, b, by omega, rfl, rfl, Hb0, hbr⟩
      case round =>
        clear lr
        clear hbr Hb0
        obtain ⟨k, b, hk, rfl, rfl, Hb, hbr⟩ := hrel
        have lr := later hbr
        by_cases hlt : k < csc.length
        · obtain ⟨bk, off, n, rfl, hbk, he, hcl⟩ := (HcN wr).at_ hlt
          obtain ⟨f0, f1, f2⟩ := NeedE.facts hcl
          have F0 := Later.cell f0
          have F1 := Later.cell f1
          have F2 := Later.cell f2
          have Ht := hide (any_take (p := idxIs isScion x.scions) he)
          obtain ⟨ix, hix⟩ : ∃ ix, ix = idxOf (isScion n.peer n.number) x.scions := ⟨_, rfl⟩
          have HCall : ∀ u [Later w u], Calls Try.prog 15 #[.slice x.nA x.scions.length x.nC, .agg #[.int .i64 n.peer, .int .u64 n.number, .int .i64 n.stamp]] u fun r w' => r = .returned (.int .i64 ix) ∧ Below u.heap.size u w' := fun u i => by
            rw [hix]
            exact scion_any x.nA x.nC x.scions n u (Hx u).n (by omega)
          have Hix := hide hix
          clear hcl he f0 f1 f2 hix
          cases b
          · go_upto_region 15 with fail
            (refine wp_region_after (by kernel_rfl) (by kernel_rfl) ?_
             repeat (any_goals (first | go_big_quiet_skip | (go_big_quiet_want; go_big_quiet_op; first | go_big_quiet_on | go_big_quiet_call ((go_at_call 15; exact Calls.after (HCall _)))) | quiet_step ((go_at_call 15; exact Calls.after (HCall _))) | (refine wpQuiet_step (fun K hK => ?_); go_simp; split <;> (refine hK _ ?_; clear hK K))))
             all_goals (refine wpQuiet_nil ?_; intro _ hw'; obtain ⟨u', hw''⟩ := hw'; subst hw''; obtain ⟨wd, hbd⟩ := u'; simp only [After.val_mk]))
            all_goals (have ld := later hbd)
            all_goals go_wp2_with fail
            all_goals go_roundw
            case rel => exact ⟨k + 1, decide (0 ≤ ix), by omega, by go_num, rfl, hide (by rw [Ht.out]; have := Hb.out; rw [← Bool.or_assoc]; rw [← this]; simp [idxIs, Hix.out]), hbr.trans (below_of.mono hbr.size)⟩
            case measure => simp [intOf]; omega
          · go_upto_region 15 with fail
            (refine wp_region_after (by kernel_rfl) (by kernel_rfl) ?_
             repeat (any_goals (first | go_big_quiet_skip | (go_big_quiet_want; go_big_quiet_op; first | go_big_quiet_on | go_big_quiet_call (fail)) | quiet_step (fail) | (refine wpQuiet_step (fun K hK => ?_); go_simp; split <;> (refine hK _ ?_; clear hK K))))
             all_goals (refine wpQuiet_nil ?_; intro _ hw'; obtain ⟨u', hw''⟩ := hw'; subst hw''; obtain ⟨wd, hbd⟩ := u'; simp only [After.val_mk]))
            all_goals (have ld := later hbd)
            all_goals go_wp2_with fail
            all_goals go_roundw
            case rel => exact ⟨k + 1, true, by omega, by go_num, rfl, hide (by rw [Ht.out]; have := Hb.out; rw [← Bool.or_assoc]; rw [← this]; simp), hbr.trans (below_of.mono hbr.size)⟩
            case measure => simp [intOf]; omega
        · have hk' : k = csc.length := by omega
          subst hk'
          have Hb0 := hide (show b = namedAny cst csc x.stubs x.scions by rw [Hb.out, List.take_length]; rfl)
          clear Hb
          go_wp2_with fail
          obtain ⟨b1, hb1⟩ : ∃ b1, b1 = b := ⟨_, rfl⟩
          rw [← hb1] at Hb0 ⊢
          clear hb1
          go_loopw [10, 13] (fun hv iv wr => ∃ (k : Nat) (b : Bool), k ≤ q.length ∧ iv = .int .i64 k ∧ hv = .bool b ∧ Hid (b = hasT t (q.take k)) ∧ Below w5.heap.size w5 wr) (fun _ iv _ => q.length - (intOf iv).toNat)
          case atStart => exact ⟨0, false, by omega, rfl, rfl, hide (by simp [hasT]), hbr⟩
          case round =>
            clear lr
            clear hbr
            obtain ⟨k, b, hk, rfl, rfl, Hb, hbr⟩ := hrel
            have lr := later hbr
            by_cases hlt : k < q.length
            · obtain ⟨z, hz⟩ : ∃ z, q[k]? = some z := ⟨_, List.getElem?_eq_getElem hlt⟩
              obtain ⟨g1, o1, rfl, C1, C2⟩ := trace_at (HqS wr) hz
              have hnz : teq z.machine z.serial 0 0 = false := Hnz z (List.mem_of_getElem? hz)
              have Ht := hide (show hasT t (q.take (k + 1)) = (hasT t (q.take k) || teq z.machine z.serial t.machine t.serial) from any_take hz)
              have Hz := hide hz
              clear hz
              by_cases hk0 : k = 0
              · subst hk0
                simp only [Nat.zero_mul, Nat.add_zero] at C1 C2
                have hl0 : (0 : Int) < (q.length : Int) := by omega
                go_upto_region 19 with fail
                (refine wp_region_after (by kernel_rfl) (by kernel_rfl) ?_
                 repeat (any_goals (first | go_big_quiet_skip | (go_big_quiet_want; go_big_quiet_op; first | go_big_quiet_on | go_big_quiet_call (fail)) | quiet_step (fail) | (refine wpQuiet_step (fun K hK => ?_); go_simp; split <;> (refine hK _ ?_; clear hK K))))
                 all_goals (refine wpQuiet_nil ?_; intro _ hw'; obtain ⟨u', hw''⟩ := hw'; subst hw''; obtain ⟨wd, hbd⟩ := u'; simp only [After.val_mk]))
                all_goals (try (exfalso; omega))
                have ld := later hbd
                cases b
                · go_upto_region 21 with fail
                  (refine wp_region_after (by kernel_rfl) (by kernel_rfl) ?_
                   repeat (any_goals (first | go_big_quiet_skip | (go_big_quiet_want; go_big_quiet_op; first | go_big_quiet_on | go_big_quiet_call (fail)) | quiet_step (fail) | (refine wpQuiet_step (fun K hK => ?_); go_simp; split <;> (refine hK _ ?_; clear hK K))))
                   all_goals (refine wpQuiet_nil ?_; intro _ hw'; obtain ⟨u', hw''⟩ := hw'; subst hw''; obtain ⟨wd, hbd⟩ := u'; simp only [After.val_mk]))
                  have ld := later hbd
                  go_wp2_with fail
                  go_roundw
                  case rel => exact ⟨1, teq z.machine z.serial t.machine t.serial, by omega, by go_num, rfl, hide (by have h1 := Ht.out; rw [← Hb.out] at h1; simpa using h1.symm), hbr.trans (below_of.mono hbr.size)⟩
                  case measure => simp [intOf] <;> omega
                · go_upto_region 21 with fail
                  (refine wp_region_after (by kernel_rfl) (by kernel_rfl) ?_
                   repeat (any_goals (first | go_big_quiet_skip | (go_big_quiet_want; go_big_quiet_op; first | go_big_quiet_on | go_big_quiet_call (fail)) | quiet_step (fail) | (refine wpQuiet_step (fun K hK => ?_); go_simp; split <;> (refine hK _ ?_; clear hK K))))
                   all_goals (refine wpQuiet_nil ?_; intro _ hw'; obtain ⟨u', hw''⟩ := hw'; subst hw''; obtain ⟨wd, hbd⟩ := u'; simp only [After.val_mk]))
                  have ld := later hbd
                  go_wp2_with fail
                  go_roundw
                  case rel => exact ⟨1, true, by omega, by go_num, rfl, hide (by have h1 := Ht.out; rw [← Hb.out] at h1; simpa using h1.symm), hbr.trans (below_of.mono hbr.size)⟩
                  case measure => simp [intOf] <;> omega
              · obtain ⟨j, hj⟩ : ∃ j : Nat, k = j + 1 := ⟨k - 1, by omega⟩
                have hj1 : ((k : Int) - 1) = (j : Int) := by omega
                have hkp : decide (0 < (k : Int)) = true := by simp; omega
                obtain ⟨p, hp⟩ : ∃ p, q[j]? = some p := ⟨_, List.getElem?_eq_getElem (by omega)⟩
                obtain ⟨g2, o2, hA2, D1, D2⟩ := trace_at (HqS wr) hp
                injection hA2 with hA2
                injection hA2 with hA2 hA3
                subst hA2 hA3
                have hlp : ltT p z := by
                  have := Hz.out
                  have h1 := List.pairwise_iff_getElem.1 Hstr.out j k (by omega) hlt (by omega)
                  rw [(List.getElem?_eq_some_iff.1 hp).2, (List.getElem?_eq_some_iff.1 Hz.out).2] at h1
                  exact h1
                have HB : ∀ u, Calls Try.prog 28 #[.agg #[.int .i64 p.machine, .int .i64 p.serial], .agg #[.int .i64 z.machine, .int .i64 z.serial]] u fun r w' => r = .returned (.bool true) ∧ Below u.heap.size u w' := fun u => by
                  have := before_any p z u
                  simp only [hlp, decide_true] at this
                  exact this
                have hjl : (j : Int) < (q.length : Int) := by omega
                have Hj := hide hj
                clear hj hp hlp
                go_upto_region 19 with fail
                (refine wp_region_after (by kernel_rfl) (by kernel_rfl) ?_
                 repeat (any_goals (first | go_big_quiet_skip | (go_big_quiet_want; go_big_quiet_op; first | go_big_quiet_on | go_big_quiet_call ((go_at_call 28; exact Calls.after (HB _)))) | quiet_step ((go_at_call 28; exact Calls.after (HB _))) | (refine wpQuiet_step (fun K hK => ?_); go_simp; split <;> (refine hK _ ?_; clear hK K))))
                 all_goals (refine wpQuiet_nil ?_; intro _ hw'; obtain ⟨u', hw''⟩ := hw'; subst hw''; obtain ⟨wd, hbd⟩ := u'; simp only [After.val_mk]))
                all_goals (try (exfalso; omega))
                have ld := later hbd
                cases b
                · go_upto_region 21 with fail
                  (refine wp_region_after (by kernel_rfl) (by kernel_rfl) ?_
                   repeat (any_goals (first | go_big_quiet_skip | (go_big_quiet_want; go_big_quiet_op; first | go_big_quiet_on | go_big_quiet_call (fail)) | quiet_step (fail) | (refine wpQuiet_step (fun K hK => ?_); go_simp; split <;> (refine hK _ ?_; clear hK K))))
                   all_goals (refine wpQuiet_nil ?_; intro _ hw'; obtain ⟨u', hw''⟩ := hw'; subst hw''; obtain ⟨wd, hbd⟩ := u'; simp only [After.val_mk]))
                  have ld := later hbd
                  go_wp2_with fail
                  go_roundw
                  case rel => exact ⟨k + 1, teq z.machine z.serial t.machine t.serial, by omega, by go_num, rfl, hide (by have h1 := Ht.out; rw [← Hb.out] at h1; simpa using h1.symm), hbr.trans (below_of.mono hbr.size)⟩
                  case measure => simp [intOf] <;> omega
                · go_upto_region 21 with fail
                  (refine wp_region_after (by kernel_rfl) (by kernel_rfl) ?_
                   repeat (any_goals (first | go_big_quiet_skip | (go_big_quiet_want; go_big_quiet_op; first | go_big_quiet_on | go_big_quiet_call (fail)) | quiet_step (fail) | (refine wpQuiet_step (fun K hK => ?_); go_simp; split <;> (refine hK _ ?_; clear hK K))))
                   all_goals (refine wpQuiet_nil ?_; intro _ hw'; obtain ⟨u', hw''⟩ := hw'; subst hw''; obtain ⟨wd, hbd⟩ := u'; simp only [After.val_mk]))
                  have ld := later hbd
                  go_wp2_with fail
                  go_roundw
                  case rel => exact ⟨k + 1, true, by omega, by go_num, rfl, hide (by have h1 := Ht.out; rw [← Hb.out] at h1; simpa using h1.symm), hbr.trans (below_of.mono hbr.size)⟩
                  case measure => simp [intOf] <;> omega
            · have hk' : k = q.length := by omega
              subst hk'
              have Hb2 := hide (show b = hasT t q by rw [Hb.out, List.take_length])
              clear Hb
              have Himp := hide (fun (h : b1 = true) (hz : zeroT t = false) => show b = true by rw [Hb2.out]; exact Hnm.out (by rw [← Hb0.out]; exact h) hz)
              have Himp2 := hide (fun (hz : zeroT t = true) => show b = false by
                rw [Hb2.out]
                cases h : hasT t q
                · rfl
                · have := Hnz t (hasT_iff.1 h); rw [hz] at this; cases this)
              cases b1
              · cases b
                · go_upto_region 24 with fail
                  refine wp_name ?_
                  intro w6 hw6
                  have l6 := later_name' hw6 (inferInstance : Later w5 _)
                  clear hw6
                  go_wp2_with fail
                  refine wp_name ?_
                  intro w7 hw7
                  obtain ⟨B4, l7⟩ := box1 hw7
                  clear hw7
                  go_loopw [15, 16, 17, 18, 19, 123] (fun _ _ _ _ _ iv wr => ∃ k : Nat, k ≤ 2 ∧ iv = .int .i64 k ∧ Below w7.heap.size w7 wr) (fun _ _ _ _ _ iv _ => 2 - (intOf iv).toNat)
                  case atStart => exact ⟨0, by omega, rfl, Below.refl _ _⟩
                  case round =>
                    clear lr
                    obtain ⟨k, hk, rfl, hbr⟩ := hrel
                    have lr := later hbr
                    have ld := lr
                    have lq := lr
                    rcases (by omega : k = 0 ∨ k = 1 ∨ k = 2) with rfl | rfl | rfl
                    · go_wp2_with (go_at_call 19; refine (HA _).mono ?_)
                      rintro r w8 ⟨aA, aC, bA, bC, rfl, ha, hb, hba⟩
                      have l8 := later hba
                      have SA := ha.later
                      have NA := hb.later
                      clear hba ha hb
                      go_wp2_with (go_at_call 26; refine (HP aA aC _ bA bC _ _ (SA _) (NA _) (by omega) (by omega)).mono ?_)
                      rintro r we ⟨q3, A3, c3, Hq3, rfl, ho3, hbe⟩
                      have le := later hbe
                      have hq3l := hide (show (q3.length = if hasT t q then q.length - 1 else q.length) by rw [Hq3.out, locked_after_len, ← Hq.out])
                      have hq3b : q3.length ≤ 60 := by
                        have := hq3l.out
                        split at this <;> omega
                      have Hgone : ∀ z, z ∈ q3 → teq z.machine z.serial t.machine t.serial = false := fun z hz => by rw [Hq3.out] at hz; exact locked_gone hz
                      have hs3 := (ho3.at_ TraceE.enc).2.2
                      have HS3 : ∀ u [Later we u], SlAt TraceE.cells 2 u A3 q3 := fun u i => hs3.below i.below
                      go_wp2_with fail
                      go_loopw [19] (fun iv wr => ∃ k : Nat, k ≤ q3.length ∧ iv = .int .i64 k ∧ Below we.heap.size we wr) (fun iv _ => q3.length - (intOf iv).toNat)
                      case atStart => exact ⟨0, by omega, rfl, Below.refl _ _⟩
                      case round =>
                        clear lr ld
                        obtain ⟨k3, hk3, rfl, hbr3⟩ := hrel
                        have lr := later hbr3
                        by_cases hlt3 : k3 < q3.length
                        · obtain ⟨z, hz⟩ : ∃ z, q3[k3]? = some z := ⟨_, List.getElem?_eq_getElem hlt3⟩
                          obtain ⟨g1, o1, rfl, C1, C2⟩ := trace_at (HS3 wr) hz
                          have hne := Hgone z (List.mem_of_getElem? hz)
                          clear hz
                          go_upto_region 34 with fail
                          (refine wp_region_after (by kernel_rfl) (by kernel_rfl) ?_
                           repeat (any_goals (first | go_big_quiet_skip | (go_big_quiet_want; go_big_quiet_op; first | go_big_quiet_on | go_big_quiet_call (fail)) | quiet_step (fail) | (refine wpQuiet_step (fun K hK => ?_); go_simp; split <;> (refine hK _ ?_; clear hK K))))
                           all_goals (refine wpQuiet_nil ?_; intro _ hw'; obtain ⟨u', hw''⟩ := hw'; subst hw''; obtain ⟨wd, hbd⟩ := u'; simp only [After.val_mk]))
                          have ld := later hbd
                          go_wp2_with fail
                          go_roundw
                          case rel => exact ⟨k3 + 1, by omega, by go_num, hbr3.trans (below_of.mono hbr3.size)⟩
                          case measure => simp [intOf]; omega
                        · have hk' : k3 = q3.length := by omega
                          subst hk'
                          have hlen := hide hq3l.out
                          have h1 : ((q3.length : Int) != (q.length : Int)) = false := by
                            have := hlen.out
                            rw [← Hb2.out] at this
                            simp only [Bool.false_eq_true, if_false] at this
                            simp only [bne_eq_false_iff_eq]
                            omega
                          clear hq3l
                          go_wp2_with fail
                          go_roundw
                          case rel => exact ⟨1, by omega, by go_num, below_of⟩
                          case measure => simp [intOf]
                    · go_wp2_with (go_at_call 19; refine (HA _).mono ?_)
                      rintro r w8 ⟨aA, aC, bA, bC, rfl, ha, hb, hba⟩
                      have l8 := later hba
                      have SA := ha.later
                      have NA := hb.later
                      clear hba ha hb
                      go_wp2_with (go_at_call 18; refine (HC _).mono ?_)
                      rintro r w9 ⟨aA, aC, bA, bC, rfl, ha, hb, hba⟩
                      have l9 := later hba
                      have SA := ha.later
                      have NA := hb.later
                      clear hba ha hb
                      go_wp2_with (go_at_call 26; refine (HP aA aC _ bA bC _ _ (SA _) (NA _) (by omega) (by omega)).mono ?_)
                      rintro r we ⟨q3, A3, c3, Hq3, rfl, ho3, hbe⟩
                      have le := later hbe
                      have hq3l := hide (show (q3.length = if hasT t q then q.length - 1 else q.length) by rw [Hq3.out, locked_after_len, ← Hq.out])
                      have hq3b : q3.length ≤ 60 := by
                        have := hq3l.out
                        split at this <;> omega
                      have Hgone : ∀ z, z ∈ q3 → teq z.machine z.serial t.machine t.serial = false := fun z hz => by rw [Hq3.out] at hz; exact locked_gone hz
                      have hs3 := (ho3.at_ TraceE.enc).2.2
                      have HS3 : ∀ u [Later we u], SlAt TraceE.cells 2 u A3 q3 := fun u i => hs3.below i.below
                      go_wp2_with fail
                      go_loopw [19] (fun iv wr => ∃ k : Nat, k ≤ q3.length ∧ iv = .int .i64 k ∧ Below we.heap.size we wr) (fun iv _ => q3.length - (intOf iv).toNat)
                      case atStart => exact ⟨0, by omega, rfl, Below.refl _ _⟩
                      case round =>
                        clear lr ld
                        obtain ⟨k3, hk3, rfl, hbr3⟩ := hrel
                        have lr := later hbr3
                        by_cases hlt3 : k3 < q3.length
                        · obtain ⟨z, hz⟩ : ∃ z, q3[k3]? = some z := ⟨_, List.getElem?_eq_getElem hlt3⟩
                          obtain ⟨g1, o1, rfl, C1, C2⟩ := trace_at (HS3 wr) hz
                          have hne := Hgone z (List.mem_of_getElem? hz)
                          clear hz
                          go_upto_region 34 with fail
                          (refine wp_region_after (by kernel_rfl) (by kernel_rfl) ?_
                           repeat (any_goals (first | go_big_quiet_skip | (go_big_quiet_want; go_big_quiet_op; first | go_big_quiet_on | go_big_quiet_call (fail)) | quiet_step (fail) | (refine wpQuiet_step (fun K hK => ?_); go_simp; split <;> (refine hK _ ?_; clear hK K))))
                           all_goals (refine wpQuiet_nil ?_; intro _ hw'; obtain ⟨u', hw''⟩ := hw'; subst hw''; obtain ⟨wd, hbd⟩ := u'; simp only [After.val_mk]))
                          have ld := later hbd
                          go_wp2_with fail
                          go_roundw
                          case rel => exact ⟨k3 + 1, by omega, by go_num, hbr3.trans (below_of.mono hbr3.size)⟩
                          case measure => simp [intOf]; omega
                        · have hk' : k3 = q3.length := by omega
                          subst hk'
                          have hlen := hide hq3l.out
                          have h1 : ((q3.length : Int) != (q.length : Int)) = false := by
                            have := hlen.out
                            rw [← Hb2.out] at this
                            simp only [Bool.false_eq_true, if_false] at this
                            simp only [bne_eq_false_iff_eq]
                            omega
                          clear hq3l
                          go_wp2_with fail
                          go_roundw
                          case rel => exact ⟨2, by omega, by go_num, below_of⟩
                          case measure => simp [intOf]
                    · go_wp2_with fail
                      go_ret
                      exact ⟨rfl, below_of⟩
                · go_upto_region 24 with fail
                  refine wp_name ?_
                  intro w6 hw6
                  have l6 := later_name' hw6 (inferInstance : Later w5 _)
                  clear hw6
                  go_wp2_with fail
                  refine wp_name ?_
                  intro w7 hw7
                  obtain ⟨B4, l7⟩ := box1 hw7
                  clear hw7
                  go_loopw [15, 16, 17, 18, 19, 123] (fun _ _ _ _ _ iv wr => ∃ k : Nat, k ≤ 2 ∧ iv = .int .i64 k ∧ Below w7.heap.size w7 wr) (fun _ _ _ _ _ iv _ => 2 - (intOf iv).toNat)
                  case atStart => exact ⟨0, by omega, rfl, Below.refl _ _⟩
                  case round =>
                    clear lr
                    obtain ⟨k, hk, rfl, hbr⟩ := hrel
                    have lr := later hbr
                    have ld := lr
                    have lq := lr
                    rcases (by omega : k = 0 ∨ k = 1 ∨ k = 2) with rfl | rfl | rfl
                    · go_wp2_with (go_at_call 19; refine (HA _).mono ?_)
                      rintro r w8 ⟨aA, aC, bA, bC, rfl, ha, hb, hba⟩
                      have l8 := later hba
                      have SA := ha.later
                      have NA := hb.later
                      clear hba ha hb
                      go_wp2_with (go_at_call 26; refine (HP aA aC _ bA bC _ _ (SA _) (NA _) (by omega) (by omega)).mono ?_)
                      rintro r we ⟨q3, A3, c3, Hq3, rfl, ho3, hbe⟩
                      have le := later hbe
                      have hq3l := hide (show (q3.length = if hasT t q then q.length - 1 else q.length) by rw [Hq3.out, locked_after_len, ← Hq.out])
                      have hq3b : q3.length ≤ 60 := by
                        have := hq3l.out
                        split at this <;> omega
                      have Hgone : ∀ z, z ∈ q3 → teq z.machine z.serial t.machine t.serial = false := fun z hz => by rw [Hq3.out] at hz; exact locked_gone hz
                      have hs3 := (ho3.at_ TraceE.enc).2.2
                      have HS3 : ∀ u [Later we u], SlAt TraceE.cells 2 u A3 q3 := fun u i => hs3.below i.below
                      go_wp2_with fail
                      go_loopw [19] (fun iv wr => ∃ k : Nat, k ≤ q3.length ∧ iv = .int .i64 k ∧ Below we.heap.size we wr) (fun iv _ => q3.length - (intOf iv).toNat)
                      case atStart => exact ⟨0, by omega, rfl, Below.refl _ _⟩
                      case round =>
                        clear lr ld
                        obtain ⟨k3, hk3, rfl, hbr3⟩ := hrel
                        have lr := later hbr3
                        by_cases hlt3 : k3 < q3.length
                        · obtain ⟨z, hz⟩ : ∃ z, q3[k3]? = some z := ⟨_, List.getElem?_eq_getElem hlt3⟩
                          obtain ⟨g1, o1, rfl, C1, C2⟩ := trace_at (HS3 wr) hz
                          have hne := Hgone z (List.mem_of_getElem? hz)
                          clear hz
                          go_upto_region 34 with fail
                          (refine wp_region_after (by kernel_rfl) (by kernel_rfl) ?_
                           repeat (any_goals (first | go_big_quiet_skip | (go_big_quiet_want; go_big_quiet_op; first | go_big_quiet_on | go_big_quiet_call (fail)) | quiet_step (fail) | (refine wpQuiet_step (fun K hK => ?_); go_simp; split <;> (refine hK _ ?_; clear hK K))))
                           all_goals (refine wpQuiet_nil ?_; intro _ hw'; obtain ⟨u', hw''⟩ := hw'; subst hw''; obtain ⟨wd, hbd⟩ := u'; simp only [After.val_mk]))
                          have ld := later hbd
                          go_wp2_with fail
                          go_roundw
                          case rel => exact ⟨k3 + 1, by omega, by go_num, hbr3.trans (below_of.mono hbr3.size)⟩
                          case measure => simp [intOf]; omega
                        · have hk' : k3 = q3.length := by omega
                          subst hk'
                          have hlen := hide hq3l.out
                          have h1 : ((q3.length : Int) != ((q.length : Int) - 1)) = false := by
                            have := hlen.out
                            rw [← Hb2.out] at this
                            simp only [if_true] at this
                            have hpos : 0 < q.length := by
                              have := hasT_iff.1 Hb2.out.symm
                              exact List.length_pos_of_mem this
                            simp only [bne_eq_false_iff_eq]
                            omega
                          clear hq3l
                          go_wp2_with fail
                          go_roundw
                          case rel => exact ⟨1, by omega, by go_num, below_of⟩
                          case measure => simp [intOf]
                    · go_wp2_with (go_at_call 19; refine (HA _).mono ?_)
                      rintro r w8 ⟨aA, aC, bA, bC, rfl, ha, hb, hba⟩
                      have l8 := later hba
                      have SA := ha.later
                      have NA := hb.later
                      clear hba ha hb
                      go_wp2_with (go_at_call 18; refine (HC _).mono ?_)
                      rintro r w9 ⟨aA, aC, bA, bC, rfl, ha, hb, hba⟩
                      have l9 := later hba
                      have SA := ha.later
                      have NA := hb.later
                      clear hba ha hb
                      go_wp2_with (go_at_call 26; refine (HP aA aC _ bA bC _ _ (SA _) (NA _) (by omega) (by omega)).mono ?_)
                      rintro r we ⟨q3, A3, c3, Hq3, rfl, ho3, hbe⟩
                      have le := later hbe
                      have hq3l := hide (show (q3.length = if hasT t q then q.length - 1 else q.length) by rw [Hq3.out, locked_after_len, ← Hq.out])
                      have hq3b : q3.length ≤ 60 := by
                        have := hq3l.out
                        split at this <;> omega
                      have Hgone : ∀ z, z ∈ q3 → teq z.machine z.serial t.machine t.serial = false := fun z hz => by rw [Hq3.out] at hz; exact locked_gone hz
                      have hs3 := (ho3.at_ TraceE.enc).2.2
                      have HS3 : ∀ u [Later we u], SlAt TraceE.cells 2 u A3 q3 := fun u i => hs3.below i.below
                      go_wp2_with fail
                      go_loopw [19] (fun iv wr => ∃ k : Nat, k ≤ q3.length ∧ iv = .int .i64 k ∧ Below we.heap.size we wr) (fun iv _ => q3.length - (intOf iv).toNat)
                      case atStart => exact ⟨0, by omega, rfl, Below.refl _ _⟩
                      case round =>
                        clear lr ld
                        obtain ⟨k3, hk3, rfl, hbr3⟩ := hrel
                        have lr := later hbr3
                        by_cases hlt3 : k3 < q3.length
                        · obtain ⟨z, hz⟩ : ∃ z, q3[k3]? = some z := ⟨_, List.getElem?_eq_getElem hlt3⟩
                          obtain ⟨g1, o1, rfl, C1, C2⟩ := trace_at (HS3 wr) hz
                          have hne := Hgone z (List.mem_of_getElem? hz)
                          clear hz
                          go_upto_region 34 with fail
                          (refine wp_region_after (by kernel_rfl) (by kernel_rfl) ?_
                           repeat (any_goals (first | go_big_quiet_skip | (go_big_quiet_want; go_big_quiet_op; first | go_big_quiet_on | go_big_quiet_call (fail)) | quiet_step (fail) | (refine wpQuiet_step (fun K hK => ?_); go_simp; split <;> (refine hK _ ?_; clear hK K))))
                           all_goals (refine wpQuiet_nil ?_; intro _ hw'; obtain ⟨u', hw''⟩ := hw'; subst hw''; obtain ⟨wd, hbd⟩ := u'; simp only [After.val_mk]))
                          have ld := later hbd
                          go_wp2_with fail
                          go_roundw
                          case rel => exact ⟨k3 + 1, by omega, by go_num, hbr3.trans (below_of.mono hbr3.size)⟩
                          case measure => simp [intOf]; omega
                        · have hk' : k3 = q3.length := by omega
                          subst hk'
                          have hlen := hide hq3l.out
                          have h1 : ((q3.length : Int) != ((q.length : Int) - 1)) = false := by
                            have := hlen.out
                            rw [← Hb2.out] at this
                            simp only [if_true] at this
                            have hpos : 0 < q.length := by
                              have := hasT_iff.1 Hb2.out.symm
                              exact List.length_pos_of_mem this
                            simp only [bne_eq_false_iff_eq]
                            omega
                          clear hq3l
                          go_wp2_with fail
                          go_roundw
                          case rel => exact ⟨2, by omega, by go_num, below_of⟩
                          case measure => simp [intOf]
                    · go_wp2_with fail
                      go_ret
                      exact ⟨rfl, below_of⟩
              · cases htz : teq t.machine t.serial 0 0
                · obtain rfl : b = true := Himp.out rfl htz
                  go_upto_region 24 with fail
                  refine wp_name ?_
                  intro w6 hw6
                  have l6 := later_name' hw6 (inferInstance : Later w5 _)
                  clear hw6
                  go_wp2_with fail
                  refine wp_name ?_
                  intro w7 hw7
                  obtain ⟨B4, l7⟩ := box1 hw7
                  clear hw7
                  go_loopw [15, 16, 17, 18, 19, 123] (fun _ _ _ _ _ iv wr => ∃ k : Nat, k ≤ 2 ∧ iv = .int .i64 k ∧ Below w7.heap.size w7 wr) (fun _ _ _ _ _ iv _ => 2 - (intOf iv).toNat)
                  case atStart => exact ⟨0, by omega, rfl, Below.refl _ _⟩
                  case round =>
                    clear lr
                    obtain ⟨k, hk, rfl, hbr⟩ := hrel
                    have lr := later hbr
                    have ld := lr
                    have lq := lr
                    rcases (by omega : k = 0 ∨ k = 1 ∨ k = 2) with rfl | rfl | rfl
                    · go_wp2_with (go_at_call 19; refine (HA _).mono ?_)
                      rintro r w8 ⟨aA, aC, bA, bC, rfl, ha, hb, hba⟩
                      have l8 := later hba
                      have SA := ha.later
                      have NA := hb.later
                      clear hba ha hb
                      go_wp2_with (go_at_call 26; refine (HP aA aC _ bA bC _ _ (SA _) (NA _) (by omega) (by omega)).mono ?_)
                      rintro r we ⟨q3, A3, c3, Hq3, rfl, ho3, hbe⟩
                      have le := later hbe
                      have hq3l := hide (show (q3.length = if hasT t q then q.length - 1 else q.length) by rw [Hq3.out, locked_after_len, ← Hq.out])
                      have hq3b : q3.length ≤ 60 := by
                        have := hq3l.out
                        split at this <;> omega
                      have Hgone : ∀ z, z ∈ q3 → teq z.machine z.serial t.machine t.serial = false := fun z hz => by rw [Hq3.out] at hz; exact locked_gone hz
                      have hs3 := (ho3.at_ TraceE.enc).2.2
                      have HS3 : ∀ u [Later we u], SlAt TraceE.cells 2 u A3 q3 := fun u i => hs3.below i.below
                      go_wp2_with fail
                      go_loopw [19] (fun iv wr => ∃ k : Nat, k ≤ q3.length ∧ iv = .int .i64 k ∧ Below we.heap.size we wr) (fun iv _ => q3.length - (intOf iv).toNat)
                      case atStart => exact ⟨0, by omega, rfl, Below.refl _ _⟩
                      case round =>
                        clear lr ld
                        obtain ⟨k3, hk3, rfl, hbr3⟩ := hrel
                        have lr := later hbr3
                        by_cases hlt3 : k3 < q3.length
                        · obtain ⟨z, hz⟩ : ∃ z, q3[k3]? = some z := ⟨_, List.getElem?_eq_getElem hlt3⟩
                          obtain ⟨g1, o1, rfl, C1, C2⟩ := trace_at (HS3 wr) hz
                          have hne := Hgone z (List.mem_of_getElem? hz)
                          clear hz
                          go_upto_region 34 with fail
                          (refine wp_region_after (by kernel_rfl) (by kernel_rfl) ?_
                           repeat (any_goals (first | go_big_quiet_skip | (go_big_quiet_want; go_big_quiet_op; first | go_big_quiet_on | go_big_quiet_call (fail)) | quiet_step (fail) | (refine wpQuiet_step (fun K hK => ?_); go_simp; split <;> (refine hK _ ?_; clear hK K))))
                           all_goals (refine wpQuiet_nil ?_; intro _ hw'; obtain ⟨u', hw''⟩ := hw'; subst hw''; obtain ⟨wd, hbd⟩ := u'; simp only [After.val_mk]))
                          have ld := later hbd
                          go_wp2_with fail
                          go_roundw
                          case rel => exact ⟨k3 + 1, by omega, by go_num, hbr3.trans (below_of.mono hbr3.size)⟩
                          case measure => simp [intOf]; omega
                        · have hk' : k3 = q3.length := by omega
                          subst hk'
                          have hlen := hide hq3l.out
                          have h1 : ((q3.length : Int) != ((q.length : Int) - 1)) = false := by
                            have := hlen.out
                            rw [← Hb2.out] at this
                            simp only [if_true] at this
                            have hpos : 0 < q.length := by
                              have := hasT_iff.1 Hb2.out.symm
                              exact List.length_pos_of_mem this
                            simp only [bne_eq_false_iff_eq]
                            omega
                          clear hq3l
                          go_wp2_with fail
                          go_roundw
                          case rel => exact ⟨1, by omega, by go_num, below_of⟩
                          case measure => simp [intOf]
                    · go_wp2_with (go_at_call 19; refine (HA _).mono ?_)
                      rintro r w8 ⟨aA, aC, bA, bC, rfl, ha, hb, hba⟩
                      have l8 := later hba
                      have SA := ha.later
                      have NA := hb.later
                      clear hba ha hb
                      go_wp2_with (go_at_call 18; refine (HC _).mono ?_)
                      rintro r w9 ⟨aA, aC, bA, bC, rfl, ha, hb, hba⟩
                      have l9 := later hba
                      have SA := ha.later
                      have NA := hb.later
                      clear hba ha hb
                      go_wp2_with (go_at_call 26; refine (HP aA aC _ bA bC _ _ (SA _) (NA _) (by omega) (by omega)).mono ?_)
                      rintro r we ⟨q3, A3, c3, Hq3, rfl, ho3, hbe⟩
                      have le := later hbe
                      have hq3l := hide (show (q3.length = if hasT t q then q.length - 1 else q.length) by rw [Hq3.out, locked_after_len, ← Hq.out])
                      have hq3b : q3.length ≤ 60 := by
                        have := hq3l.out
                        split at this <;> omega
                      have Hgone : ∀ z, z ∈ q3 → teq z.machine z.serial t.machine t.serial = false := fun z hz => by rw [Hq3.out] at hz; exact locked_gone hz
                      have hs3 := (ho3.at_ TraceE.enc).2.2
                      have HS3 : ∀ u [Later we u], SlAt TraceE.cells 2 u A3 q3 := fun u i => hs3.below i.below
                      go_wp2_with fail
                      go_loopw [19] (fun iv wr => ∃ k : Nat, k ≤ q3.length ∧ iv = .int .i64 k ∧ Below we.heap.size we wr) (fun iv _ => q3.length - (intOf iv).toNat)
                      case atStart => exact ⟨0, by omega, rfl, Below.refl _ _⟩
                      case round =>
                        clear lr ld
                        obtain ⟨k3, hk3, rfl, hbr3⟩ := hrel
                        have lr := later hbr3
                        by_cases hlt3 : k3 < q3.length
                        · obtain ⟨z, hz⟩ : ∃ z, q3[k3]? = some z := ⟨_, List.getElem?_eq_getElem hlt3⟩
                          obtain ⟨g1, o1, rfl, C1, C2⟩ := trace_at (HS3 wr) hz
                          have hne := Hgone z (List.mem_of_getElem? hz)
                          clear hz
                          go_upto_region 34 with fail
                          (refine wp_region_after (by kernel_rfl) (by kernel_rfl) ?_
                           repeat (any_goals (first | go_big_quiet_skip | (go_big_quiet_want; go_big_quiet_op; first | go_big_quiet_on | go_big_quiet_call (fail)) | quiet_step (fail) | (refine wpQuiet_step (fun K hK => ?_); go_simp; split <;> (refine hK _ ?_; clear hK K))))
                           all_goals (refine wpQuiet_nil ?_; intro _ hw'; obtain ⟨u', hw''⟩ := hw'; subst hw''; obtain ⟨wd, hbd⟩ := u'; simp only [After.val_mk]))
                          have ld := later hbd
                          go_wp2_with fail
                          go_roundw
                          case rel => exact ⟨k3 + 1, by omega, by go_num, hbr3.trans (below_of.mono hbr3.size)⟩
                          case measure => simp [intOf]; omega
                        · have hk' : k3 = q3.length := by omega
                          subst hk'
                          have hlen := hide hq3l.out
                          have h1 : ((q3.length : Int) != ((q.length : Int) - 1)) = false := by
                            have := hlen.out
                            rw [← Hb2.out] at this
                            simp only [if_true] at this
                            have hpos : 0 < q.length := by
                              have := hasT_iff.1 Hb2.out.symm
                              exact List.length_pos_of_mem this
                            simp only [bne_eq_false_iff_eq]
                            omega
                          clear hq3l
                          go_wp2_with fail
                          go_roundw
                          case rel => exact ⟨2, by omega, by go_num, below_of⟩
                          case measure => simp [intOf]
                    · go_wp2_with fail
                      go_ret
                      exact ⟨rfl, below_of⟩
                · obtain rfl : b = false := Himp2.out htz
                  go_upto_region 24 with fail
                  refine wp_name ?_
                  intro w6 hw6
                  have l6 := later_name' hw6 (inferInstance : Later w5 _)
                  clear hw6
                  go_wp2_with fail
                  refine wp_name ?_
                  intro w7 hw7
                  obtain ⟨B4, l7⟩ := box1 hw7
                  clear hw7
                  go_loopw [15, 16, 17, 18, 19, 123] (fun _ _ _ _ _ iv wr => ∃ k : Nat, k ≤ 2 ∧ iv = .int .i64 k ∧ Below w7.heap.size w7 wr) (fun _ _ _ _ _ iv _ => 2 - (intOf iv).toNat)
                  case atStart => exact ⟨0, by omega, rfl, Below.refl _ _⟩
                  case round =>
                    clear lr
                    obtain ⟨k, hk, rfl, hbr⟩ := hrel
                    have lr := later hbr
                    have ld := lr
                    have lq := lr
                    rcases (by omega : k = 0 ∨ k = 1 ∨ k = 2) with rfl | rfl | rfl
                    · go_wp2_with (go_at_call 19; refine (HA _).mono ?_)
                      rintro r w8 ⟨aA, aC, bA, bC, rfl, ha, hb, hba⟩
                      have l8 := later hba
                      have SA := ha.later
                      have NA := hb.later
                      clear hba ha hb
                      go_wp2_with (go_at_call 26; refine (HP aA aC _ bA bC _ _ (SA _) (NA _) (by omega) (by omega)).mono ?_)
                      rintro r we ⟨q3, A3, c3, Hq3, rfl, ho3, hbe⟩
                      have le := later hbe
                      have hq3l := hide (show (q3.length = if hasT t q then q.length - 1 else q.length) by rw [Hq3.out, locked_after_len, ← Hq.out])
                      have hq3b : q3.length ≤ 60 := by
                        have := hq3l.out
                        split at this <;> omega
                      have Hgone : ∀ z, z ∈ q3 → teq z.machine z.serial t.machine t.serial = false := fun z hz => by rw [Hq3.out] at hz; exact locked_gone hz
                      have hs3 := (ho3.at_ TraceE.enc).2.2
                      have HS3 : ∀ u [Later we u], SlAt TraceE.cells 2 u A3 q3 := fun u i => hs3.below i.below
                      go_wp2_with fail
                      go_loopw [19] (fun iv wr => ∃ k : Nat, k ≤ q3.length ∧ iv = .int .i64 k ∧ Below we.heap.size we wr) (fun iv _ => q3.length - (intOf iv).toNat)
                      case atStart => exact ⟨0, by omega, rfl, Below.refl _ _⟩
                      case round =>
                        clear lr ld
                        obtain ⟨k3, hk3, rfl, hbr3⟩ := hrel
                        have lr := later hbr3
                        by_cases hlt3 : k3 < q3.length
                        · obtain ⟨z, hz⟩ : ∃ z, q3[k3]? = some z := ⟨_, List.getElem?_eq_getElem hlt3⟩
                          obtain ⟨g1, o1, rfl, C1, C2⟩ := trace_at (HS3 wr) hz
                          have hne := Hgone z (List.mem_of_getElem? hz)
                          clear hz
                          go_upto_region 34 with fail
                          (refine wp_region_after (by kernel_rfl) (by kernel_rfl) ?_
                           repeat (any_goals (first | go_big_quiet_skip | (go_big_quiet_want; go_big_quiet_op; first | go_big_quiet_on | go_big_quiet_call (fail)) | quiet_step (fail) | (refine wpQuiet_step (fun K hK => ?_); go_simp; split <;> (refine hK _ ?_; clear hK K))))
                           all_goals (refine wpQuiet_nil ?_; intro _ hw'; obtain ⟨u', hw''⟩ := hw'; subst hw''; obtain ⟨wd, hbd⟩ := u'; simp only [After.val_mk]))
                          have ld := later hbd
                          go_wp2_with fail
                          go_roundw
                          case rel => exact ⟨k3 + 1, by omega, by go_num, hbr3.trans (below_of.mono hbr3.size)⟩
                          case measure => simp [intOf]; omega
                        · have hk' : k3 = q3.length := by omega
                          subst hk'
                          have hlen := hide hq3l.out
                          have h1 : ((q3.length : Int) != (q.length : Int)) = false := by
                            have := hlen.out
                            rw [← Hb2.out] at this
                            simp only [Bool.false_eq_true, if_false] at this
                            simp only [bne_eq_false_iff_eq]
                            omega
                          clear hq3l
                          go_wp2_with fail
                          go_roundw
                          case rel => exact ⟨1, by omega, by go_num, below_of⟩
                          case measure => simp [intOf]
                    · go_wp2_with (go_at_call 19; refine (HA _).mono ?_)
                      rintro r w8 ⟨aA, aC, bA, bC, rfl, ha, hb, hba⟩
                      have l8 := later hba
                      have SA := ha.later
                      have NA := hb.later
                      clear hba ha hb
                      go_wp2_with (go_at_call 18; refine (HC _).mono ?_)
                      rintro r w9 ⟨aA, aC, bA, bC, rfl, ha, hb, hba⟩
                      have l9 := later hba
                      have SA := ha.later
                      have NA := hb.later
                      clear hba ha hb
                      go_wp2_with (go_at_call 26; refine (HP aA aC _ bA bC _ _ (SA _) (NA _) (by omega) (by omega)).mono ?_)
                      rintro r we ⟨q3, A3, c3, Hq3, rfl, ho3, hbe⟩
                      have le := later hbe
                      have hq3l := hide (show (q3.length = if hasT t q then q.length - 1 else q.length) by rw [Hq3.out, locked_after_len, ← Hq.out])
                      have hq3b : q3.length ≤ 60 := by
                        have := hq3l.out
                        split at this <;> omega
                      have Hgone : ∀ z, z ∈ q3 → teq z.machine z.serial t.machine t.serial = false := fun z hz => by rw [Hq3.out] at hz; exact locked_gone hz
                      have hs3 := (ho3.at_ TraceE.enc).2.2
                      have HS3 : ∀ u [Later we u], SlAt TraceE.cells 2 u A3 q3 := fun u i => hs3.below i.below
                      go_wp2_with fail
                      go_loopw [19] (fun iv wr => ∃ k : Nat, k ≤ q3.length ∧ iv = .int .i64 k ∧ Below we.heap.size we wr) (fun iv _ => q3.length - (intOf iv).toNat)
                      case atStart => exact ⟨0, by omega, rfl, Below.refl _ _⟩
                      case round =>
                        clear lr ld
                        obtain ⟨k3, hk3, rfl, hbr3⟩ := hrel
                        have lr := later hbr3
                        by_cases hlt3 : k3 < q3.length
                        · obtain ⟨z, hz⟩ : ∃ z, q3[k3]? = some z := ⟨_, List.getElem?_eq_getElem hlt3⟩
                          obtain ⟨g1, o1, rfl, C1, C2⟩ := trace_at (HS3 wr) hz
                          have hne := Hgone z (List.mem_of_getElem? hz)
                          clear hz
                          go_upto_region 34 with fail
                          (refine wp_region_after (by kernel_rfl) (by kernel_rfl) ?_
                           repeat (any_goals (first | go_big_quiet_skip | (go_big_quiet_want; go_big_quiet_op; first | go_big_quiet_on | go_big_quiet_call (fail)) | quiet_step (fail) | (refine wpQuiet_step (fun K hK => ?_); go_simp; split <;> (refine hK _ ?_; clear hK K))))
                           all_goals (refine wpQuiet_nil ?_; intro _ hw'; obtain ⟨u', hw''⟩ := hw'; subst hw''; obtain ⟨wd, hbd⟩ := u'; simp only [After.val_mk]))
                          have ld := later hbd
                          go_wp2_with fail
                          go_roundw
                          case rel => exact ⟨k3 + 1, by omega, by go_num, hbr3.trans (below_of.mono hbr3.size)⟩
                          case measure => simp [intOf]; omega
                        · have hk' : k3 = q3.length := by omega
                          subst hk'
                          have hlen := hide hq3l.out
                          have h1 : ((q3.length : Int) != (q.length : Int)) = false := by
                            have := hlen.out
                            rw [← Hb2.out] at this
                            simp only [Bool.false_eq_true, if_false] at this
                            simp only [bne_eq_false_iff_eq]
                            omega
                          clear hq3l
                          go_wp2_with fail
                          go_roundw
                          case rel => exact ⟨2, by omega, by go_num, below_of⟩
                          case measure => simp [intOf]
                    · go_wp2_with fail
                      go_ret
                      exact ⟨rfl, below_of⟩
end Go.Proofs.Ytnjpmpelgigmjaa
