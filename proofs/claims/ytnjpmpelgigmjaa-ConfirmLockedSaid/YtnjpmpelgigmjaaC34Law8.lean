/-
  Contracts of the functions of this seat that each theorem names: what a call returns, and that it writes nothing that was there before. The conditions stand in each theorem.
-/
import Derived.Test.YtnjpmpelgigmjaaC34Law4
import Derived.Test.YtnjpmpelgigmjaaC34RefLock
import Derived.Test.YtnjpmpelgigmjaaC34RefLocked
import Derived.Test.YtnjpmpelgigmjaaC34Traces
namespace Go.Proofs.Ytnjpmpelgigmjaa
open Go.RowKit
attribute [local go_sem ↓] run_eql_trace run_neq_trace
/-- Two slices come back, that read as S and N. -/
def TwoPost (w : World) (S : List StubE) (N : List ScionE) (r : Ending) (w' : World) : Prop := ∃ aA aC bA bC, r = .returned (.tuple #[.slice aA S.length aC, .slice bA N.length bC]) ∧ SlAt StubE.cells 12 w' aA S ∧ SlAt ScionE.cells 12 w' bA N ∧ Below w.heap.size w w'
theorem two_of {w w' : World} {S : List StubE} {N : List ScionE} {r : Ending} (h : ∃ v1 v2, r = .returned (.tuple #[v1, v2]) ∧ Own StubE.cells 12 42 w.heap.size w' v1 S ∧ Own ScionE.cells 12 45 w.heap.size w' v2 N ∧ Below w.heap.size w w') : TwoPost w S N r w' := by
  obtain ⟨v1, v2, rfl, ho1, ho2, hb⟩ := h
  obtain ⟨aA, aC, rfl, -, -, hs1⟩ := ho1.slAt StubE.enc
  obtain ⟨bA, bC, rfl, -, -, hs2⟩ := ho2.slAt ScionE.enc
  exact ⟨aA, aC, bA, bC, rfl, hs1, hs2, hb⟩
theorem sameS_true (A : Option Addr) (cA : Nat) (B : Option Addr) (cB : Nat) (l : List StubE) (w : World) (ha : SlAt StubE.cells 12 w A l) (hb : SlAt StubE.cells 12 w B l) (hl : l.length ≤ 9223372036854775807) : Calls Try.prog 23 #[.slice A l.length cA, .slice B l.length cB] w fun r w' => r = .returned (.bool true) ∧ Below w.heap.size w w' := by
  refine (refStubs_any A cA l B cB l w ha hb hl hl).mono ?_
  rintro r w' ⟨q, rfl, hq, hbw⟩
  rw [hq.2 rfl]
  exact ⟨rfl, hbw⟩
theorem sameN_true (A : Option Addr) (cA : Nat) (B : Option Addr) (cB : Nat) (l : List ScionE) (w : World) (ha : SlAt ScionE.cells 12 w A l) (hb : SlAt ScionE.cells 12 w B l) (hl : l.length ≤ 9223372036854775807) : Calls Try.prog 24 #[.slice A l.length cA, .slice B l.length cB] w fun r w' => r = .returned (.bool true) ∧ Below w.heap.size w w' := by
  refine (refScions_any A cA l B cB l w ha hb hl hl).mono ?_
  rintro r w' ⟨q, rfl, hq, hbw⟩
  rw [hq.2 rfl]
  exact ⟨rfl, hbw⟩
theorem sameT_true (A : Option Addr) (cA : Nat) (B : Option Addr) (cB : Nat) (l : List TraceE) (w : World) (ha : SlAt TraceE.cells 2 w A l) (hb : SlAt TraceE.cells 2 w B l) (hl : l.length ≤ 9223372036854775807) : Calls Try.prog 25 #[.slice A l.length cA, .slice B l.length cB] w fun r w' => r = .returned (.bool true) ∧ Below w.heap.size w w' := by
  refine (refTraces_any A cA l B cB l w ha hb hl hl).mono ?_
  rintro r w' ⟨q, rfl, hq, hbw⟩
  rw [hq.2 rfl]
  exact ⟨rfl, hbw⟩
def LockedAll : Prop := ∀ (sA : Option Addr) (sC : Nat) (stubs : List StubE) (nA : Option Addr) (nC : Nat) (scions : List ScionE) (w : World), SlAt StubE.cells 12 w sA stubs → SlAt ScionE.cells 12 w nA scions → stubs.length ≤ 100000000 → scions.length ≤ 100000000 →
    Calls Try.prog 26 #[.slice sA stubs.length sC, .slice nA scions.length nC] w (LockedPost w (locksOf stubs scions))
set_option maxRecDepth 100000 in
set_option maxHeartbeats 4000000 in
theorem entries_any (HP : LockedAll) (c : ClaimV) (t : TraceE) (x : TablesV) (w : World) (hc : c.at_ w) (hx : x.at_ w) :
    Calls Try.prog 8 #[c.v, t.v, x.v] w fun r w' => r = .returned (.bool true) ∧ Below w.heap.size w w' := by
  have Hc : ∀ u [Later w u], c.at_ u := fun u i => hc.below i.below
  have Hx : ∀ u [Later w u], x.at_ u := fun u i => hx.below i.below
  go_enter Try.func8, Try.ntmps8
  go_wp2_with fail
  refine calls_name ?_
  intro w0 h0
  obtain ⟨B0, B1, B2, l0⟩ := box3 h0
  clear h0
  refine (awake_any _).mono ?_
  rintro r w1 ⟨rfl, hb⟩
  have l1 := later hb
  clear hb
  go_wp2_with fail
  refine (many_any x c _ _ (heap_alloc_new _ _) hc.tot hx.sl hx.nl hx.rl).mono ?_
  rintro r w2 ⟨rfl, hb⟩
  have l2 := later hb
  clear hb
  cases hm : manyB x c
  rotate_left
  · go_wp2_with fail
    go_ret
    exact ⟨rfl, below_of⟩
  obtain ⟨n1, n2, n3, n4⟩ := many_false hm
  obtain ⟨S1, hS1⟩ : ∃ S, S = lockStubs t c.stubs x.stubs := ⟨_, rfl⟩
  obtain ⟨N1, hN1⟩ : ∃ N, N = lockScions t c.scions x.scions := ⟨_, rfl⟩
  obtain ⟨S2, hS2⟩ : ∃ S, S = relStubs true t x.stubs := ⟨_, rfl⟩
  obtain ⟨N2, hN2⟩ : ∃ N, N = relScions true t x.scions := ⟨_, rfl⟩
  obtain ⟨S3, hS3⟩ : ∃ S, S = relStubs false t x.stubs := ⟨_, rfl⟩
  obtain ⟨N3, hN3⟩ : ∃ N, N = relScions false t x.scions := ⟨_, rfl⟩
  have s1 : S1.length ≤ 30 := by rw [hS1, lockStubs_length]; omega
  have s2 : N1.length ≤ 30 := by rw [hN1, lockScions_length]; omega
  have s3 : S2.length ≤ 30 := by rw [hS2, relStubs_map, List.length_map]; omega
  have s4 : N2.length ≤ 30 := by rw [hN2, relScions_map, List.length_map]; omega
  have s5 : S3.length ≤ 30 := by rw [hS3, relStubs_map, List.length_map]; omega
  have s6 : N3.length ≤ 30 := by rw [hN3, relScions_map, List.length_map]; omega
  have HL1 : ∀ u [Later w u], Calls Try.prog 21 #[c.v, t.v, .slice x.sA x.stubs.length x.sC, .slice x.nA x.scions.length x.nC] u (TwoPost u S1 N1) := fun u i => by
    rw [hS1, hN1]; exact (lock_any c t x.sA x.sC x.stubs x.nA x.nC x.scions u (Hc u) (Hx u).s (Hx u).n (by omega) (by omega)).mono fun _ _ => two_of
  have HL2 : ∀ u [Later w u], Calls Try.prog 22 #[c.v, t.v, .slice x.sA x.stubs.length x.sC, .slice x.nA x.scions.length x.nC] u (TwoPost u S1 N1) := fun u i => by
    rw [hS1, hN1]; exact (refLock_any c t x.sA x.sC x.stubs x.nA x.nC x.scions u (Hc u) (Hx u).s (Hx u).n (by omega) (by omega)).mono fun _ _ => two_of
  have HC1 : ∀ u [Later w u], Calls Try.prog 18 #[t.v, .slice x.sA x.stubs.length x.sC, .slice x.nA x.scions.length x.nC] u (TwoPost u S2 N2) := fun u i => by
    rw [hS2, hN2]; exact (commit_any t x.sA x.sC x.stubs x.nA x.nC x.scions u (Hx u).s (Hx u).n (by omega) (by omega)).mono fun _ _ => two_of
  have HC2 : ∀ u [Later w u], Calls Try.prog 16 #[.bool true, t.v, .slice x.sA x.stubs.length x.sC, .slice x.nA x.scions.length x.nC] u (TwoPost u S2 N2) := fun u i => by
    rw [hS2, hN2]; exact (refRelease_any true t x.sA x.sC x.stubs x.nA x.nC x.scions u (Hx u).s (Hx u).n (by omega) (by omega)).mono fun _ _ => two_of
  have HA1 : ∀ u [Later w u], Calls Try.prog 19 #[t.v, .slice x.sA x.stubs.length x.sC, .slice x.nA x.scions.length x.nC] u (TwoPost u S3 N3) := fun u i => by
    rw [hS3, hN3]; exact (abort_any t x.sA x.sC x.stubs x.nA x.nC x.scions u (Hx u).s (Hx u).n (by omega) (by omega)).mono fun _ _ => two_of
  have HA2 : ∀ u [Later w u], Calls Try.prog 16 #[.bool false, t.v, .slice x.sA x.stubs.length x.sC, .slice x.nA x.scions.length x.nC] u (TwoPost u S3 N3) := fun u i => by
    rw [hS3, hN3]; exact (refRelease_any false t x.sA x.sC x.stubs x.nA x.nC x.scions u (Hx u).s (Hx u).n (by omega) (by omega)).mono fun _ _ => two_of
  clear hS1 hN1 hS2 hN2 hS3 hN3
  go_wp2_with (go_at_call 21; refine (HL1 _).mono ?_)
  rintro r wa1 ⟨aA1, aC1, bA1, bC1, rfl, ha1, hb1, hba1⟩
  have la1 := later hba1
  have SA1 := ha1.later
  have NA1 := hb1.later
  clear hba1 ha1 hb1
  go_wp2_with (go_at_call 22; refine (HL2 _).mono ?_)
  rintro r wb1 ⟨dA1, dC1, eA1, eC1, rfl, ha1, hb1, hba1⟩
  have lb1 := later hba1
  have SB1 := ha1.later
  have NB1 := hb1.later
  clear hba1 ha1 hb1
  go_wp2_with (go_at_call 23; refine (sameS_true aA1 aC1 dA1 dC1 S1 _ (SA1 _) (SB1 _) (by omega)).mono ?_)
  rintro r wc1 ⟨rfl, hba1⟩
  have lc1 := later hba1
  go_wp2_with (go_at_call 24; refine (sameN_true bA1 bC1 eA1 eC1 N1 _ (NA1 _) (NB1 _) (by omega)).mono ?_)
  rintro r wd1 ⟨rfl, hbd1⟩
  have ld1 := later hbd1
  go_wp2_with (go_at_call 26; refine (HP aA1 aC1 S1 bA1 bC1 N1 _ (SA1 _) (NA1 _) (by omega) (by omega)).mono ?_)
  rintro r we1 ⟨q1, Aq1, cq1, Hq1, rfl, hoe1, hbe1⟩
  have le1 := later hbe1
  go_wp2_with (go_at_call 27; refine (refLocked_any dA1 dC1 S1 eA1 eC1 N1 _ (SB1 _) (NB1 _) (by omega) (by omega)).mono ?_)
  rintro r wf1 ⟨qq1, Af1, cf1, Hqq1, rfl, hof1, hbf1⟩
  have lf1 := later hbf1
  obtain rfl : qq1 = q1 := by rw [Hqq1.out, Hq1.out]
  have hse1 := (hoe1.at_ TraceE.enc).2.2.later
  have hsf1 := (hof1.at_ TraceE.enc).2.2
  have hql1 : qq1.length ≤ 9223372036854775807 := by
    have := locked_len (locksOf S1 N1)
    rw [← Hqq1.out] at this
    simp only [locksOf, List.length_append, List.length_map] at this
    omega
  go_wp2_with (go_at_call 25; refine (sameT_true Aq1 cq1 Af1 cf1 qq1 _ (hse1 _) hsf1 hql1).mono ?_)
  rintro r wg1 ⟨rfl, hbg1⟩
  have lg1 := later hbg1
  go_wp2_with (go_at_call 18; refine (HC1 _).mono ?_)
  rintro r wa2 ⟨aA2, aC2, bA2, bC2, rfl, ha2, hb2, hba2⟩
  have la2 := later hba2
  have SA2 := ha2.later
  have NA2 := hb2.later
  clear hba2 ha2 hb2
  go_wp2_with (go_at_call 16; refine (HC2 _).mono ?_)
  rintro r wb2 ⟨dA2, dC2, eA2, eC2, rfl, ha2, hb2, hba2⟩
  have lb2 := later hba2
  have SB2 := ha2.later
  have NB2 := hb2.later
  clear hba2 ha2 hb2
  go_wp2_with (go_at_call 23; refine (sameS_true aA2 aC2 dA2 dC2 S2 _ (SA2 _) (SB2 _) (by omega)).mono ?_)
  rintro r wc2 ⟨rfl, hba2⟩
  have lc2 := later hba2
  go_wp2_with (go_at_call 24; refine (sameN_true bA2 bC2 eA2 eC2 N2 _ (NA2 _) (NB2 _) (by omega)).mono ?_)
  rintro r wd2 ⟨rfl, hbd2⟩
  have ld2 := later hbd2
  go_wp2_with (go_at_call 19; refine (HA1 _).mono ?_)
  rintro r wa3 ⟨aA3, aC3, bA3, bC3, rfl, ha3, hb3, hba3⟩
  have la3 := later hba3
  have SA3 := ha3.later
  have NA3 := hb3.later
  clear hba3 ha3 hb3
  go_wp2_with (go_at_call 16; refine (HA2 _).mono ?_)
  rintro r wb3 ⟨dA3, dC3, eA3, eC3, rfl, ha3, hb3, hba3⟩
  have lb3 := later hba3
  have SB3 := ha3.later
  have NB3 := hb3.later
  clear hba3 ha3 hb3
  go_wp2_with (go_at_call 23; refine (sameS_true aA3 aC3 dA3 dC3 S3 _ (SA3 _) (SB3 _) (by omega)).mono ?_)
  rintro r wc3 ⟨rfl, hba3⟩
  have lc3 := later hba3
  go_wp2_with (go_at_call 24; refine (sameN_true bA3 bC3 eA3 eC3 N3 _ (NA3 _) (NB3 _) (by omega)).mono ?_)
  rintro r wd3 ⟨rfl, hbd3⟩
  have ld3 := later hbd3
  go_wp2_with (go_at_call 26; refine (HP aA3 aC3 S3 bA3 bC3 N3 _ (SA3 _) (NA3 _) (by omega) (by omega)).mono ?_)
  rintro r we3 ⟨q3, Aq3, cq3, Hq3, rfl, hoe3, hbe3⟩
  have le3 := later hbe3
  go_wp2_with (go_at_call 27; refine (refLocked_any dA3 dC3 S3 eA3 eC3 N3 _ (SB3 _) (NB3 _) (by omega) (by omega)).mono ?_)
  rintro r wf3 ⟨qq3, Af3, cf3, Hqq3, rfl, hof3, hbf3⟩
  have lf3 := later hbf3
  obtain rfl : qq3 = q3 := by rw [Hqq3.out, Hq3.out]
  have hse3 := (hoe3.at_ TraceE.enc).2.2.later
  have hsf3 := (hof3.at_ TraceE.enc).2.2
  have hql3 : qq3.length ≤ 9223372036854775807 := by
    have := locked_len (locksOf S3 N3)
    rw [← Hqq3.out] at this
    simp only [locksOf, List.length_append, List.length_map] at this
    omega
  go_wp2_with (go_at_call 25; refine (sameT_true Aq3 cq3 Af3 cf3 qq3 _ (hse3 _) hsf3 hql3).mono ?_)
  rintro r wg3 ⟨rfl, hbg3⟩
  have lg3 := later hbg3
  go_wp2_with fail
  go_ret
  exact ⟨rfl, below_of⟩
end Go.Proofs.Ytnjpmpelgigmjaa
