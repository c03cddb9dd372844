/-
  Contracts of the functions of this seat that each theorem names: what a call returns, and that it writes nothing that was there before. The conditions stand in each theorem.
-/
import Derived.Test.YtnjpmpelgigmjaaC34Walk10
import Derived.Test.YtnjpmpelgigmjaaLater3
namespace Go.Proofs.Ytnjpmpelgigmjaa
open Go.RowKit
theorem lockS_take {t : TraceE} {ns : List NeedE} {l : List StubE} {k : Nat} {n : NeedE} (he : ns[k]? = some n) : lockStubs t (ns.take (k + 1)) l = setAt (isStub n.peer n.number) (StubE.setLock t) (lockStubs t (ns.take k) l) := by
  unfold lockStubs
  rw [List.take_add_one, he, Option.toList_some, List.foldl_append]; rfl
theorem lockN_take {t : TraceE} {ns : List NeedE} {l : List ScionE} {k : Nat} {n : NeedE} (he : ns[k]? = some n) : lockScions t (ns.take (k + 1)) l = setAt (isScion n.peer n.number) (ScionE.setLock t) (lockScions t (ns.take k) l) := by
  unfold lockScions
  rw [List.take_add_one, he, Option.toList_some, List.foldl_append]; rfl
set_option maxRecDepth 100000 in
set_option maxHeartbeats 4000000 in
theorem refLock_any' (cm ce : Int) (cA : Option Addr) (cC : Nat) (cst : List NeedE) (dA : Option Addr) (dC : Nat) (csc : List NeedE) (kA : Option Addr) (kN kC : Nat) (t : TraceE) (sA : Option Addr) (sC : Nat) (stubs : List StubE) (nA : Option Addr) (nC : Nat) (scions : List ScionE) (w : World)
    (hcs : SlAt NeedE.cells 3 w cA cst) (hcn : SlAt NeedE.cells 3 w dA csc) (hcl1 : cst.length ≤ 9223372036854775807) (hcl2 : csc.length ≤ 9223372036854775807) (hs : SlAt StubE.cells 12 w sA stubs) (hn : SlAt ScionE.cells 12 w nA scions) (hsl : stubs.length ≤ 100000000) (hnl : scions.length ≤ 100000000) :
    Calls Try.prog 22 #[.agg #[.int .i64 cm, .int .i64 ce, .slice cA cst.length cC, .slice dA csc.length dC, .slice kA kN kC], t.v, .slice sA stubs.length sC, .slice nA scions.length nC] w
      fun r w' => ∃ v1 v2, r = .returned (.tuple #[v1, v2]) ∧ Own StubE.cells 12 42 w.heap.size w' v1 (lockStubs t cst stubs) ∧ Own ScionE.cells 12 45 w.heap.size w' v2 (lockScions t csc scions) ∧ Below w.heap.size w w' := by
  have HCS : ∀ u [Later w u], SlAt NeedE.cells 3 u cA cst := fun u i => hcs.below i.below
  have HCN : ∀ u [Later w u], SlAt NeedE.cells 3 u dA csc := fun u i => hcn.below i.below
  have HS : ∀ u [Later w u], SlAt StubE.cells 12 u sA stubs := fun u i => hs.below i.below
  have HN : ∀ u [Later w u], SlAt ScionE.cells 12 u nA scions := fun u i => hn.below i.below
  go_enter Try.func22, Try.ntmps22
  go_upto_region 1 with fail
  refine wp_name ?_
  intro w0 hw0
  obtain ⟨B0, B1, l0⟩ := box2 hw0
  have hz0 : w.heap.size ≤ w0.heap.size := by rw [← hw0]; simp; omega
  clear hw0
  go_wp2_with (first
    | (at_builtin; refine wpList_appE rfl (.tmp 16) (.tmp 17) rfl StubE.enc stubT _ _ stubs rfl rfl (HS _) (by omega) (by unfold maxLen; omega) ?_; intro aA aC w1 ho1 ham hb1; have l1 := later hb1)
    | (at_builtin; refine wpList_appE rfl (.tmp 19) (.tmp 20) rfl ScionE.enc scionT _ _ scions rfl rfl (HN _) (by omega) (by unfold maxLen; omega) ?_; intro bA bC w2 ho2 hbm hb2; have l2 := later hb2))
  have hz1 := hb1.size
  have Hap := hide (fun g (e : (Value.slice aA stubs.length aC).ownBlock = some g) => (World.ownsRow.lt ho1 g e).2)
  have hoA : Own StubE.cells 12 42 w0.heap.size w2 (.slice aA stubs.length aC) stubs := ho1.later w2
  have hbA : Below w0.heap.size w0 w2 := hb1.trans (hb2.mono hz1)
  go_loopw [12, 13] (fun iv _ wr => ∃ (k : Nat) (S : List StubE), k ≤ cst.length ∧ iv = .int .i64 k ∧ Hid (S = lockStubs t (cst.take k) stubs) ∧ S.length = stubs.length ∧ Own StubE.cells 12 42 w0.heap.size wr (.slice aA stubs.length aC) S ∧
    Own ScionE.cells 12 45 w1.heap.size wr (.slice bA scions.length bC) scions ∧ Below w0.heap.size w0 wr) (fun iv _ _ => cst.length - (intOf iv).toNat)
  case atStart => exact ⟨0, stubs, by omega, rfl, hide rfl, rfl, hoA, ho2, hbA⟩
  case round =>
    clear ho1 ho2 hoA hbA hb1 hb2 l1 l2 HS
    obtain ⟨k, S, hk, rfl, HS, hSl, hoS, hoO, hbr⟩ := hrel
    have lr := later hbr
    by_cases hlt : k < cst.length
    · obtain ⟨b, off, n, rfl, hbk, he, hcl⟩ := (HCS wr).at_ hlt
      obtain ⟨f0, f1, f2⟩ := NeedE.facts hcl
      have F0 := Later.cell f0
      have F1 := Later.cell f1
      have F2 := Later.cell f2
      have Ht := hide (lockS_take (t := t) (l := stubs) he)
      have hzr := hbr.size
      have hsr := (hoS.at_ StubE.enc).2.2
      have HCall : ∀ u [Later wr u], Calls Try.prog 14 #[.slice aA stubs.length aC, .agg #[.int .i64 n.peer, .int .u64 n.number, .int .i64 n.stamp]] u fun r w' => r = .returned (.int .i64 (idxOf (isStub n.peer n.number) S)) ∧ Below u.heap.size u w' := fun u i => by
        rw [← hSl]
        exact stub_any aA aC S n u (hsr.below i.below) (by omega)
      have HSl := hide hSl
      clear hcl he f0 f1 f2 hsr hSl
      rcases idxOf_cases (isStub n.peer n.number) S with ⟨hi, hno⟩ | ⟨k', x, hi, hx, hp, hno⟩
      · have Hn := hide (show S = setAt (isStub n.peer n.number) (StubE.setLock t) S from (setAt_miss hno).symm)
        rw [hi] at HCall
        clear hno hi
        go_wp2_with (go_at_call 14; refine (HCall _).mono ?_)
        rintro r w3 ⟨rfl, hb3⟩
        have l3 := later hb3
        go_wp2_with fail
        go_roundw
        case rel => exact ⟨k + 1, S, by omega, by go_num, hide (by rw [Ht.out, ← HS.out]; exact Hn.out), HSl.out, hoS.later _, hoO.later _, hbr.trans (below_of.mono hzr)⟩
        case measure => simp [intOf]; omega
      · have Hn := hide (show setAt (isStub n.peer n.number) (StubE.setLock t) S = S.set k' (x.setLock t) from setAt_hit hx hp hno)
        rw [hi] at HCall
        obtain ⟨g, rfl⟩ := hoS.isSome (by rintro rfl; simp at hx)
        have hkS : k' < S.length := (List.getElem?_eq_some_iff.1 hx).1
        have hkl : (k' : Int) < (stubs.length : Int) := by rw [← HSl.out]; omega
        have hk0 : decide ((0 : Int) ≤ (k' : Int)) = true := by simp
        have Hx := hide hx
        clear hno hi hp hx
        go_upto_region 6 with (go_at_call 14; refine (HCall _).mono ?_)
        rintro r w3 ⟨rfl, hb3⟩
        have l3 := later hb3
        have ho3 := hoS.later w3
        have e10 := ho3.cell StubE.enc Hx.out (j := 10) rfl
        have e11 := ho3.cell StubE.enc Hx.out (j := 11) rfl
        have z10 := ho3.free (k' * 12 + 10)
        have z11 := ho3.free (k' * 12 + 11)
        have hgb := ho3.base_le
        have hgo : (Value.slice bA scions.length bC).ownBlock ≠ some g := fun e => Nat.not_lt_of_le (World.ownsRow.lt hoO g e).1 (Hap.out g rfl)
        have hb3' : Below w0.heap.size w0 w3 := hbr.trans (below_of.mono hzr)
        go_upto_region 4 with fail
        refine wp_name ?_
        intro w9 hv9
        have hb9 : Below w0.heap.size w0 w9 := by
          rw [← hv9]
          exact (hb3'.setCell (by show w0.heap.size ≤ g; omega) _).setCell (by show w0.heap.size ≤ g; omega) _
        have hoS9 := (ho3.store StubE.enc (j := 10) (u := .int .i64 t.machine) (x' := { x with lockMachine := t.machine }) Hx.out (by omega) rfl).store StubE.enc (j := 11) (u := .int .i64 t.serial) (x' := x.setLock t) (List.getElem?_set_self hkS) (by omega) rfl
        have hoO9 := ((hoO.later w3).far (p := ⟨g, k' * 12 + 10, none⟩) hgo (.int .i64 t.machine)).far (p := ⟨g, k' * 12 + 11, none⟩) hgo (.int .i64 t.serial)
        rw [List.set_set] at hoS9
        have hoS8 := (show Own _ _ _ _ w9 _ _ from hv9 ▸ hoS9)
        have hoO8 := (show Own _ _ _ _ w9 _ _ from hv9 ▸ hoO9)
        clear hv9 hoS9 hoO9 e10 e11 z10 z11
        go_wp2_with fail
        go_roundw
        case rel => exact ⟨k + 1, S.set k' (x.setLock t), by omega, by go_num, hide (by rw [Ht.out, ← HS.out]; exact Hn.out.symm), by rw [List.length_set]; exact HSl.out, hoS8, hoO8, hb9⟩
        case measure => simp [intOf]; omega
    · have hk' : k = cst.length := by omega
      subst hk'
      have HSf := hide (show S = lockStubs t cst stubs by rw [HS.out, List.take_length])
      obtain ⟨v1, hv1⟩ : ∃ v1, v1 = Value.slice aA stubs.length aC := ⟨_, rfl⟩
      go_wp2_with fail
      obtain ⟨S1, hS1⟩ : ∃ S1, S1 = S := ⟨_, rfl⟩
      rw [← hS1] at hoS HSf
      have hoS1 := hoS
      have hoO1 := hoO
      have hbr1 := hbr
      clear hS1 HS hSl hoS hoO lr hv1 v1
      obtain ⟨w3, hw3⟩ : ∃ w3, w3 = wr := ⟨_, rfl⟩
      go_loopw [14, 15] (fun iv _ wr => ∃ (k : Nat) (S : List ScionE), k ≤ csc.length ∧ iv = .int .i64 k ∧ Hid (S = lockScions t (csc.take k) scions) ∧ S.length = scions.length ∧ Own ScionE.cells 12 45 w1.heap.size wr (.slice bA scions.length bC) S ∧
        Own StubE.cells 12 42 w0.heap.size wr (.slice aA stubs.length aC) S1 ∧ Below w0.heap.size w0 wr) (fun iv _ _ => csc.length - (intOf iv).toNat)
      case atStart => exact ⟨0, scions, by omega, rfl, hide rfl, rfl, hoO1, hoS1, hbr1⟩
      case round =>
        clear hoO1 hoS1 hbr1 hbr HN hw3
        obtain ⟨k, S, hk, rfl, HS, hSl, hoS, hoO, hbr⟩ := hrel
        have lr := later hbr
        by_cases hlt : k < csc.length
        · obtain ⟨b, off, n, rfl, hbk, he, hcl⟩ := (HCN wr).at_ hlt
          obtain ⟨f0, f1, f2⟩ := NeedE.facts hcl
          have F0 := Later.cell f0
          have F1 := Later.cell f1
          have F2 := Later.cell f2
          have Ht := hide (lockN_take (t := t) (l := scions) he)
          have hzr := hbr.size
          have hsr := (hoS.at_ ScionE.enc).2.2
          have HCall : ∀ u [Later wr u], Calls Try.prog 15 #[.slice bA scions.length bC, .agg #[.int .i64 n.peer, .int .u64 n.number, .int .i64 n.stamp]] u fun r w' => r = .returned (.int .i64 (idxOf (isScion n.peer n.number) S)) ∧ Below u.heap.size u w' := fun u i => by
            rw [← hSl]
            exact scion_any bA bC S n u (hsr.below i.below) (by omega)
          have HSl := hide hSl
          clear hcl he f0 f1 f2 hsr hSl
          rcases idxOf_cases (isScion n.peer n.number) S with ⟨hi, hno⟩ | ⟨k', x, hi, hx, hp, hno⟩
          · have Hn := hide (show S = setAt (isScion n.peer n.number) (ScionE.setLock t) S from (setAt_miss hno).symm)
            rw [hi] at HCall
            clear hno hi
            go_wp2_with (go_at_call 15; refine (HCall _).mono ?_)
            rintro r w3 ⟨rfl, hb3⟩
            have l3 := later hb3
            go_wp2_with fail
            go_roundw
            case rel => exact ⟨k + 1, S, by omega, by go_num, hide (by rw [Ht.out, ← HS.out]; exact Hn.out), HSl.out, hoS.later _, hoO.later _, hbr.trans (below_of.mono hzr)⟩
            case measure => simp [intOf]; omega
          · have Hn := hide (show setAt (isScion n.peer n.number) (ScionE.setLock t) S = S.set k' (x.setLock t) from setAt_hit hx hp hno)
            rw [hi] at HCall
            obtain ⟨g, rfl⟩ := hoS.isSome (by rintro rfl; simp at hx)
            have hkS : k' < S.length := (List.getElem?_eq_some_iff.1 hx).1
            have hkl : (k' : Int) < (scions.length : Int) := by rw [← HSl.out]; omega
            have hk0 : decide ((0 : Int) ≤ (k' : Int)) = true := by simp
            have Hx := hide hx
            clear hno hi hp hx
            go_upto_region 12 with (go_at_call 15; refine (HCall _).mono ?_)
            rintro r w3 ⟨rfl, hb3⟩
            have l3 := later hb3
            have ho3 := hoS.later w3
            have e10 := ho3.cell ScionE.enc Hx.out (j := 10) rfl
            have e11 := ho3.cell ScionE.enc Hx.out (j := 11) rfl
            have z10 := ho3.free (k' * 12 + 10)
            have z11 := ho3.free (k' * 12 + 11)
            have hgb := ho3.base_le
            have hgo : (Value.slice aA stubs.length aC).ownBlock ≠ some g := fun e => Nat.not_lt_of_le hgb (Hap.out g e)
            have hb3' : Below w0.heap.size w0 w3 := hbr.trans (below_of.mono hzr)
            go_upto_region 10 with fail
            refine wp_name ?_
            intro w9 hv9
            have hb9 : Below w0.heap.size w0 w9 := by
              rw [← hv9]
              exact (hb3'.setCell (by show w0.heap.size ≤ g; omega) _).setCell (by show w0.heap.size ≤ g; omega) _
            have hoS9 := (ho3.store ScionE.enc (j := 10) (u := .int .i64 t.machine) (x' := { x with lockMachine := t.machine }) Hx.out (by omega) rfl).store ScionE.enc (j := 11) (u := .int .i64 t.serial) (x' := x.setLock t) (List.getElem?_set_self hkS) (by omega) rfl
            have hoO9 := ((hoO.later w3).far (p := ⟨g, k' * 12 + 10, none⟩) hgo (.int .i64 t.machine)).far (p := ⟨g, k' * 12 + 11, none⟩) hgo (.int .i64 t.serial)
            rw [List.set_set] at hoS9
            have hoS8 := (show Own _ _ _ _ w9 _ _ from hv9 ▸ hoS9)
            have hoO8 := (show Own _ _ _ _ w9 _ _ from hv9 ▸ hoO9)
            clear hv9 hoS9 hoO9 e10 e11 z10 z11
            go_wp2_with fail
            go_roundw
            case rel => exact ⟨k + 1, S.set k' (x.setLock t), by omega, by go_num, hide (by rw [Ht.out, ← HS.out]; exact Hn.out.symm), by rw [List.length_set]; exact HSl.out, hoS8, hoO8, hb9⟩
            case measure => simp [intOf]; omega
        · have hk' : k = csc.length := by omega
          subst hk'
          have HSg := hide (show S = lockScions t csc scions by rw [HS.out, List.take_length])
          go_wp2_with fail
          go_ret2
          exact ⟨_, _, rfl, by rw [← HSf.out]; exact hoO.mono hz0, by rw [← HSg.out]; exact hoS.mono (by omega), (show Below w.heap.size w w0 from below_of).trans (hbr.mono hz0)⟩
theorem refLock_any (c : ClaimV) (t : TraceE) (sA : Option Addr) (sC : Nat) (stubs : List StubE) (nA : Option Addr) (nC : Nat) (scions : List ScionE) (w : World)
    (hc : c.at_ w) (hs : SlAt StubE.cells 12 w sA stubs) (hn : SlAt ScionE.cells 12 w nA scions) (hsl : stubs.length ≤ 100000000) (hnl : scions.length ≤ 100000000) :
    Calls Try.prog 22 #[c.v, t.v, .slice sA stubs.length sC, .slice nA scions.length nC] w
      fun r w' => ∃ v1 v2, r = .returned (.tuple #[v1, v2]) ∧ Own StubE.cells 12 42 w.heap.size w' v1 (lockStubs t c.stubs stubs) ∧ Own ScionE.cells 12 45 w.heap.size w' v2 (lockScions t c.scions scions) ∧ Below w.heap.size w w' :=
  refLock_any' c.machine c.epoch c.sA c.sC c.stubs c.nA c.nC c.scions c.kA c.checks.length c.kC t sA sC stubs nA nC scions w hc.s hc.n hc.sl hc.nl hs hn hsl hnl
end Go.Proofs.Ytnjpmpelgigmjaa
