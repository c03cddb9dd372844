/-
  Contracts of the functions of this seat that each theorem names: what a call returns, and that it writes nothing that was there before. The conditions stand in each theorem.
-/
import Derived.Test.YtnjpmpelgigmjaaC34RefLocked
import Derived.Test.YtnjpmpelgigmjaaC34Compact
namespace Go.Proofs.Ytnjpmpelgigmjaa
open Go.RowKit
set_option maxRecDepth 100000 in
set_option maxHeartbeats 2000000 in
theorem progLocks_any (sA : Option Addr) (sC : Nat) (stubs : List StubE) (nA : Option Addr) (nC : Nat) (scions : List ScionE) (w : World) (hs : SlAt StubE.cells 12 w sA stubs) (hn : SlAt ScionE.cells 12 w nA scions) (hsl : stubs.length ≤ 100000000) (hnl : scions.length ≤ 100000000)
    (HSort : ∀ (A : Option Addr) (c : Nat) (l : List TraceE) (base : Nat) (u : World), Own TraceE.cells 2 26 base u (.slice A l.length c) l → l.length ≤ 1000000000000 → base ≤ u.heap.size →
      Calls Try.prog 40 #[.slice A l.length c, .func (.func 41) #[] #[]] u fun e w' => e = .returned (.tuple #[]) ∧ ∃ l', (l'.Perm l ∧ (cpt l').filter (fun t => !zeroT t) = lockedL l) ∧ Own TraceE.cells 2 26 base w' (.slice A l.length c) l' ∧ Below base u w') :
    Calls Try.prog 26 #[.slice sA stubs.length sC, .slice nA scions.length nC] w (LockedPost w (locksOf stubs scions)) := by
  have HS : ∀ u [Later w u], SlAt StubE.cells 12 u sA stubs := fun u i => hs.below i.below
  have HN : ∀ u [Later w u], SlAt ScionE.cells 12 u nA scions := fun u i => hn.below i.below
  have hsl' : stubs.length ≤ 9223372036854775807 := by omega
  have hnl' : scions.length ≤ 9223372036854775807 := by omega
  go_enter Try.func26, Try.ntmps26
  go_wp2_with fail
  go_loopw [5, 7, 12] (fun ov _ iv wr => ∃ (k : Nat) (q : List TraceE) (Aq : Option Addr) (cq : Nat), k ≤ stubs.length ∧ iv = .int .i64 k ∧ ov = .slice Aq q.length cq ∧ Hid (q = (stubs.map lockS).take k) ∧ Own TraceE.cells 2 26 w.heap.size wr (.slice Aq q.length cq) q ∧ Below w.heap.size w wr) (fun _ _ iv _ => stubs.length - (intOf iv).toNat)
  case atStart => exact ⟨0, [], none, 0, by omega, rfl, rfl, hide rfl, Own.nil, Below.refl _ _⟩
  case round =>
    obtain ⟨k, q, Aq, cq, hk, rfl, rfl, Hq, hoq, hbr⟩ := hrel
    have lr := later hbr
    have hql : q.length ≤ k := by
      rw [Hq.out]; simp only [List.length_take, List.length_map]; omega
    by_cases hlt : k < stubs.length
    · obtain ⟨b, off, x, rfl, hbk, hx, hcl⟩ := (HS wr).at_ hlt
      obtain ⟨f0, f1, f2, f3, f4, f5, f6, f7, f8, f9, f10, f11⟩ := StubE.facts hcl
      have Hx := hide hx
      have hzr := hbr.size
      clear hcl hx
      go_upto_region 5 with fail
      refine wp_name ?_
      intro wx hwx
      obtain ⟨BX, lx⟩ := box1 hwx
      clear hwx f0 f1 f2 f3 f4 f5 f6 f7 f8 f9 f10 f11
      have hox := hoq.later wx
      have hbx : Below w.heap.size w wx := below_of
      have hzx := hbx.size
      go_wp2_with (at_builtin; refine wpList_app1 rfl (.tmp 16) (.tmp 19) rfl TraceE.enc traceT (lockS x) rfl rfl rfl hox (by rfl) (by omega) (by unfold maxLen; omega) hzx ?_; intro A' c' w2 hq hm hbq hgq hat)
      go_roundw
      case rel => exact ⟨k + 1, q ++ [lockS x], A', c', by omega, by go_num, by simp, hide (by rw [Hq.out]; exact (take_snoc_get (by simp [Hx.out])).symm), by rw [List.length_append, List.length_singleton]; exact hq, hbx.trans hbq⟩
      case measure => simp [intOf]; omega
    · have hk' : k = stubs.length := by omega
      subst hk'
      have Hq0 := hide (show q = stubs.map lockS ++ (scions.map lockN).take 0 by rw [Hq.out, List.take_of_length_le (by simp)]; simp)
      clear Hq
      go_wp2_with fail
      go_loopw [5, 9, 24] (fun ov _ iv wr => ∃ (k : Nat) (q : List TraceE) (Aq : Option Addr) (cq : Nat), k ≤ scions.length ∧ iv = .int .i64 k ∧ ov = .slice Aq q.length cq ∧ Hid (q = stubs.map lockS ++ (scions.map lockN).take k) ∧ Own TraceE.cells 2 26 w.heap.size wr (.slice Aq q.length cq) q ∧ Below w.heap.size w wr) (fun _ _ iv _ => scions.length - (intOf iv).toNat)
      case atStart => exact ⟨0, q, Aq, cq, by omega, rfl, rfl, Hq0, hoq, hbr⟩
      case round =>
        clear lr
        clear hoq hbr Hq0 hql
        obtain ⟨k, q, Aq, cq, hk, rfl, rfl, Hq, hoq, hbr⟩ := hrel
        have lr := later hbr
        have hql : q.length ≤ stubs.length + k := by
          rw [Hq.out]; simp only [List.length_append, List.length_take, List.length_map]; omega
        by_cases hlt : k < scions.length
        · obtain ⟨b, off, x, rfl, hbk, hx, hcl⟩ := (HN wr).at_ hlt
          obtain ⟨f0, f1, f2, f3, f4, f5, f6, f7, f8, f9, f10, f11⟩ := ScionE.facts hcl
          have Hx := hide hx
          have hzr := hbr.size
          clear hcl hx
          go_upto_region 10 with fail
          refine wp_name ?_
          intro wx hwx
          obtain ⟨BX, lx⟩ := box1 hwx
          clear hwx f0 f1 f2 f3 f4 f5 f6 f7 f8 f9 f10 f11
          have hox := hoq.later wx
          have hbx : Below w.heap.size w wx := below_of
          have hzx := hbx.size
          go_wp2_with (at_builtin; refine wpList_app1 rfl (.tmp 28) (.tmp 31) rfl TraceE.enc traceT (lockN x) rfl rfl rfl hox (by rfl) (by omega) (by unfold maxLen; omega) hzx ?_; intro A' c' w2 hq hm hbq hgq hat)
          go_roundw
          case rel => exact ⟨k + 1, q ++ [lockN x], A', c', by omega, by go_num, by simp, hide (by rw [Hq.out, List.append_assoc]; congr 1; exact (take_snoc_get (by simp [Hx.out])).symm), by rw [List.length_append, List.length_singleton]; exact hq, hbx.trans hbq⟩
          case measure => simp [intOf]; omega
        · have hk' : k = scions.length := by omega
          subst hk'
          have Hq0 := hide (show q = locksOf stubs scions by rw [Hq.out]; unfold locksOf; rw [List.take_of_length_le (by simp)])
          have hzr := hbr.size
          clear Hq
          go_upto_region 13 with (go_at_call 40; refine (HSort Aq cq q w.heap.size wr hoq (by omega) hzr).mono ?_)
          rintro r w2 ⟨rfl, l', ⟨hp, hf⟩, ho2, hb2⟩
          have hlen := hp.length_eq
          have Hf := hide hf
          have hb3 := hbr.trans hb2
          have hz3 := hb3.size
          have HC : ∀ u, w2 = u → Calls Try.prog 45 #[.slice Aq q.length cq] u fun r w' => ∃ q', Hid (q' = cpt l') ∧ r = .returned (.slice Aq q'.length cq) ∧ Own TraceE.cells 2 26 w.heap.size w' (.slice Aq q'.length cq) q' ∧ Below w.heap.size u w' := by
            rintro u rfl
            rw [← hlen] at ho2 ⊢
            exact compact_any Aq cq l' w.heap.size _ ho2 (by omega) hz3
          have Hbl := hide (show l'.length ≤ 200000000 by omega)
          clear hf hlen hp
          go_wp2_with (go_at_call 45; refine (HC _ rfl).mono ?_)
          rintro r w4 ⟨q4, Hq4, rfl, ho4, hb4⟩
          have hb5 := hb3.trans hb4
          have hz5 := hb5.size
          have hq4l := hide (show q4.length ≤ l'.length by rw [Hq4.out]; exact cpt_le l')
          go_wp2_with (go_at_call 44; refine (delZero_any Aq cq q4 w.heap.size _ ho4 (by have := hq4l.out; have := Hbl.out; omega) hz5).mono ?_)
          rintro r w6 ⟨q6, Hq6, rfl, ho6, hb6⟩
          go_wp2_with fail
          go_ret
          exact ⟨q6, Aq, cq, hide (by rw [Hq6.out, Hq4.out, Hf.out, Hq0.out]), rfl, ho6, hb5.trans hb6⟩
end Go.Proofs.Ytnjpmpelgigmjaa
