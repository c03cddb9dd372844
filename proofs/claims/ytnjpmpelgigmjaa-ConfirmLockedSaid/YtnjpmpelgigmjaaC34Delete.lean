/-
  Contracts of the functions of this seat that each theorem names: what a call returns, and that it writes nothing that was there before. The conditions stand in each theorem.
-/
import Derived.Test.YtnjpmpelgigmjaaC34Locked1
import Derived.Test.YtnjpmpelgigmjaaPlainLib
namespace Go.Proofs.Ytnjpmpelgigmjaa
open Go.RowKit
attribute [local go_sem ↓] run_eql_trace run_neq_trace
theorem traceT : ElemT Try.prog 57 26 2 16 := ElemT.mk' (z := .agg #[.int .i64 0, .int .i64 0]) Try.underlying57 (by kernel_rfl) rfl
theorem zeroTrace (w : World) : (zeroValue 26).run Try.prog w = .ok (.agg #[.int .i64 0, .int .i64 0]) w := by kernel_rfl
set_option maxRecDepth 100000 in
set_option maxHeartbeats 2000000 in
theorem delZero_any (A : Option Addr) (c : Nat) (l : List TraceE) (base : Nat) (w : World) (hown : Own TraceE.cells 2 26 base w (.slice A l.length c) l) (hl : l.length ≤ 1000000000) (hb : base ≤ w.heap.size) :
    Calls Try.prog 44 #[.slice A l.length c, .func (.func 46) #[] #[]] w fun r w' => ∃ q, Hid (q = l.filter fun t => !zeroT t) ∧ r = .returned (.slice A q.length c) ∧ Own TraceE.cells 2 26 base w' (.slice A q.length c) q ∧ Below base w w' := by
  have hs := (hown.at_ TraceE.enc).2.2
  rcases idxOf_cases zeroT l with ⟨hi, hno⟩ | ⟨i, x, hi, hx, hp, hno⟩
  · have hf := hide (show l = l.filter fun t => !zeroT t from (List.filter_eq_self.2 fun t ht => by
      obtain ⟨j, hj⟩ := List.getElem?_of_mem ht
      simp [hno j t (List.getElem?_eq_some_iff.1 hj).1 hj]).symm)
    have HI : ∀ u [Later w u], Calls Try.prog 64 #[.slice A l.length c, .func (.func 46) #[] #[]] u fun r w' => r = .returned (.int .i64 (-1)) ∧ Below u.heap.size u w' := fun u i => by have := idxZero_any A c l u (hs.below i.below) (by omega); rw [hi] at this; exact this
    clear hi hno
    go_enter Try.func44, Try.ntmps44
    go_wp2_with (go_at_call 64; refine (HI _).mono ?_)
    rintro r w1 ⟨rfl, hb1⟩
    go_wp2_with fail
    go_ret
    exact ⟨l, hf, rfl, hown.below hb1, hb1.mono hb⟩
  · have hil : i < l.length := (List.getElem?_eq_some_iff.1 hx).1
    obtain ⟨g, rfl⟩ := hown.isSome (by rintro rfl; simp at hil)
    have HI : ∀ u [Later w u], Calls Try.prog 64 #[.slice (some ⟨g, 0, none⟩) l.length c, .func (.func 46) #[] #[]] u fun r w' => r = .returned (.int .i64 (i : Int)) ∧ Below u.heap.size u w' := fun u i => by have := idxZero_any (some ⟨g, 0, none⟩) c l u (hs.below i.below) (by omega); rw [hi] at this; exact this
    have hcap := (hown.at_ TraceE.enc).2.1
    have hi1 : ((i : Int) == -1) = false := by simp
    clear hi
    go_enter Try.func44, Try.ntmps44
    go_wp2_with (go_at_call 64; refine (HI _).mono ?_)
    rintro r w1 ⟨rfl, hb1⟩
    go_wp2_with fail
    have hown1 := hown.below hb1
    have hz1 := hb1.size
    go_loopw [5, 6, 7] (fun iv jv _ wr => ∃ (a j : Nat) (cur : List TraceE), a < j ∧ j ≤ l.length ∧ iv = .int .i64 a ∧ jv = .int .i64 j ∧ cur.length = l.length ∧ cur.take a = (l.take j).filter (fun t => !zeroT t) ∧ cur.drop j = l.drop j ∧
      Own TraceE.cells 2 26 base wr (.slice (some ⟨g, 0, none⟩) l.length c) cur ∧ Below base w wr) (fun _ jv _ _ => l.length - (intOf jv).toNat)
    case atStart =>
      refine ⟨i, i + 1, l, by omega, by omega, rfl, by go_num, rfl, ?_, rfl, hown1, hb1.mono hb⟩
      rw [take_snoc_get hx, List.filter_append]
      have h1 : (l.take i).filter (fun t => !zeroT t) = l.take i := List.filter_eq_self.2 fun t ht => by
        obtain ⟨j, hj⟩ := List.getElem?_of_mem ht
        rw [List.getElem?_take] at hj
        split at hj
        · rename_i hji; simp [hno j t hji hj]
        · cases hj
      simp [h1, hp]
    case round =>
      obtain ⟨a, j, cur, haj, hjl, rfl, rfl, hcl, htk, hdr, ho, hbr⟩ := hrel
      have Htk := hide htk
      have Hdr := hide hdr
      have Hcl := hide hcl
      clear htk hdr
      have hsr := (ho.at_ TraceE.enc).2.2
      have hzr := hbr.size
      by_cases hlt : j < l.length
      · obtain ⟨y, hy⟩ : ∃ y, l[j]? = some y := ⟨_, List.getElem?_eq_getElem hlt⟩
        have hyc : cur[j]? = some y := by
          have h1 : (cur.drop j)[0]? = (l.drop j)[0]? := by rw [Hdr.out]
          simpa [hy] using h1
        obtain ⟨g', o', e1, C1, C2⟩ := trace_at hsr hyc
        injection e1 with e1
        injection e1 with e1 e2
        subst e1 e2
        simp only [Nat.zero_add] at C1 C2
        have Hy := hide hy
        clear hy
        have HCy : ∀ u, Calls Try.prog 46 #[.agg #[.int .i64 y.machine, .int .i64 y.serial]] u fun r w' => r = .returned (.bool (zeroT y)) ∧ Below u.heap.size u w' := fun u => zero1_any y u
        cases hp2 : zeroT y <;> simp only [hp2] at HCy
        · obtain ⟨z, hz⟩ : ∃ z, cur[a]? = some z := ⟨_, List.getElem?_eq_getElem (by rw [Hcl.out]; omega)⟩
          have Hz := hide hz
          have hal : a < cur.length := by rw [Hcl.out]; omega
          clear hz
          go_upto_region 8 with fail
          refine wp_name ?_
          intro w2 hw2
          obtain ⟨B2, l2⟩ := box1 hw2
          have hbk2 := boxed_lt B2
          clear hw2
          go_upto_region 9 with (go_at_call 46; refine (HCy _).mono ?_)
          intro r w3 h3
          (first | (have hb3 := h3.2; have he3 := h3.1; clear h3; subst he3) | (intro hb3; subst h3))
          have l3 := later hb3
          have hz3 := hb3.size
          have ho3 := ho.later w3
          have e0 := ho3.cell TraceE.enc Hz.out (j := 0) rfl
          have e1 := ho3.cell TraceE.enc Hz.out (j := 1) rfl
          have z0 := ho3.free (a * 2)
          have z1 := ho3.free (a * 2 + 1)
          have hgb := ho3.base_le
          have hgl := ho.lt
          simp only [Nat.add_zero] at e0
          go_upto_region 10 with fail
          refine wp_name ?_
          intro w9 hv9
          have hb9 : Below base w w9 := by
            rw [← hv9]
            exact ((hbr.trans (((below_of (b := wr) (w := w3))).mono (Nat.le_trans hb hzr))).setCell (by simp; omega) _).setCell (by simp; omega) _
          have ho9 := (ho3.store TraceE.enc (j := 0) (u := .int .i64 y.machine) (x' := { z with machine := y.machine }) Hz.out (by omega) rfl).store TraceE.enc (j := 1) (u := .int .i64 y.serial) (x' := y) (List.getElem?_set_self hal) (by omega) rfl
          rw [List.set_set] at ho9
          simp only [Nat.add_zero] at ho9
          rw [hv9] at ho9
          have l9 : Later w9 w9 := Later.refl
          clear hv9 e0 e1 z0 z1 B2 C1 C2
          go_wp2_with fail
          go_roundw
          case rel =>
            refine ⟨a + 1, j + 1, cur.set a y, by omega, by omega, by go_num, by go_num, by rw [List.length_set]; exact Hcl.out, ?_, ?_, ho9, hb9⟩
            · rw [take_snoc_get Hy.out, List.filter_append, ← Htk.out, take_snoc_get (x := y) (List.getElem?_set_self hal), List.take_set_of_le (Nat.le_refl _)]
              simp [hp2]
            · rw [List.drop_set_of_lt (by omega), ← List.drop_drop, ← List.drop_drop, Hdr.out]
          case measure => simp [intOf]; omega
        · go_wp2_with (go_at_call 46; refine (HCy _).mono ?_)
          intro r w3 h3
          (first | (have hb3 := h3.2; have he3 := h3.1; clear h3; subst he3) | (intro hb3; subst h3))
          have hb3' : Below wr.heap.size wr w3 := ((Below.refl _ _).alloc (Nat.le_refl _) _).trans (hb3.mono (by simp))
          go_wp2_with fail
          go_roundw
          case rel =>
            refine ⟨a, j + 1, cur, by omega, by omega, rfl, by go_num, Hcl.out, ?_, ?_, ho.below hb3', hbr.trans (hb3'.mono (Nat.le_trans hb hzr))⟩
            · rw [Htk.out, take_snoc_get Hy.out, List.filter_append]; simp [hp2]
            · rw [← List.drop_drop, ← List.drop_drop, Hdr.out]
          case measure => simp [intOf]; omega
      · have hj : j = l.length := by omega
        subst hj
        obtain ⟨q, hq⟩ : ∃ q, q = l.filter fun t => !zeroT t := ⟨_, rfl⟩
        have hqa : cur.take a = q := by rw [hq, Htk.out, List.take_length]
        have hqn : q.length = a := by rw [← hqa, List.length_take, Hcl.out]; omega
        have hac : (if c = a then (⟨g, 0, none⟩ : Addr) else ⟨g, a * 2, none⟩) = ⟨g, a * 2, none⟩ := if_neg (by omega)
        have HQ := hide hq
        have HQA := hide hqa
        have HQN := hide hqn
        clear hq hqa hqn
        have h0a : (0 : Int) ≤ (a : Int) := by omega
        have hacc : (a : Int) ≤ (c : Int) := by omega
        have hal : (a : Int) ≤ (l.length : Int) := by omega
        have hca : ¬ c = a := by omega
        obtain ⟨w9, hrun, ho9, hg9, hb9⟩ := run_clear_own (P := Try.prog) (ty := 0) (d := c - a) (m := l.length - a) (k := a) TraceE.enc traceT (.agg #[.int .i64 0, .int .i64 0]) zeroTrace (by decide) rfl ho (by rw [Hcl.out]; omega) (Nat.le_trans hb hzr)
        go_wp2_with fail
        go_ret
        exact ⟨q, HQ, by rw [HQN.out]; rfl, by rw [HQN.out, ← HQA.out]; exact ho9, hbr.trans hb9⟩
end Go.Proofs.Ytnjpmpelgigmjaa
