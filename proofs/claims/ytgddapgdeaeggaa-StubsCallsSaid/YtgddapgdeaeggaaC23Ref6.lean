/-
  Contracts of the functions of this seat that each theorem names: what a call returns, and that it writes nothing that was there before. The conditions stand in each theorem.
-/
import Derived.Test.YtgddapgdeaeggaaC23Ref5
namespace Go.Proofs.Ytgddapgdeaeggaa
open Go.RowKit
set_option maxRecDepth 100000 in
set_option maxHeartbeats 8000000 in
theorem refTouch_any (A : Option Addr) (C : Nat) (xs : List StubE) (k : KeyE) (w : World) (hs : SlAt StubE.cells 12 w A xs) (hl : xs.length ≤ 1000000) (hc : xs.length ≤ C) (hm : C ≤ maxLen) : Calls Try.prog 38 #[.slice A xs.length C, .int .i64 k.owner, .int .u64 k.number] w (ModPost w (chR touchE xs k) (chErrR xs k)) := by
  have HS : ∀ u [Later w u], SlAt StubE.cells 12 u A xs := fun u i => hs.below i.below
  obtain ⟨ia, hia⟩ : ∃ b, b = atR xs k := ⟨_, rfl⟩
  have HA : ∀ u [Later w u], Calls Try.prog 64 #[.slice A xs.length C, .int .i64 k.owner, .int .u64 k.number] u fun r w' => r = .returned (.int .i64 ia) ∧ Below u.heap.size u w' := fun u i => by rw [hia]; exact refAt_any A C xs k.owner k.number u (HS u) hl
  have hE := hide (show chErrR xs k = if ia < 0 then 6 else 0 by rw [hia]; rfl)
  have hia' := hide hia
  clear hia
  go_enter Try.func38, Try.ntmps38
  by_cases h1 : ia < 0
  · have He := hide (show chErrR xs k = 6 by rw [hE.out]; simp [h1])
    have Hs := hide (show chR touchE xs k = xs by unfold chR; rw [He.out]; rfl)
    go_wp2_with (first | (go_at_call 64; refine (HA _).mono ?_; rintro r w2 ⟨rfl, hb2⟩; have l2 := later hb2))
    refine bodyPost_ret (v := .tuple #[.slice A xs.length C, .int .i64 6]) (by simp [results, Try.results38, go_sem]) rfl ?_
    exact ⟨xs, A, C, hide Hs.out.symm, by rw [He.out], hc, hm, HS _, below_of⟩
  obtain ⟨j, x, hj, hx, -⟩ := at_lt (p := keyP k.owner k.number) (xs := xs) (by have := hia'.out; unfold atR at this; omega)
  have hjl : j < xs.length := (List.getElem?_eq_some_iff.1 hx).1
  obtain rfl : ia = (j : Int) := hia'.out.trans hj
  have Hx := hide hx
  clear hx hj
  have He := hide (show chErrR xs k = 0 by rw [hE.out]; simp)
  have Hs := hide (show insR (touchE x) (remI xs j) = chR touchE xs k by unfold chR; rw [He.out, ← hia'.out, Int.toNat_natCast, Hx.out]; rfl)
  go_upto_region 4 with (first | (go_at_call 64; refine (HA _).mono ?_; rintro r w2 ⟨rfl, hb2⟩; have l2 := later hb2))
  obtain ⟨g1, o1, x1, rfl, hx1, C1⟩ := StubE.get (HS w2) hjl
  obtain rfl : x1 = x := by have h := Hx.out; rw [hx1] at h; injection h
  clear hx1
  go_upto_region 5 with fail
  refine wp_name ?_
  intro w3 hw3
  obtain ⟨B3, l3⟩ := box1 hw3
  clear hw3
  go_upto_region 6 with fail
  refine wp_name ?_
  intro w4 hw4
  have B4 := boxed_set B3 hw4
  have l4 := later_put (W := w) (by simp only; exact (show Below w.heap.size w w2 from below_of).size) hw4
  have B5 : Boxed w4 w2.heap.size (touchE x1).arr 37 := B4
  have l44 : Later w4 w4 := Later.refl
  clear hw4 B4 B3
  go_region_held3 (fun w' => ∀ b [Later b w4], Later b w') ((intro b _; infer_instance))
    ((first
      | (go_at_call 67; refine (refWithout_any (some ⟨g1, o1, none⟩) C xs j _ (HS _) hl hc hm hjl).mono ?_; rintro r w7 ⟨q1, A1, c1, hq1, rfl, hc1, hm1, hs1, hb7⟩; have l7 := later hb7; have hq1l : q1.length ≤ 1000000 := by rw [hq1.out, remI_len hjl]; omega)
      | (go_at_call 66; refine (refInsert_any A1 c1 q1 (touchE x1) _ (hs1.later _) hq1l).mono ?_; rintro r w8 ⟨q2, A2, c2, hq2, rfl, hc2, hm2, hs2, hb8⟩; have l8 := later hb8)))
  all_goals go_wp2_with fail
  all_goals refine bodyPost_ret (v := .tuple #[.slice A2 q2.length c2, .int .i64 0]) (by simp [results, Try.results38, go_sem]) rfl ?_
  all_goals exact ⟨q2, A2, c2, hide (by rw [hq2.out, hq1.out]; exact Hs.out), by rw [He.out], hc2, hm2, hs2.later _, below_of⟩
set_option maxRecDepth 100000 in
set_option maxHeartbeats 8000000 in
theorem refUse_any (A : Option Addr) (C : Nat) (xs : List StubE) (k : KeyE) (n : Int) (w : World) (hs : SlAt StubE.cells 12 w A xs) (hl : xs.length ≤ 1000000) (hc : xs.length ≤ C) (hm : C ≤ maxLen) : Calls Try.prog 37 #[.slice A xs.length C, .int .i64 k.owner, .int .u64 k.number, .int .i64 n] w (ModPost w (useR n xs k) (useErrR n xs k)) := by
  have HS : ∀ u [Later w u], SlAt StubE.cells 12 u A xs := fun u i => hs.below i.below
  obtain ⟨ia, hia⟩ : ∃ b, b = atR xs k := ⟨_, rfl⟩
  have HA : ∀ u [Later w u], Calls Try.prog 64 #[.slice A xs.length C, .int .i64 k.owner, .int .u64 k.number] u fun r w' => r = .returned (.int .i64 ia) ∧ Below u.heap.size u w' := fun u i => by rw [hia]; exact refAt_any A C xs k.owner k.number u (HS u) hl
  have hE := hide (show chErrR xs k = if ia < 0 then 6 else 0 by rw [hia]; rfl)
  have hia' := hide hia
  clear hia
  go_enter Try.func37, Try.ntmps37
  by_cases h0 : n < 0
  · have He := hide (show useErrR n xs k = 1 by unfold useErrR; simp [h0])
    have Hs := hide (show useR n xs k = xs by unfold useR; simp [h0])
    go_wp2_with fail
    refine bodyPost_ret (v := .tuple #[.slice A xs.length C, .int .i64 1]) (by simp [results, Try.results37, go_sem]) rfl ?_
    exact ⟨xs, A, C, hide Hs.out.symm, by rw [He.out], hc, hm, HS _, below_of⟩
  by_cases h1 : ia < 0
  · have He := hide (show useErrR n xs k = 6 by unfold useErrR; rw [if_neg h0, hE.out]; simp [h1])
    have Hs := hide (show useR n xs k = xs by unfold useR chR; rw [if_neg h0, hE.out]; simp [h1])
    go_wp2_with (first | (go_at_call 64; refine (HA _).mono ?_; rintro r w2 ⟨rfl, hb2⟩; have l2 := later hb2))
    refine bodyPost_ret (v := .tuple #[.slice A xs.length C, .int .i64 6]) (by simp [results, Try.results37, go_sem]) rfl ?_
    exact ⟨xs, A, C, hide Hs.out.symm, by rw [He.out], hc, hm, HS _, below_of⟩
  obtain ⟨j, x, hj, hx, -⟩ := at_lt (p := keyP k.owner k.number) (xs := xs) (by have := hia'.out; unfold atR at this; omega)
  have hjl : j < xs.length := (List.getElem?_eq_some_iff.1 hx).1
  obtain rfl : ia = (j : Int) := hia'.out.trans hj
  have Hx := hide hx
  clear hx hj
  have He := hide (show useErrR n xs k = 0 by unfold useErrR; rw [if_neg h0, hE.out]; simp)
  have Hs := hide (show insR (useE n x) (remI xs j) = useR n xs k by unfold useR chR; rw [if_neg h0, hE.out, if_neg (by omega : ¬ ((j : Int) < 0)), ← hia'.out, Int.toNat_natCast, Hx.out]; rfl)
  go_upto_region 6 with (first | (go_at_call 64; refine (HA _).mono ?_; rintro r w2 ⟨rfl, hb2⟩; have l2 := later hb2))
  obtain ⟨g1, o1, x1, rfl, hx1, C1⟩ := StubE.get (HS w2) hjl
  obtain rfl : x1 = x := by have h := Hx.out; rw [hx1] at h; injection h
  clear hx1
  go_upto_region 7 with fail
  refine wp_name ?_
  intro w3 hw3
  obtain ⟨B3, l3⟩ := box1 hw3
  clear hw3
  go_upto_region 9 with fail
  refine wp_name ?_
  intro w4 hw4
  have B4 := boxed_set2 B3 hw4
  have hzz := (show Below w.heap.size w w2 from below_of).size
  have l4 := later_put2 (W := w) (by simp only; exact hzz) (by simp only; exact hzz) hw4
  have B5 : Boxed w4 w2.heap.size (useE n x1).arr 37 := B4
  have l44 : Later w4 w4 := Later.refl
  clear hw4 B4 B3
  go_region_held3 (fun w' => ∀ b [Later b w4], Later b w') ((intro b _; infer_instance))
    ((first
      | (go_at_call 67; refine (refWithout_any (some ⟨g1, o1, none⟩) C xs j _ (HS _) hl hc hm hjl).mono ?_; rintro r w7 ⟨q1, A1, c1, hq1, rfl, hc1, hm1, hs1, hb7⟩; have l7 := later hb7; have hq1l : q1.length ≤ 1000000 := by rw [hq1.out, remI_len hjl]; omega)
      | (go_at_call 66; refine (refInsert_any A1 c1 q1 (useE n x1) _ (hs1.later _) hq1l).mono ?_; rintro r w8 ⟨q2, A2, c2, hq2, rfl, hc2, hm2, hs2, hb8⟩; have l8 := later hb8)))
  all_goals go_wp2_with fail
  all_goals refine bodyPost_ret (v := .tuple #[.slice A2 q2.length c2, .int .i64 0]) (by simp [results, Try.results37, go_sem]) rfl ?_
  all_goals exact ⟨q2, A2, c2, hide (by rw [hq2.out, hq1.out]; exact Hs.out), by rw [He.out], hc2, hm2, hs2.later _, below_of⟩
set_option maxRecDepth 100000 in
set_option maxHeartbeats 8000000 in
theorem refRemove_any (A : Option Addr) (C : Nat) (xs : List StubE) (k : KeyE) (w : World) (hs : SlAt StubE.cells 12 w A xs) (hl : xs.length ≤ 1000000) (hc : xs.length ≤ C) (hm : C ≤ maxLen) : Calls Try.prog 39 #[.slice A xs.length C, .int .i64 k.owner, .int .u64 k.number] w (ModPost w (rmvR xs k) (chErrR xs k)) := by
  have HS : ∀ u [Later w u], SlAt StubE.cells 12 u A xs := fun u i => hs.below i.below
  obtain ⟨ia, hia⟩ : ∃ b, b = atR xs k := ⟨_, rfl⟩
  have HA : ∀ u [Later w u], Calls Try.prog 64 #[.slice A xs.length C, .int .i64 k.owner, .int .u64 k.number] u fun r w' => r = .returned (.int .i64 ia) ∧ Below u.heap.size u w' := fun u i => by rw [hia]; exact refAt_any A C xs k.owner k.number u (HS u) hl
  have hE := hide (show chErrR xs k = if ia < 0 then 6 else 0 by rw [hia]; rfl)
  have hia' := hide hia
  clear hia
  go_enter Try.func39, Try.ntmps39
  by_cases h1 : ia < 0
  · have He := hide (show chErrR xs k = 6 by rw [hE.out]; simp [h1])
    have Hs := hide (show rmvR xs k = xs by unfold rmvR; rw [He.out]; rfl)
    go_wp2_with (first | (go_at_call 64; refine (HA _).mono ?_; rintro r w2 ⟨rfl, hb2⟩; have l2 := later hb2))
    refine bodyPost_ret (v := .tuple #[.slice A xs.length C, .int .i64 6]) (by simp [results, Try.results39, go_sem]) rfl ?_
    exact ⟨xs, A, C, hide Hs.out.symm, by rw [He.out], hc, hm, HS _, below_of⟩
  obtain ⟨j, x, hj, hx, -⟩ := at_lt (p := keyP k.owner k.number) (xs := xs) (by have := hia'.out; unfold atR at this; omega)
  have hjl : j < xs.length := (List.getElem?_eq_some_iff.1 hx).1
  obtain rfl : ia = (j : Int) := hia'.out.trans hj
  have Hx := hide hx
  clear hx hj
  have He := hide (show chErrR xs k = 0 by rw [hE.out]; simp)
  have Hs := hide (show remI xs j = rmvR xs k by unfold rmvR; rw [He.out, ← hia'.out]; rfl)
  go_wp2_with (first | (go_at_call 64; refine (HA _).mono ?_; rintro r w2 ⟨rfl, hb2⟩; have l2 := later hb2) | (go_at_call 67; refine (refWithout_any A C xs j _ (HS _) hl hc hm hjl).mono ?_; rintro r w7 ⟨q1, A1, c1, hq1, rfl, hc1, hm1, hs1, hb7⟩; have l7 := later hb7))
  refine bodyPost_ret (v := .tuple #[.slice A1 q1.length c1, .int .i64 0]) (by simp [results, Try.results39, go_sem]) rfl ?_
  exact ⟨q1, A1, c1, hide (hq1.out.trans Hs.out), by rw [He.out], hc1, hm1, hs1.later _, below_of⟩
set_option maxRecDepth 100000 in
set_option maxHeartbeats 4000000 in
theorem refClear_any (A : Option Addr) (C : Nat) (xs : List StubE) (w : World) (hs : SlAt StubE.cells 12 w A xs) (hl : xs.length ≤ 1000000) : Calls Try.prog 40 #[.slice A xs.length C] w (TabPost w (xs.map clearE)) := by
  have HS : ∀ u [Later w u], SlAt StubE.cells 12 u A xs := fun u i => hs.below i.below
  have hl' : xs.length ≤ 9223372036854775807 := by omega
  go_enter Try.func40, Try.ntmps40
  go_wp2_with fail
  go_loopw [3, 4] (fun ov iv wr => ∃ (k : Nat) (q : List StubE) (B : Option Addr) (D : Nat), k ≤ xs.length ∧ iv = .int .i64 k ∧ Hid (q = (xs.take k).map clearE) ∧ ov = .slice B q.length D ∧ Own StubE.cells 12 37 w.heap.size wr (.slice B q.length D) q ∧ Below w.heap.size w wr) (fun _ iv _ => xs.length - (intOf iv).toNat)
  case atStart => exact ⟨0, [], some ⟨w.heap.size, 0, none⟩, 0, by omega, rfl, hide rfl, rfl, Own.empty (Nat.le_refl _), below_of⟩
  case round =>
    obtain ⟨k, q, B, D, hk, rfl, hq, rfl, ho, hbr⟩ := hrel
    have lr := later hbr
    have hql : q.length ≤ 1000000 := by rw [hq.out]; simp; omega
    by_cases hlt : k < xs.length
    · obtain ⟨b1, o1, y, rfl, hy, C1⟩ := StubE.get (HS wr) hlt
      have hqk := hide (show q ++ [clearE y] = (xs.take (k + 1)).map clearE by rw [take_snoc_get hy, List.map_append, ← hq.out]; rfl)
      have hqk2 := hide (show q.length + 1 = (q ++ [clearE y]).length by simp)
      have hsz := hbr.size
      clear hy
      go_upto_region 6 with fail
      refine wp_name ?_
      intro w3 hw3
      obtain ⟨B3, l3⟩ := box1 hw3
      have ho3 := ho.later w3
      have hz3 : w.heap.size ≤ w3.heap.size := (show Below w.heap.size w w3 from below_of).size
      clear hw3
      go_upto_region 7 with fail
      refine wp_name ?_
      intro w4 hw4
      have B4 := boxed_set B3 hw4
      have l4 := later_put (W := w) (by simp only; exact hsz) hw4
      have B5 : Boxed w4 wr.heap.size (clearE y).arr 37 := B4
      have l44 : Later w4 w4 := Later.refl
      have ho4 : Own StubE.cells 12 37 w.heap.size w4 (.slice B q.length D) q := by
        rw [← hw4]
        refine ho3.far (p := ⟨wr.heap.size, 7, none⟩) ?_ _
        intro e
        rcases ho.form with ⟨e1, _⟩ | ⟨gb, cb, e1, _, e2, _⟩
        · rw [e1] at e; cases e
        · rw [e1] at e; injection e with e; simp only at e; omega
      have hz4 : w.heap.size ≤ w4.heap.size := by have := (l4 w).below.size; exact this
      clear hw4 B4 B3
      go_wp2_with (at_builtin; refine wpList_app1 rfl (.tmp 18) (.tmp 20) rfl StubE.enc tabT (clearE y) rfl rfl rfl ho4 (by rfl) (by omega) (by unfold maxLen; omega) hz4 ?_; intro A' c' w5 ho5 hm hbq hgq hat)
      go_roundw
      case rel => exact ⟨k + 1, q ++ [clearE y], A', c', by omega, by go_num, hqk, by rw [← hqk2.out], by rw [← hqk2.out]; exact ho5, (show Below w.heap.size w w4 from below_of).trans hbq⟩
      case measure => simp [intOf]; omega
    · have hk' : k = xs.length := by omega
      subst hk'
      rw [List.take_length] at hq
      go_wp2_with fail
      go_ret
      exact ⟨q, B, D, hq, rfl, (ho.at_ StubE.enc).2.1, ho.cap_le, ((ho.later _).at_ StubE.enc).2.2, below_of⟩
end Go.Proofs.Ytgddapgdeaeggaa
