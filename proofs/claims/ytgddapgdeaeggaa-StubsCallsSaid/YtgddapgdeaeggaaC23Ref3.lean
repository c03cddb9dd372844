/-
  Contracts of the functions of this seat that each theorem names: what a call returns, and that it writes nothing that was there before. The conditions stand in each theorem.
-/
import Derived.Test.YtgddapgdeaeggaaC23Ref2
namespace Go.Proofs.Ytgddapgdeaeggaa
open Go.RowKit
def TabPost (w : World) (s : List StubE) (r : Ending) (w' : World) : Prop := ∃ q A c, Hid (q = s) ∧ r = .returned (.slice A q.length c) ∧ q.length ≤ c ∧ c ≤ maxLen ∧ SlAt StubE.cells 12 w' A q ∧ Below w.heap.size w w'
theorem Own.cap_le {α : Type} {f : α → List Value} {s : Nat} {e : TypeId} {base : Nat} {w : World} {A : Option Addr} {n c : Nat} {l : List α} (h : Own f s e base w (.slice A n c) l) : c ≤ maxLen := by
  rcases h.form with ⟨h0, _⟩ | ⟨g, cap, hv, _, _, _, hm⟩
  · injection h0 with _ _ h; rw [h]; simp
  · injection hv with _ _ h; rw [h]; exact hm
set_option maxRecDepth 100000 in
set_option maxHeartbeats 4000000 in
theorem refInsert_any (A : Option Addr) (C : Nat) (xs : List StubE) (e : StubE) (w : World) (hs : SlAt StubE.cells 12 w A xs) (hl : xs.length ≤ 1000000) : Calls Try.prog 66 #[.slice A xs.length C, e.v] w (TabPost w (insR e xs)) := by
  have HS : ∀ u [Later w u], SlAt StubE.cells 12 u A xs := fun u i => hs.below i.below
  have hl' : xs.length ≤ 9223372036854775807 := by omega
  go_enter Try.func66, Try.ntmps66
  go_upto_region 1 with fail
  refine wp_name ?_
  intro w0 hw0
  obtain ⟨B0, l0⟩ := box1 hw0
  clear hw0
  go_wp2_with fail
  go_loopw [5, 6, 7] (fun ov dv iv wr => ∃ (k : Nat) (q : List StubE) (B : Option Addr) (D : Nat) (db : Bool), k ≤ xs.length ∧ iv = .int .i64 k ∧ dv = .bool db ∧ ov = .slice B q.length D ∧ Hid (db = (xs.take k).any (fun y => decide (ltS e y)) ∧ q = if db then insR e (xs.take k) else xs.take k) ∧ q.length ≤ k + 1 ∧ Own StubE.cells 12 37 w0.heap.size wr (.slice B q.length D) q ∧ Below w0.heap.size w0 wr) (fun _ _ iv _ => xs.length - (intOf iv).toNat)
  case atStart => exact ⟨0, [], some ⟨w0.heap.size, 0, none⟩, 0, false, by omega, rfl, rfl, rfl, hide ⟨rfl, rfl⟩, by simp, Own.empty (Nat.le_refl _), below_of⟩
  case round =>
    obtain ⟨k, q, B, D, db, hk, rfl, rfl, rfl, hR, hql, ho, hbr⟩ := hrel
    have lr := later hbr
    by_cases hlt : k < xs.length
    · obtain ⟨b1, o1, y, rfl, hy, C1⟩ := StubE.get (HS wr) hlt
      have Hy := hide hy
      clear hy
      obtain ⟨lt, hltd⟩ : ∃ b, b = decide (ltS e y) := ⟨_, rfl⟩
      have HL : ∀ u, Calls Try.prog 79 #[e.v, y.v] u fun r w' => r = .returned (.bool lt) ∧ Below u.heap.size u w' := fun u => by rw [hltd]; exact refLess_any e y u
      have Hlt := hide hltd
      clear hltd
      have hT := hide (take_snoc_get Hy.out)
      have hsz := hbr.size
      cases db
      · cases lt
        · have hq2 := hide (show false = (xs.take (k + 1)).any (fun y => decide (ltS e y)) ∧ q ++ [y] = xs.take (k + 1) by
            rw [hT.out, List.any_append, ← hR.out.1, hR.out.2]; simp [← Hlt.out])
          have hqL := hide (show q.length + 1 = (q ++ [y]).length by simp)
          go_upto_region 6 with fail
          (refine wp_region_after (by kernel_rfl) (by kernel_rfl) ?_
           repeat (any_goals (first | go_big_quiet_skip | (go_big_quiet_want; go_big_quiet_op; first | go_big_quiet_on | go_big_quiet_call ((go_at_call 79; exact Calls.after (HL _)))) | quiet_step ((go_at_call 79; exact Calls.after (HL _))) | (refine wpQuiet_step (fun K hK => ?_); go_simp; split <;> (refine hK _ ?_; clear hK K))))
           all_goals (refine wpQuiet_nil ?_; intro _ hw'; obtain ⟨u', hw''⟩ := hw'; subst hw''; obtain ⟨wd, hbd⟩ := u'; simp only [After.val_mk]))
          all_goals (try (exfalso; omega))
          have ld := later hbd
          go_upto_region 9 with fail
          have hz9 : w0.heap.size ≤ wd.heap.size := (show Below w0.heap.size w0 wd from below_of).size
          go_wp2_with (at_builtin; refine wpList_app1 rfl (.tmp 29) (.tmp 34) rfl StubE.enc tabT y rfl rfl rfl (ho.later _) (by rfl) (by omega) (by unfold maxLen; omega) hz9 ?_; intro A' c' w2 ho2 hm hbq hgq hat)
          go_roundw
          case rel => exact ⟨k + 1, q ++ [y], A', c', false, by omega, by go_num, rfl, by rw [← hqL.out], hide ⟨hq2.out.1, hq2.out.2⟩, by rw [← hqL.out]; omega, by rw [← hqL.out]; exact ho2, (show Below w0.heap.size w0 wd from below_of).trans hbq⟩
          case measure => simp [intOf]; omega
        · have hq2 := hide (show true = (xs.take (k + 1)).any (fun y => decide (ltS e y)) ∧ q ++ [e] ++ [y] = insR e (xs.take (k + 1)) by
            rw [hT.out, List.any_append, ← hR.out.1, insR_not hR.out.1.symm, hR.out.2]; simp [← Hlt.out, of_decide_eq_true Hlt.out.symm])
          have hqL := hide (show q.length + 1 = (q ++ [e]).length by simp)
          have hqM := hide (show (q ++ [e]).length + 1 = (q ++ [e] ++ [y]).length by simp)
          go_upto_region 6 with fail
          (refine wp_region_after (by kernel_rfl) (by kernel_rfl) ?_
           repeat (any_goals (first | go_big_quiet_skip | (go_big_quiet_want; go_big_quiet_op; first | go_big_quiet_on | go_big_quiet_call ((go_at_call 79; exact Calls.after (HL _)))) | quiet_step ((go_at_call 79; exact Calls.after (HL _))) | (refine wpQuiet_step (fun K hK => ?_); go_simp; split <;> (refine hK _ ?_; clear hK K))))
           all_goals (refine wpQuiet_nil ?_; intro _ hw'; obtain ⟨u', hw''⟩ := hw'; subst hw''; obtain ⟨wd, hbd⟩ := u'; simp only [After.val_mk]))
          all_goals (try (exfalso; omega))
          have ld := later hbd
          go_upto_region 7 with fail
          have hz7 : w0.heap.size ≤ wd.heap.size := (show Below w0.heap.size w0 wd from below_of).size
          go_upto_region 9 with (at_builtin; refine wpList_app1 rfl (.tmp 25) (.tmp 27) rfl StubE.enc tabT e rfl rfl rfl (ho.later _) (by rfl) (by omega) (by unfold maxLen; omega) hz7 ?_; intro A1 c1 w2 ho2 hm hbq hgq hat)
          have l2 := later_base (W := w0) hbq
          have hz2 : w0.heap.size ≤ w2.heap.size := (show Below w0.heap.size w0 w2 from below_of).size
          obtain ⟨b2, o2, y2, e2, hy2, C2⟩ := StubE.get (HS w2) hlt
          injection e2 with e2
          injection e2 with e2 e3
          subst e2 e3
          have hyy : y2 = y := by rw [Hy.out] at hy2; injection hy2 with h; exact h.symm
          subst hyy
          have ho2' := ho2
          rw [hqL.out] at ho2'
          clear hy2 C1
          go_wp2_with (at_builtin; refine wpList_app1 rfl (.tmp 29) (.tmp 34) rfl StubE.enc tabT y2 rfl rfl rfl ho2 (by rfl) (by simp; omega) (by simp; unfold maxLen; omega) hz2 ?_; intro A' c' w3 ho3 hm3 hbq3 hgq3 hat3)
          have hqk : q.length ≤ k := by rw [hR.out.2]; simp; omega
          go_roundw
          case rel => exact ⟨k + 1, q ++ [e] ++ [y2], A', c', true, by omega, by go_num, rfl, by rw [← hqM.out, ← hqL.out], hide ⟨hq2.out.1, hq2.out.2⟩, by rw [← hqM.out, ← hqL.out]; omega, by rw [← hqM.out]; exact ho3, ((show Below w0.heap.size w0 wd from below_of).trans hbq).trans hbq3⟩
          case measure => simp [intOf]; omega
      · have hq2 := hide (show true = (xs.take (k + 1)).any (fun y => decide (ltS e y)) ∧ q ++ [y] = insR e (xs.take (k + 1)) by
          rw [hT.out, List.any_append, ← hR.out.1, insR_done hR.out.1.symm, hR.out.2]; simp)
        have hqL := hide (show q.length + 1 = (q ++ [y]).length by simp)
        go_upto_region 6 with fail
        (refine wp_region_after (by kernel_rfl) (by kernel_rfl) ?_
         repeat (any_goals (first | go_big_quiet_skip | (go_big_quiet_want; go_big_quiet_op; first | go_big_quiet_on | go_big_quiet_call (fail)) | quiet_step (fail) | (refine wpQuiet_step (fun K hK => ?_); go_simp; split <;> (refine hK _ ?_; clear hK K))))
         all_goals (refine wpQuiet_nil ?_; intro _ hw'; obtain ⟨u', hw''⟩ := hw'; subst hw''; obtain ⟨wd, hbd⟩ := u'; simp only [After.val_mk]))
        all_goals (try (exfalso; omega))
        have ld := later hbd
        go_upto_region 9 with fail
        have hz9 : w0.heap.size ≤ wd.heap.size := (show Below w0.heap.size w0 wd from below_of).size
        go_wp2_with (at_builtin; refine wpList_app1 rfl (.tmp 29) (.tmp 34) rfl StubE.enc tabT y rfl rfl rfl (ho.later _) (by rfl) (by omega) (by unfold maxLen; omega) hz9 ?_; intro A' c' w2 ho2 hm hbq hgq hat)
        go_roundw
        case rel => exact ⟨k + 1, q ++ [y], A', c', true, by omega, by go_num, rfl, by rw [← hqL.out], hide ⟨hq2.out.1, hq2.out.2⟩, by rw [← hqL.out]; omega, by rw [← hqL.out]; exact ho2, (show Below w0.heap.size w0 wd from below_of).trans hbq⟩
        case measure => simp [intOf]; omega
    · have hk' : k = xs.length := by omega
      subst hk'
      rw [List.take_length] at hR
      have hsz := hbr.size
      cases db
      · have hq2 := hide (show q ++ [e] = insR e xs by rw [insR_end hR.out.1.symm, hR.out.2]; rfl)
        have hqL := hide (show q.length + 1 = (q ++ [e]).length by simp)
        go_upto_region 11 with fail
        go_wp2_with (at_builtin; refine wpList_app1 rfl (.tmp 38) (.tmp 40) rfl StubE.enc tabT e rfl rfl rfl ho (by rfl) (by omega) (by unfold maxLen; omega) hsz ?_; intro A' c' w2 ho2 hm hbq hgq hat)
        go_ret
        rw [hqL.out] at ho2
        exact ⟨q ++ [e], A', c', hq2, by rw [← hqL.out]; rfl, (ho2.at_ StubE.enc).2.1, ho2.cap_le, (ho2.at_ StubE.enc).2.2, (show Below w.heap.size w w0 from below_of).trans ((hbr.trans hbq).mono (show Below w.heap.size w w0 from below_of).size)⟩
      · have hq2 := hide (show q = insR e xs from hR.out.2)
        go_wp2_with fail
        go_ret
        exact ⟨q, B, D, hq2, rfl, (ho.at_ StubE.enc).2.1, ho.cap_le, (ho.later _).at_ StubE.enc |>.2.2, below_of⟩
end Go.Proofs.Ytgddapgdeaeggaa
