/-
  Small texts of this seat, put into one. Conditions stand in each theorem.
-/
import Derived.Test.YtgddapgdeaeggaaC23LawF1
namespace Go.Proofs.Ytgddapgdeaeggaa
open Go.RowKit
attribute [local go_sem ↓] run_eql_id run_neq_id
theorem tabT : ElemT Try.prog 27 37 12 80 := ElemT.mk' (z := .agg #[.int .i64 0, .int .u64 0, .int .i64 0, .int .i64 0, .int .i64 0, .int .i64 0, .int .i64 0, .bool false, .bool false, .bool false, .int .i64 0, .int .i64 0]) Try.underlying27 (by kernel_rfl) rfl
def keyP (o n : Int) (e : StubE) : Bool := decide (e.owner = o) && decide (e.number = n)
def idP (i : IDE) (e : StubE) : Bool := ideq e.iDMachine e.iDSerial i.machine i.serial
set_option maxRecDepth 100000 in
set_option maxHeartbeats 2000000 in
theorem refAt_any (A : Option Addr) (C : Nat) (xs : List StubE) (o n : Int) (w : World) (hs : SlAt StubE.cells 12 w A xs) (hl : xs.length ≤ 1000000) : Calls Try.prog 64 #[.slice A xs.length C, .int .i64 o, .int .u64 n] w fun r w' => r = .returned (.int .i64 (idxOf (keyP o n) xs)) ∧ Below w.heap.size w w' := by
  have HS : ∀ u [Later w u], SlAt StubE.cells 12 u A xs := fun u i => hs.below i.below
  have hl' : xs.length ≤ 9223372036854775807 := by omega
  go_enter Try.func64, Try.ntmps64
  go_wp2_with fail
  go_loopw [7] (fun iv wr => ∃ k : Nat, k ≤ xs.length ∧ iv = .int .i64 k ∧ NoneTo (keyP o n) xs k ∧ Below w.heap.size w wr) (fun iv _ => xs.length - (intOf iv).toNat)
  case atStart => exact ⟨0, by omega, rfl, NoneTo.zero, Below.refl _ _⟩
  case round =>
    obtain ⟨k, hk, rfl, hno, hbr⟩ := hrel
    have lr := later hbr
    have Hno := hide hno
    clear hno
    by_cases hlt : k < xs.length
    · obtain ⟨b1, o1, y, rfl, hy, C1⟩ := StubE.get (HS wr) hlt
      have Hy := hide hy
      clear hy
      by_cases h1 : y.owner = o
      · by_cases h2 : y.number = n
        · have HI := hide (idxOf_hit Hy.out (by simp [keyP, h1, h2]) Hno.out)
          go_wp2_with fail
          go_ret
          exact ⟨ret_int HI.out.symm, below_of⟩
        · have hp := hide (show keyP o n y = false by simp [keyP, h2])
          go_wp2_with fail
          go_roundw
          case rel => exact ⟨k + 1, by omega, by go_num, Hno.out.succ Hy.out hp.out, below_of⟩
          case measure => simp [intOf]; omega
      · have hp := hide (show keyP o n y = false by simp [keyP, h1])
        go_wp2_with fail
        go_roundw
        case rel => exact ⟨k + 1, by omega, by go_num, Hno.out.succ Hy.out hp.out, below_of⟩
        case measure => simp [intOf]; omega
    · have hk' : k = xs.length := by omega
      subst hk'
      have HI := hide (idxOf_miss Hno.out)
      go_wp2_with fail
      go_ret
      exact ⟨ret_int HI.out.symm, below_of⟩
set_option maxHeartbeats 1000000 in
theorem refLess_any (a b : StubE) (w : World) : Calls Try.prog 79 #[a.v, b.v] w fun r w' => r = .returned (.bool (decide (ltS a b))) ∧ Below w.heap.size w w' := by
  have hd : decide (ltS a b) = (decide (a.owner < b.owner) || (decide (a.owner = b.owner) && decide (a.number < b.number))) := by
    unfold ltS; by_cases h1 : a.owner < b.owner <;> by_cases h2 : a.owner = b.owner <;> by_cases h3 : a.number < b.number <;> simp [h1, h2, h3]
  have Hd := hide hd
  clear hd
  go_enter Try.func79, Try.ntmps79
  go_wp2_with fail
  all_goals go_ret
  all_goals exact ⟨ret_bool (by rw [Hd.out]; simp [*]), below_of⟩
set_option maxRecDepth 100000 in
set_option maxHeartbeats 2000000 in
theorem refByID_any (A : Option Addr) (C : Nat) (xs : List StubE) (i : IDE) (w : World) (hs : SlAt StubE.cells 12 w A xs) (hl : xs.length ≤ 1000000) : Calls Try.prog 65 #[.slice A xs.length C, i.v] w fun r w' => r = .returned (.int .i64 (idxOf (idP i) xs)) ∧ Below w.heap.size w w' := by
  have HS : ∀ u [Later w u], SlAt StubE.cells 12 u A xs := fun u i => hs.below i.below
  have hl' : xs.length ≤ 9223372036854775807 := by omega
  go_enter Try.func65, Try.ntmps65
  go_upto_region 1 with fail
  refine wp_name ?_
  intro w0 hw0
  obtain ⟨B0, l0⟩ := box1 hw0
  clear hw0
  go_wp2_with fail
  go_loopw [5] (fun iv wr => ∃ k : Nat, k ≤ xs.length ∧ iv = .int .i64 k ∧ NoneTo (idP i) xs k ∧ Below w0.heap.size w0 wr) (fun iv _ => xs.length - (intOf iv).toNat)
  case atStart => exact ⟨0, by omega, rfl, NoneTo.zero, Below.refl _ _⟩
  case round =>
    obtain ⟨k, hk, rfl, hno, hbr⟩ := hrel
    have lr := later hbr
    have Hno := hide hno
    clear hno
    by_cases hlt : k < xs.length
    · obtain ⟨b1, o1, y, rfl, hy, C1⟩ := StubE.get (HS wr) hlt
      have Hy := hide hy
      clear hy
      cases hp : ideq y.iDMachine y.iDSerial i.machine i.serial
      · have hq := hide (show idP i y = false from hp)
        go_upto_region 4 with fail
        (refine wp_region_after (by kernel_rfl) (by kernel_rfl) ?_
         repeat (any_goals (first | go_big_quiet_skip | (go_big_quiet_want; go_big_quiet_op; first | go_big_quiet_on | go_big_quiet_call (fail)) | quiet_step (fail) | (refine wpQuiet_step (fun K hK => ?_); go_simp; split <;> (refine hK _ ?_; clear hK K))))
         all_goals (refine wpQuiet_nil ?_; intro _ hw'; obtain ⟨u', hw''⟩ := hw'; subst hw''; obtain ⟨wd, hbd⟩ := u'; simp only [After.val_mk]))
        have ld := later hbd
        go_wp2_with fail
        go_roundw
        case rel => exact ⟨k + 1, by omega, by go_num, Hno.out.succ Hy.out hq.out, below_of⟩
        case measure => simp [intOf]; omega
      · have HI := hide (idxOf_hit (p := idP i) Hy.out hp Hno.out)
        go_upto_region 4 with fail
        (refine wp_region_after (by kernel_rfl) (by kernel_rfl) ?_
         repeat (any_goals (first | go_big_quiet_skip | (go_big_quiet_want; go_big_quiet_op; first | go_big_quiet_on | go_big_quiet_call (fail)) | quiet_step (fail) | (refine wpQuiet_step (fun K hK => ?_); go_simp; split <;> (refine hK _ ?_; clear hK K))))
         all_goals (refine wpQuiet_nil ?_; intro _ hw'; obtain ⟨u', hw''⟩ := hw'; subst hw''; obtain ⟨wd, hbd⟩ := u'; simp only [After.val_mk]))
        have ld := later hbd
        go_wp2_with fail
        go_ret
        exact ⟨ret_int HI.out.symm, below_of⟩
    · have hk' : k = xs.length := by omega
      subst hk'
      have HI := hide (idxOf_miss Hno.out)
      go_wp2_with fail
      go_ret
      exact ⟨ret_int HI.out.symm, below_of⟩
def insR (e : StubE) : List StubE → List StubE
  | [] => [e]
  | x :: l => if ltS e x then e :: x :: l else x :: insR e l
end Go.Proofs.Ytgddapgdeaeggaa

namespace Go.Proofs.Ytgddapgdeaeggaa
open Go.RowKit
theorem insR_done {e x : StubE} : ∀ {l : List StubE}, (l.any fun y => decide (ltS e y)) = true → insR e (l ++ [x]) = insR e l ++ [x]
  | [], h => by simp at h
  | y :: l, h => by
    rw [List.cons_append, insR, insR]
    by_cases hy : ltS e y
    · simp [hy]
    · have h' : (l.any fun y => decide (ltS e y)) = true := by simpa [hy] using h
      simp [hy, insR_done h']
theorem insR_not {e x : StubE} : ∀ {l : List StubE}, (l.any fun y => decide (ltS e y)) = false → insR e (l ++ [x]) = if ltS e x then l ++ [e, x] else l ++ [x, e]
  | [], _ => by by_cases h : ltS e x <;> simp [insR, h]
  | y :: l, h => by
    have hy : ¬ ltS e y := by intro hh; simp [hh] at h
    have h' : (l.any fun y => decide (ltS e y)) = false := by simpa [hy] using h
    rw [List.cons_append, insR, if_neg hy, insR_not h']
    by_cases hx : ltS e x <;> simp [hx]
theorem insR_end {e : StubE} : ∀ {l : List StubE}, (l.any fun y => decide (ltS e y)) = false → insR e l = l ++ [e]
  | [], _ => rfl
  | y :: l, h => by
    have hy : ¬ ltS e y := by intro hh; simp [hh] at h
    have h' : (l.any fun y => decide (ltS e y)) = false := by simpa [hy] using h
    rw [insR, if_neg hy, insR_end h']; rfl
theorem insR_perm (e : StubE) : ∀ l : List StubE, (insR e l).Perm (e :: l)
  | [] => .refl _
  | x :: l => by
    rw [insR]
    split
    · exact .refl _
    · exact ((insR_perm e l).cons x).trans (.swap e x l)
theorem insR_sorted {e : StubE} : ∀ {l : List StubE}, SortedS l → (∀ x ∈ l, keyE x ≠ keyE e) → SortedS (insR e l)
  | [], _, _ => by simp [insR]
  | x :: l, hs, hn => by
    rw [insR]
    obtain ⟨h1, h2⟩ := List.pairwise_cons.1 hs
    split
    · rename_i hl
      refine List.pairwise_cons.2 ⟨fun y hy => ?_, hs⟩
      rcases List.mem_cons.1 hy with rfl | hy
      · exact hl
      · have := h1 y hy
        unfold ltS at *; omega
    · rename_i hl
      refine List.pairwise_cons.2 ⟨fun y hy => ?_, insR_sorted h2 fun z hz => hn z (List.mem_cons_of_mem _ hz)⟩
      rcases List.mem_cons.1 ((insR_perm e l).mem_iff.1 hy) with rfl | hy
      · have hk := hn x List.mem_cons_self
        have : ¬ (x.owner = y.owner ∧ x.number = y.number) := fun ⟨a, b⟩ => hk (KeyE.ext_iff.2 ⟨a, b⟩)
        unfold ltS at *; omega
      · exact h1 y hy
end Go.Proofs.Ytgddapgdeaeggaa

namespace Go.Proofs.Ytgddapgdeaeggaa
open Go.RowKit
def TabPost (w : World) (s : List StubE) (r : Ending) (w' : World) : Prop := ∃ q A c, Hid (q = s) ∧ r = .returned (.slice A q.length c) ∧ q.length ≤ c ∧ c ≤ maxLen ∧ SlAt StubE.cells 12 w' A q ∧ Below w.heap.size w w'
theorem Own.cap_le {α : Type} {f : α → List Value} {s : Nat} {e : TypeId} {base : Nat} {w : World} {A : Option Addr} {n c : Nat} {l : List α} (h : Own f s e base w (.slice A n c) l) : c ≤ maxLen := by
  rcases h.form with ⟨h0, _⟩ | ⟨g, cap, hv, _, _, _, hm⟩
  · injection h0 with _ _ h; rw [h]; simp
  · injection hv with _ _ h; rw [h]; exact hm
set_option maxRecDepth 100000 in
set_option maxHeartbeats 4000000 in
theorem refInsert_any (A : Option Addr) (C : Nat) (xs : List StubE) (e : StubE) (w : World) (hs : SlAt StubE.cells 12 w A xs) (hl : xs.length ≤ 1000000) : Calls Try.prog 66 #[.slice A xs.length C, e.v] w (TabPost w (insR e xs)) := by
  have HS : ∀ u [Later w u], SlAt StubE.cells 12 u A xs := fun u i => hs.below i.below
  have hl' : xs.length ≤ 9223372036854775807 := by omega
  go_enter Try.func66, Try.ntmps66
  go_upto_region 1 with fail
  refine wp_name ?_
  intro w0 hw0
  obtain ⟨B0, l0⟩ := box1 hw0
  clear hw0
  go_wp2_with fail
  go_loopw [5, 6, 7] (fun ov dv iv wr => ∃ (k : Nat) (q : List StubE) (B : Option Addr) (D : Nat) (db : Bool), k ≤ xs.length ∧ iv = .int .i64 k ∧ dv = .bool db ∧ ov = .slice B q.length D ∧ Hid (db = (xs.take k).any (fun y => decide (ltS e y)) ∧ q = if db then insR e (xs.take k) else xs.take k) ∧ q.length ≤ k + 1 ∧ Own StubE.cells 12 37 w0.heap.size wr (.slice B q.length D) q ∧ Below w0.heap.size w0 wr) (fun _ _ iv _ => xs.length - (intOf iv).toNat)
  case atStart => exact ⟨0, [], some ⟨w0.heap.size, 0, none⟩, 0, false, by omega, rfl, rfl, rfl, hide ⟨rfl, rfl⟩, by simp, Own.empty (Nat.le_refl _), below_of⟩
  case round =>
    obtain ⟨k, q, B, D, db, hk, rfl, rfl, rfl, hR, hql, ho, hbr⟩ := hrel
    have lr := later hbr
    by_cases hlt : k < xs.length
    · obtain ⟨b1, o1, y, rfl, hy, C1⟩ := StubE.get (HS wr) hlt
      have Hy := hide hy
      clear hy
      obtain ⟨lt, hltd⟩ : ∃ b, b = decide (ltS e y) := ⟨_, rfl⟩
      have HL : ∀ u, Calls Try.prog 79 #[e.v, y.v] u fun r w' => r = .returned (.bool lt) ∧ Below u.heap.size u w' := fun u => by rw [hltd]; exact refLess_any e y u
      have Hlt := hide hltd
      clear hltd
      have hT := hide (take_snoc_get Hy.out)
      have hsz := hbr.size
      cases db
      · cases lt
        · have hq2 := hide (show false = (xs.take (k + 1)).any (fun y => decide (ltS e y)) ∧ q ++ [y] = xs.take (k + 1) by
            rw [hT.out, List.any_append, ← hR.out.1, hR.out.2]; simp [← Hlt.out])
          have hqL := hide (show q.length + 1 = (q ++ [y]).length by simp)
          go_upto_region 6 with fail
          (refine wp_region_after (by kernel_rfl) (by kernel_rfl) ?_
           repeat (any_goals (first | go_big_quiet_skip | (go_big_quiet_want; go_big_quiet_op; first | go_big_quiet_on | go_big_quiet_call ((go_at_call 79; exact Calls.after (HL _)))) | quiet_step ((go_at_call 79; exact Calls.after (HL _))) | (refine wpQuiet_step (fun K hK => ?_); go_simp; split <;> (refine hK _ ?_; clear hK K))))
           all_goals (refine wpQuiet_nil ?_; intro _ hw'; obtain ⟨u', hw''⟩ := hw'; subst hw''; obtain ⟨wd, hbd⟩ := u'; simp only [After.val_mk]))
          all_goals (try (exfalso; omega))
          have ld := later hbd
          go_upto_region 9 with fail
          have hz9 : w0.heap.size ≤ wd.heap.size := (show Below w0.heap.size w0 wd from below_of).size
          go_wp2_with (at_builtin; refine wpList_app1 rfl (.tmp 29) (.tmp 34) rfl StubE.enc tabT y rfl rfl rfl (ho.later _) (by rfl) (by omega) (by unfold maxLen; omega) hz9 ?_; intro A' c' w2 ho2 hm hbq hgq hat)
          go_roundw
          case rel => exact ⟨k + 1, q ++ [y], A', c', false, by omega, by go_num, rfl, by rw [← hqL.out], hide ⟨hq2.out.1, hq2.out.2⟩, by rw [← hqL.out]; omega, by rw [← hqL.out]; exact ho2, (show Below w0.heap.size w0 wd from below_of).trans hbq⟩
          case measure => simp [intOf]; omega
        · have hq2 := hide (show true = (xs.take (k + 1)).any (fun y => decide (ltS e y)) ∧ q ++ [e] ++ [y] = insR e (xs.take (k + 1)) by
            rw [hT.out, List.any_append, ← hR.out.1, insR_not hR.out.1.symm, hR.out.2]; simp [← Hlt.out, of_decide_eq_true Hlt.out.symm])
          have hqL := hide (show q.length + 1 = (q ++ [e]).length by simp)
          have hqM := hide (show (q ++ [e]).length + 1 = (q ++ [e] ++ [y]).length by simp)
          go_upto_region 6 with fail
          (refine wp_region_after (by kernel_rfl) (by kernel_rfl) ?_
           repeat (any_goals (first | go_big_quiet_skip | (go_big_quiet_want; go_big_quiet_op; first | go_big_quiet_on | go_big_quiet_call ((go_at_call 79; exact Calls.after (HL _)))) | quiet_step ((go_at_call 79; exact Calls.after (HL _))) | (refine wpQuiet_step (fun K hK => ?_); go_simp; split <;> (refine hK _ ?_; clear hK K))))
           all_goals (refine wpQuiet_nil ?_; intro _ hw'; obtain ⟨u', hw''⟩ := hw'; subst hw''; obtain ⟨wd, hbd⟩ := u'; simp only [After.val_mk]))
          all_goals (try (exfalso; omega))
          have ld := later hbd
          go_upto_region 7 with fail
          have hz7 : w0.heap.size ≤ wd.heap.size := (show Below w0.heap.size w0 wd from below_of).size
          go_upto_region 9 with (at_builtin; refine wpList_app1 rfl (.tmp 25) (.tmp 27) rfl StubE.enc tabT e rfl rfl rfl (ho.later _) (by rfl) (by omega) (by unfold maxLen; omega) hz7 ?_; intro A1 c1 w2 ho2 hm hbq hgq hat)
          have l2 := later_base (W := w0) hbq
          have hz2 : w0.heap.size ≤ w2.heap.size := (show Below w0.heap.size w0 w2 from below_of).size
          obtain ⟨b2, o2, y2, e2, hy2, C2⟩ := StubE.get (HS w2) hlt
          injection e2 with e2
          injection e2 with e2 e3
          subst e2 e3
          have hyy : y2 = y := by rw [Hy.out] at hy2; injection hy2 with h; exact h.symm
          subst hyy
          have ho2' := ho2
          rw [hqL.out] at ho2'
          clear hy2 C1
          go_wp2_with (at_builtin; refine wpList_app1 rfl (.tmp 29) (.tmp 34) rfl StubE.enc tabT y2 rfl rfl rfl ho2 (by rfl) (by simp; omega) (by simp; unfold maxLen; omega) hz2 ?_; intro A' c' w3 ho3 hm3 hbq3 hgq3 hat3)
          have hqk : q.length ≤ k := by rw [hR.out.2]; simp; omega
          go_roundw
          case rel => exact ⟨k + 1, q ++ [e] ++ [y2], A', c', true, by omega, by go_num, rfl, by rw [← hqM.out, ← hqL.out], hide ⟨hq2.out.1, hq2.out.2⟩, by rw [← hqM.out, ← hqL.out]; omega, by rw [← hqM.out]; exact ho3, ((show Below w0.heap.size w0 wd from below_of).trans hbq).trans hbq3⟩
          case measure => simp [intOf]; omega
      · have hq2 := hide (show true = (xs.take (k + 1)).any (fun y => decide (ltS e y)) ∧ q ++ [y] = insR e (xs.take (k + 1)) by
          rw [hT.out, List.any_append, ← hR.out.1, insR_done hR.out.1.symm, hR.out.2]; simp)
        have hqL := hide (show q.length + 1 = (q ++ [y]).length by simp)
        go_upto_region 6 with fail
        (refine wp_region_after (by kernel_rfl) (by kernel_rfl) ?_
         repeat (any_goals (first | go_big_quiet_skip | (go_big_quiet_want; go_big_quiet_op; first | go_big_quiet_on | go_big_quiet_call (fail)) | quiet_step (fail) | (refine wpQuiet_step (fun K hK => ?_); go_simp; split <;> (refine hK _ ?_; clear hK K))))
         all_goals (refine wpQuiet_nil ?_; intro _ hw'; obtain ⟨u', hw''⟩ := hw'; subst hw''; obtain ⟨wd, hbd⟩ := u'; simp only [After.val_mk]))
        all_goals (try (exfalso; omega))
        have ld := later hbd
        go_upto_region 9 with fail
        have hz9 : w0.heap.size ≤ wd.heap.size := (show Below w0.heap.size w0 wd from below_of).size
        go_wp2_with (at_builtin; refine wpList_app1 rfl (.tmp 29) (.tmp 34) rfl StubE.enc tabT y rfl rfl rfl (ho.later _) (by rfl) (by omega) (by unfold maxLen; omega) hz9 ?_; intro A' c' w2 ho2 hm hbq hgq hat)
        go_roundw
        case rel => exact ⟨k + 1, q ++ [y], A', c', true, by omega, by go_num, rfl, by rw [← hqL.out], hide ⟨hq2.out.1, hq2.out.2⟩, by rw [← hqL.out]; omega, by rw [← hqL.out]; exact ho2, (show Below w0.heap.size w0 wd from below_of).trans hbq⟩
        case measure => simp [intOf]; omega
    · have hk' : k = xs.length := by omega
      subst hk'
      rw [List.take_length] at hR
      have hsz := hbr.size
      cases db
      · have hq2 := hide (show q ++ [e] = insR e xs by rw [insR_end hR.out.1.symm, hR.out.2]; rfl)
        have hqL := hide (show q.length + 1 = (q ++ [e]).length by simp)
        go_upto_region 11 with fail
        go_wp2_with (at_builtin; refine wpList_app1 rfl (.tmp 38) (.tmp 40) rfl StubE.enc tabT e rfl rfl rfl ho (by rfl) (by omega) (by unfold maxLen; omega) hsz ?_; intro A' c' w2 ho2 hm hbq hgq hat)
        go_ret
        rw [hqL.out] at ho2
        exact ⟨q ++ [e], A', c', hq2, by rw [← hqL.out]; rfl, (ho2.at_ StubE.enc).2.1, ho2.cap_le, (ho2.at_ StubE.enc).2.2, (show Below w.heap.size w w0 from below_of).trans ((hbr.trans hbq).mono (show Below w.heap.size w w0 from below_of).size)⟩
      · have hq2 := hide (show q = insR e xs from hR.out.2)
        go_wp2_with fail
        go_ret
        exact ⟨q, B, D, hq2, rfl, (ho.at_ StubE.enc).2.1, ho.cap_le, (ho.later _).at_ StubE.enc |>.2.2, below_of⟩
end Go.Proofs.Ytgddapgdeaeggaa

namespace Go.Proofs.Ytgddapgdeaeggaa
open Go.RowKit
attribute [local simp] heap_drew
def remI (xs : List StubE) (i : Nat) : List StubE := xs.take i ++ xs.drop (i + 1)
def atR (xs : List StubE) (k : KeyE) : Int := idxOf (keyP k.owner k.number) xs
def idR (xs : List StubE) (i : IDE) : Int := idxOf (idP i) xs
def addErrR (xs : List StubE) (e : StubE) : Int := if validE e = false then 1 else if 0 ≤ atR xs (keyE e) ∨ 0 ≤ idR xs (idE e) then 5 else 0
def putErrR (xs : List StubE) (e : StubE) : Int := if validE e = false then 1 else if atR xs (keyE e) < 0 then 6 else if 0 ≤ idR xs (idE e) ∧ idR xs (idE e) ≠ atR xs (keyE e) then 5 else 0
def chErrR (xs : List StubE) (k : KeyE) : Int := if atR xs k < 0 then 6 else 0
def useErrR (n : Int) (xs : List StubE) (k : KeyE) : Int := if n < 0 then 1 else chErrR xs k
def addR (xs : List StubE) (e : StubE) : List StubE := if addErrR xs e = 0 then insR e xs else xs
def putR (xs : List StubE) (e : StubE) : List StubE := if putErrR xs e = 0 then insR e (remI xs (atR xs (keyE e)).toNat) else xs
def chR (F : StubE → StubE) (xs : List StubE) (k : KeyE) : List StubE := if chErrR xs k = 0 then insR (F ((xs[(atR xs k).toNat]?).getD zeroE)) (remI xs (atR xs k).toNat) else xs
def useR (n : Int) (xs : List StubE) (k : KeyE) : List StubE := if n < 0 then xs else chR (useE n) xs k
def rmvR (xs : List StubE) (k : KeyE) : List StubE := if chErrR xs k = 0 then remI xs (atR xs k).toNat else xs
theorem at_lt {p : StubE → Bool} {xs : List StubE} (h : 0 ≤ idxOf p xs) : ∃ (i : Nat) (x : StubE), idxOf p xs = (i : Int) ∧ xs[i]? = some x ∧ p x = true := by
  rcases idxOf_cases p xs with ⟨h1, _⟩ | ⟨i, x, h1, h2, h3, _⟩
  · omega
  · exact ⟨i, x, h1, h2, h3⟩
theorem remI_len {xs : List StubE} {i : Nat} (h : i < xs.length) : (remI xs i).length = xs.length - 1 := by
  unfold remI; rw [List.length_append, List.length_take, List.length_drop]; omega
theorem insR_len (e : StubE) (xs : List StubE) : (insR e xs).length = xs.length + 1 := (insR_perm e xs).length_eq
set_option maxRecDepth 100000 in
set_option maxHeartbeats 4000000 in
theorem refWithout_any (A : Option Addr) (C : Nat) (xs : List StubE) (i : Nat) (w : World) (hs : SlAt StubE.cells 12 w A xs) (hl : xs.length ≤ 1000000) (hc : xs.length ≤ C) (hm : C ≤ maxLen) (hi : i < xs.length) : Calls Try.prog 67 #[.slice A xs.length C, .int .i64 i] w (TabPost w (remI xs i)) := by
  have HS : ∀ u [Later w u], SlAt StubE.cells 12 u A xs := fun u i => hs.below i.below
  have hm' : C ≤ 9223372036854775807 := hm
  obtain ⟨g1, o1, x, rfl, -⟩ := StubE.get (HS w) hi
  have hwr : IntKind.i64.wrap ((i : Int) + 1) = (i : Int) + 1 := by simp [IntKind.wrap, IntKind.bits, IntKind.signed]; omega
  obtain ⟨AD, hAD⟩ : ∃ AD : Option Addr, AD = if C = i + 1 then some ⟨g1, o1, none⟩ else some ⟨g1, o1 + (i + 1) * 12, none⟩ := ⟨_, rfl⟩
  have hsrc : ∀ u [Later w u], SlAt StubE.cells 12 u AD (xs.drop (i + 1)) := fun u j => by
    rw [hAD]
    by_cases h : C = i + 1
    · have h' : xs.length ≤ i + 1 := by omega
      rw [List.drop_eq_nil_of_le h']; exact SlAt.nil
    · rw [if_neg h]; exact SlAt.drop (HS u) (i + 1)
  have Hrem := hide (show xs.take i ++ xs.drop (i + 1) = remI xs i from rfl)
  have htk : (xs.take i).length = i := by rw [List.length_take]; omega
  have hdk : (xs.drop (i + 1)).length = xs.length - (i + 1) := by rw [List.length_drop]
  have HAD := hide hAD
  clear hAD
  go_enter Try.func67, Try.ntmps67
  go_upto_region 1 with fail
  refine wp_name ?_
  intro wz hwz
  have lz := later_name' hwz (inferInstance : Later w _)
  clear hwz
  have hk0 : (0 : Int) ≤ (i : Int) := by omega
  have hkc : (i : Int) ≤ (C : Int) := by omega
  have hkl : (i : Int) ≤ (xs.length : Int) := by omega
  have hk1 : (0 : Int) ≤ (i : Int) + 1 := by omega
  have hkc1 : (i : Int) + 1 ≤ (C : Int) := by omega
  have hkl1 : (i : Int) + 1 ≤ (xs.length : Int) := by omega
  go_region_held3 (fun w' => ∀ b [Later b wz], Later b w') ((intro b _; infer_instance))
    ((first
      | (have ho9 := ho1
         refine step_app (P := Try.prog) rfl (.tmp 9) (.tmp 13) (by rfl) StubE.enc tabT AD _ (xs.drop (i + 1)) (xs.take i) (.slice A1 i c1) (by rfl) (by rw [HAD.out]; rfl) (m := xs.length - (i + 1)) (n := xs.length - 1) hdk (by rw [htk]; omega) (ho1.later _) (hsrc _) (by omega) (by simp [maxLen]; omega) (by first | (simp; done) | (simp; omega) | omega) ?_
         intro A3 c3 w3 ho3 hm3 hb3 hg3
         have l3 := later_base (W := wz) hb3)
      | (refine step_app rfl (.tmp 5) (.tmp 8) (by rfl) StubE.enc tabT _ _ (xs.take i) ([] : List StubE) (.slice (some ⟨_, 0, none⟩) 0 0) (by rfl) (by rfl) htk (Nat.zero_add _) (Own.empty_blk (base := wz.heap.size) (by first | (simp; done) | (simp; omega) | omega) (by (simp only [heap_drew, heap_alloc_if, World.size_alloc]); (repeat (first | rw [if_pos rfl] | rw [if_neg (by omega)] | rw [if_pos (by omega)])); try rfl)) ((HS _).take _) (by omega) (by simp [maxLen]; omega) (by first | (simp; done) | (simp; omega) | omega) ?_
         intro A1 c1 w1 ho1 hm1 hb1 hg1
         have l1 := later_base (W := wz) hb1
         have hz1 : wz.heap.size ≤ w1.heap.size := (l1 wz).below.size)))
  all_goals go_wp2_with fail
  all_goals go_ret
  all_goals exact ⟨_, A3, c3, Hrem, by rw [Hrem.out, remI_len hi]; rfl, (ho3.at_ StubE.enc).2.1, hm3, by rw [Hrem.out] at ho3; exact (ho3.at_ StubE.enc).2.2, below_of⟩
end Go.Proofs.Ytgddapgdeaeggaa
