/-
  RetentionOrder's closure, and the plain half of that law. Conditions stand in each theorem.
-/
import Derived.Test.YtffnogjgnpbjlaaD58Law4
set_option linter.unusedSimpArgs false
set_option linter.unusedVariables false
namespace Go.Proofs.Ytffnogjgnpbjlaa
open Go.RowKit
attribute [local go_sem] Oper.semAt_some
attribute [local simp] heap_drew
attribute [local go_sem ↓] run_eql_id run_neq_id
/-- What the closure answers. -/
def ofI (q : List IDE) (sz : IDE → Int) (x : IDE) : Int := if x ∈ q then sz x else -1
set_option maxRecDepth 100000 in
set_option maxHeartbeats 4000000 in
theorem of_any (q : List IDE) (s : List Int) (sz : IDE → Int) (QA : Option Addr) (QC : Nat) (SA : Option Addr) (SC g7 g8 : Nat) (x : IDE) (w : World) (h7 : w.heap[g7]? = some (.cells #[.slice QA q.length QC] 25 (0, 0))) (h8 : w.heap[g8]? = some (.cells #[.slice SA q.length SC] 32 (0, 0)))
    (hQ : SlAt IDE.cells 2 w QA q) (hS : SlAt I64.cells 1 w SA s) (hl : s.length = q.length) (hq : q.length ≤ 1000000) (hsz : ∀ (k : Nat) (y : IDE) (v : Int), q[k]? = some y → s[k]? = some v → v = sz y) :
    Calls Try.prog 25 #[x.v, .pointer (some ⟨g7, 0, none⟩), .pointer (some ⟨g8, 0, none⟩)] w fun r w' => r = .returned (.int .i64 (ofI q sz x)) ∧ Below w.heap.size w w' := by
  have X7 := boxed h7
  have X8 := boxed h8
  have Hl := hide hl
  have Hsz := hide hsz
  obtain ⟨ov, hov⟩ : ∃ v, v = ofI q sz x := ⟨_, rfl⟩
  rw [← hov]
  have Hov := hide hov
  clear hl hsz hov h7 h8
  obtain ⟨x1, x2⟩ := x
  dsimp only [IDE.v]
  go_enter Try.func25, Try.ntmps25
  go_upto_region 1 with fail
  refine wp_name ?_
  intro w1 hw1
  obtain ⟨B0, l1⟩ := box1 hw1
  clear hw1
  go_wp2_with fail
  go_loopw [5] (fun kv wr => ∃ k : Nat, k ≤ q.length ∧ kv = .int .i64 k ∧ Hid (∀ j, j < k → q[j]? ≠ some ⟨x1, x2⟩) ∧ Below w1.heap.size w1 wr) (fun kv _ => q.length - (intOf kv).toNat)
  case atStart => exact ⟨0, by omega, rfl, hide (fun j hj => by omega), Below.refl _ _⟩
  case round =>
    obtain ⟨k, hk, rfl, hno, hbr⟩ := hrel
    have lr := later hbr
    have lrr : Later wr wr := Later.refl
    by_cases hlt : k < q.length
    · have hki : (k : Int) < (q.length : Int) := by omega
      obtain ⟨y, hy⟩ : ∃ y, q[k]? = some y := ⟨_, List.getElem?_eq_getElem hlt⟩
      obtain ⟨v, hv⟩ : ∃ v, s[k]? = some v := ⟨_, List.getElem?_eq_getElem (by rw [Hl.out]; exact hlt)⟩
      obtain ⟨bq, oq, rfl, Y1, Y2⟩ := id_at hQ hy
      obtain ⟨bs, os, rfl, V1⟩ := int_at hS hv
      have he := @ideq_iff y ⟨x1, x2⟩
      by_cases hyx : y = ⟨x1, x2⟩
      · have hvo : v = ov := by
          rw [Hov.out, Hsz.out k y v hy hv, hyx]
          unfold ofI
          rw [if_pos (by rw [← hyx]; exact List.mem_of_getElem? hy)]
        have he2 : ideq y.machine y.serial x1 x2 = true := he.trans (decide_eq_true hyx)
        clear he hyx hy hv
        subst hvo
        obtain ⟨y1, y2⟩ := y
        dsimp only at Y1 Y2 he2
        go_upto_region 4 with fail
        (refine wp_region_after (by kernel_rfl) (by kernel_rfl) ?_
         repeat (any_goals (first | go_big_quiet_skip | (go_big_quiet_want; go_big_quiet_op; first | go_big_quiet_on | go_big_quiet_call (fail)) | quiet_step (fail) | (refine wpQuiet_step (fun K hK => ?_); go_simp; split <;> (refine hK _ ?_; clear hK K))))
         all_goals (refine wpQuiet_nil ?_; intro _ hw'; obtain ⟨u', hw''⟩ := hw'; subst hw''; obtain ⟨wd, hbd⟩ := u'; simp only [After.val_mk]))
        have ld := later hbd
        go_wp2_with fail
        go_ret
        exact ⟨rfl, below_of⟩
      · have hno2 := hide (show ∀ j, j < k + 1 → q[j]? ≠ some ⟨x1, x2⟩ from fun j hj => by
          rcases Nat.lt_or_ge j k with h | h
          · exact hno.out j h
          · have : j = k := by omega
            subst this
            rw [hy]
            exact fun e => hyx (Option.some.inj e))
        have he2 : ideq y.machine y.serial x1 x2 = false := he.trans (decide_eq_false hyx)
        clear he hyx hy hv
        obtain ⟨y1, y2⟩ := y
        dsimp only at Y1 Y2 he2
        go_upto_region 4 with fail
        (refine wp_region_after (by kernel_rfl) (by kernel_rfl) ?_
         repeat (any_goals (first | go_big_quiet_skip | (go_big_quiet_want; go_big_quiet_op; first | go_big_quiet_on | go_big_quiet_call (fail)) | quiet_step (fail) | (refine wpQuiet_step (fun K hK => ?_); go_simp; split <;> (refine hK _ ?_; clear hK K))))
         all_goals (refine wpQuiet_nil ?_; intro _ hw'; obtain ⟨u', hw''⟩ := hw'; subst hw''; obtain ⟨wd, hbd⟩ := u'; simp only [After.val_mk]))
        have ld := later hbd
        go_wp2_with fail
        go_roundw
        case rel => exact ⟨k + 1, by omega, by go_num, hno2, below_of⟩
        case measure => simp [intOf]; omega
    · have hkk : k = q.length := by omega
      have hvo : ov = -1 := by
        rw [Hov.out]
        unfold ofI
        rw [if_neg (fun hm => by
          obtain ⟨j, hj⟩ := List.getElem?_of_mem hm
          exact hno.out j (by rw [hkk]; exact get_lt hj) hj)]
      subst hkk
      subst hvo
      go_wp2_with fail
      go_ret
      exact ⟨rfl, below_of⟩
end Go.Proofs.Ytffnogjgnpbjlaa
