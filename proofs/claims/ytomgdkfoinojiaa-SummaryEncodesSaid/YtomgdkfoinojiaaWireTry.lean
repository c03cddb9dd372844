/-
  Contracts of the functions of this seat that each theorem names: what a call returns, and that it writes nothing that was there before. The conditions stand in each theorem.
-/
import Derived.Test.YtomgdkfoinojiaaGrpC
import Derived.Laws.ByValue
set_option linter.unusedSimpArgs false
set_option linter.unusedVariables false
namespace Go.Proofs.Ytomgdkfoinojiaa
open Go.RowKit
section
variable {g : Nat} {w : World} {cl : FuncId} {caps : Array Value} {Q : World → Prop} {bv : Value}
set_option maxHeartbeats 1000000 in
theorem try_not (fv : Value) (e : Int) (he : e ≠ 0) (hg : w.heap[g]? = some (.cells #[bv, .int .i64 e] 135 (0, 0))) :
    Calls Try.prog 83 #[.pointer (some ⟨g, 0, none⟩), fv] w fun r w' => r = .returned (.bool false) ∧ Below w.heap.size w w' := by
  have BG := boxed hg
  have he' : (e != 0) = true := by simp [he]
  go_enter Try.func83, Try.ntmps83
  go_wp2_with fail
  go_ret
  exact ⟨rfl, below_of⟩
end
set_option maxHeartbeats 1000000 in
theorem tryU_ok {g : Nat} {w : World} {Q : World → Prop} {bv : Value} (v1 v2 : Value) (hg : w.heap[g]? = some (.cells #[bv, .int .i64 0] 135 (0, 0))) (HC : Calls Try.prog 84 #[v1, v2] w fun r w' => r = .returned (.int .i64 0) ∧ Q w') (hQ : ∀ w', Q w' → ∃ v, w'.heap[g]? = some (.cells #[v, .int .i64 0] 135 (0, 0))) :
    Calls Try.prog 83 #[.pointer (some ⟨g, 0, none⟩), .func (.func 84) #[] #[v1, v2]] w fun r w' => r = .returned (.bool true) ∧ ∃ w1, Q w1 ∧ Only (fun k => k = g) w1 w' ∧ w'.heap[g]? = w1.heap[g]? := by
  have BG := boxed hg
  go_enter Try.func83, Try.ntmps83
  go_wp2_with (go_at_call 84; refine HC.mono ?_)
  rintro r w1 ⟨rfl, hq⟩
  obtain ⟨v, hv⟩ := hQ w1 hq
  have BV := boxed hv
  go_upto_region 4 with fail
  refine wp_name ?_
  intro w2 hw2
  have B2 := boxed_set BV hw2
  go_wp2_with fail
  go_ret
  exact ⟨rfl, w1, hq, by rw [← hw2]; exact Only.setCell (s := fun k => k = g) (p := ⟨g, 1, none⟩) Only.refl (.inl rfl) _, by rw [hv]; exact (B2 w2).1.trans rfl⟩
set_option maxHeartbeats 1000000 in
theorem tryU_bad {g : Nat} {w : World} {Q : World → Prop} {bv : Value} {x : Int} (hx : x ≠ 0) (v1 v2 : Value) (hg : w.heap[g]? = some (.cells #[bv, .int .i64 0] 135 (0, 0))) (HC : Calls Try.prog 84 #[v1, v2] w fun r w' => r = .returned (.int .i64 x) ∧ Q w') (hQ : ∀ w', Q w' → ∃ v, w'.heap[g]? = some (.cells #[v, .int .i64 0] 135 (0, 0))) :
    Calls Try.prog 83 #[.pointer (some ⟨g, 0, none⟩), .func (.func 84) #[] #[v1, v2]] w fun r w' => r = .returned (.bool false) ∧ ∃ w1, Q w1 ∧ Only (fun k => k = g) w1 w' ∧ w'.heap[g]? = some (.cells #[.slice none 0 0, .int .i64 x] 135 (0, 0)) := by
  have BG := boxed hg
  have hx' : (x != 0) = true := by simp [hx]
  have hx2 : (x == 0) = false := by simp [hx]
  go_enter Try.func83, Try.ntmps83
  go_wp2_with (go_at_call 84; refine HC.mono ?_)
  rintro r w1 ⟨rfl, hq⟩
  obtain ⟨v, hv⟩ := hQ w1 hq
  have BV := boxed hv
  go_upto_region 4 with fail
  refine wp_name ?_
  intro w2 hw2
  have B2 := boxed_set BV hw2
  go_upto_region 6 with fail
  refine wp_name ?_
  intro w3 hw3
  have B3 := boxed_set B2 hw3
  go_wp2_with fail
  go_ret
  exact ⟨rfl, w1, hq, by rw [← hw3, ← hw2]; exact Only.setCell (s := fun k => k = g) (p := ⟨g, 0, none⟩) (Only.setCell (s := fun k => k = g) (p := ⟨g, 1, none⟩) Only.refl (.inl rfl) _) (.inl rfl) _, (B3 w3).1.trans rfl⟩
set_option maxHeartbeats 1000000 in
theorem tryB_ok {g : Nat} {w : World} {Q : World → Prop} {bv : Value} (v1 v2 : Value) (hg : w.heap[g]? = some (.cells #[bv, .int .i64 0] 135 (0, 0))) (HC : Calls Try.prog 86 #[v1, v2] w fun r w' => r = .returned (.int .i64 0) ∧ Q w') (hQ : ∀ w', Q w' → ∃ v, w'.heap[g]? = some (.cells #[v, .int .i64 0] 135 (0, 0))) :
    Calls Try.prog 83 #[.pointer (some ⟨g, 0, none⟩), .func (.func 86) #[] #[v1, v2]] w fun r w' => r = .returned (.bool true) ∧ ∃ w1, Q w1 ∧ Only (fun k => k = g) w1 w' ∧ w'.heap[g]? = w1.heap[g]? := by
  have BG := boxed hg
  go_enter Try.func83, Try.ntmps83
  go_wp2_with (go_at_call 86; refine HC.mono ?_)
  rintro r w1 ⟨rfl, hq⟩
  obtain ⟨v, hv⟩ := hQ w1 hq
  have BV := boxed hv
  go_upto_region 4 with fail
  refine wp_name ?_
  intro w2 hw2
  have B2 := boxed_set BV hw2
  go_wp2_with fail
  go_ret
  exact ⟨rfl, w1, hq, by rw [← hw2]; exact Only.setCell (s := fun k => k = g) (p := ⟨g, 1, none⟩) Only.refl (.inl rfl) _, by rw [hv]; exact (B2 w2).1.trans rfl⟩
set_option maxHeartbeats 1000000 in
theorem tryB_bad {g : Nat} {w : World} {Q : World → Prop} {bv : Value} {x : Int} (hx : x ≠ 0) (v1 v2 : Value) (hg : w.heap[g]? = some (.cells #[bv, .int .i64 0] 135 (0, 0))) (HC : Calls Try.prog 86 #[v1, v2] w fun r w' => r = .returned (.int .i64 x) ∧ Q w') (hQ : ∀ w', Q w' → ∃ v, w'.heap[g]? = some (.cells #[v, .int .i64 0] 135 (0, 0))) :
    Calls Try.prog 83 #[.pointer (some ⟨g, 0, none⟩), .func (.func 86) #[] #[v1, v2]] w fun r w' => r = .returned (.bool false) ∧ ∃ w1, Q w1 ∧ Only (fun k => k = g) w1 w' ∧ w'.heap[g]? = some (.cells #[.slice none 0 0, .int .i64 x] 135 (0, 0)) := by
  have BG := boxed hg
  have hx' : (x != 0) = true := by simp [hx]
  have hx2 : (x == 0) = false := by simp [hx]
  go_enter Try.func83, Try.ntmps83
  go_wp2_with (go_at_call 86; refine HC.mono ?_)
  rintro r w1 ⟨rfl, hq⟩
  obtain ⟨v, hv⟩ := hQ w1 hq
  have BV := boxed hv
  go_upto_region 4 with fail
  refine wp_name ?_
  intro w2 hw2
  have B2 := boxed_set BV hw2
  go_upto_region 6 with fail
  refine wp_name ?_
  intro w3 hw3
  have B3 := boxed_set B2 hw3
  go_wp2_with fail
  go_ret
  exact ⟨rfl, w1, hq, by rw [← hw3, ← hw2]; exact Only.setCell (s := fun k => k = g) (p := ⟨g, 0, none⟩) (Only.setCell (s := fun k => k = g) (p := ⟨g, 1, none⟩) Only.refl (.inl rfl) _) (.inl rfl) _, (B3 w3).1.trans rfl⟩
set_option maxHeartbeats 1000000 in
theorem tryC_ok {g : Nat} {w : World} {Q : World → Prop} {bv : Value} (v1 v2 v3 : Value) (hg : w.heap[g]? = some (.cells #[bv, .int .i64 0] 135 (0, 0))) (HC : Calls Try.prog 85 #[v1, v2, v3] w fun r w' => r = .returned (.int .i64 0) ∧ Q w') (hQ : ∀ w', Q w' → ∃ v, w'.heap[g]? = some (.cells #[v, .int .i64 0] 135 (0, 0))) :
    Calls Try.prog 83 #[.pointer (some ⟨g, 0, none⟩), .func (.func 85) #[] #[v1, v2, v3]] w fun r w' => r = .returned (.bool true) ∧ ∃ w1, Q w1 ∧ Only (fun k => k = g) w1 w' ∧ w'.heap[g]? = w1.heap[g]? := by
  have BG := boxed hg
  go_enter Try.func83, Try.ntmps83
  go_wp2_with (go_at_call 85; refine HC.mono ?_)
  rintro r w1 ⟨rfl, hq⟩
  obtain ⟨v, hv⟩ := hQ w1 hq
  have BV := boxed hv
  go_upto_region 4 with fail
  refine wp_name ?_
  intro w2 hw2
  have B2 := boxed_set BV hw2
  go_wp2_with fail
  go_ret
  exact ⟨rfl, w1, hq, by rw [← hw2]; exact Only.setCell (s := fun k => k = g) (p := ⟨g, 1, none⟩) Only.refl (.inl rfl) _, by rw [hv]; exact (B2 w2).1.trans rfl⟩
set_option maxHeartbeats 1000000 in
theorem tryC_bad {g : Nat} {w : World} {Q : World → Prop} {bv : Value} {x : Int} (hx : x ≠ 0) (v1 v2 v3 : Value) (hg : w.heap[g]? = some (.cells #[bv, .int .i64 0] 135 (0, 0))) (HC : Calls Try.prog 85 #[v1, v2, v3] w fun r w' => r = .returned (.int .i64 x) ∧ Q w') (hQ : ∀ w', Q w' → ∃ v, w'.heap[g]? = some (.cells #[v, .int .i64 0] 135 (0, 0))) :
    Calls Try.prog 83 #[.pointer (some ⟨g, 0, none⟩), .func (.func 85) #[] #[v1, v2, v3]] w fun r w' => r = .returned (.bool false) ∧ ∃ w1, Q w1 ∧ Only (fun k => k = g) w1 w' ∧ w'.heap[g]? = some (.cells #[.slice none 0 0, .int .i64 x] 135 (0, 0)) := by
  have BG := boxed hg
  have hx' : (x != 0) = true := by simp [hx]
  have hx2 : (x == 0) = false := by simp [hx]
  go_enter Try.func83, Try.ntmps83
  go_wp2_with (go_at_call 85; refine HC.mono ?_)
  rintro r w1 ⟨rfl, hq⟩
  obtain ⟨v, hv⟩ := hQ w1 hq
  have BV := boxed hv
  go_upto_region 4 with fail
  refine wp_name ?_
  intro w2 hw2
  have B2 := boxed_set BV hw2
  go_upto_region 6 with fail
  refine wp_name ?_
  intro w3 hw3
  have B3 := boxed_set B2 hw3
  go_wp2_with fail
  go_ret
  exact ⟨rfl, w1, hq, by rw [← hw3, ← hw2]; exact Only.setCell (s := fun k => k = g) (p := ⟨g, 0, none⟩) (Only.setCell (s := fun k => k = g) (p := ⟨g, 1, none⟩) Only.refl (.inl rfl) _) (.inl rfl) _, (B3 w3).1.trans rfl⟩
end Go.Proofs.Ytomgdkfoinojiaa
