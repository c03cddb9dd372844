/-
  Steps that were spoilt pass no check: plain Lean. Conditions stand in each theorem.
-/
import Derived.Test.YtpkfenlfgdbkcaaGreatDoorP59NearPlain
import Derived.Test.YtpkfenlfgdbkcaaGreatDoorGrp43
set_option linter.unusedSimpArgs false
set_option linter.unusedVariables false
namespace Go.Proofs.YtpkfenlfgdbkcaaGreatDoor
theorem chain_fld {V : List ViewE} {G : List NodeC} (hG : ∀ n ∈ G, n.fields.length ≤ 30) : ∀ {P : List StepE}, chainB V G P = true → ∀ s ∈ P, s.field = -1 ∨ (0 ≤ s.field ∧ s.field < 30)
  | [], _, _, hs => by cases hs
  | [s], h, x, hs => by
    rw [List.mem_singleton.1 hs]
    unfold chainB at h
    rw [Bool.and_eq_true] at h
    exact .inl (of_decide_eq_true h.2)
  | s :: t :: l, h, x, hs => by
    unfold chainB at h
    rw [Bool.and_eq_true] at h
    obtain ⟨h1, h2⟩ := h
    replace h2 : (linkB G s t.id && chainB V G (t :: l)) = true := h2
    rw [Bool.and_eq_true] at h2
    rcases List.mem_cons.1 hs with rfl | hs
    · have h3 := h2.1
      unfold linkB at h3
      simp only [Bool.and_eq_true] at h3
      have h4 := of_decide_eq_true h3.1.2
      have h5 : ((firstN G x.id).getD zeroC).fields.length ≤ 30 := by
        cases hf : firstN G x.id with
        | none => exact Nat.zero_le _
        | some n => exact hG n (firstN_some hf).1
      exact .inr ⟨h4.1, by omega⟩
    · exact chain_fld hG h2.2 x hs
theorem check_head {V : List ViewE} {P : List StepE} (h : checkB V P = true) {s : StepE} (hs : s ∈ P) : headB V (graphV V).1 s = true ∧ (s.field = -1 ∨ (0 ≤ s.field ∧ s.field < 30)) := by
  unfold checkB at h
  simp only [Bool.and_eq_true] at h
  exact ⟨(chain_all (fun n hn => Nat.le_trans (graph_fields hn) (by omega)) h.2 s hs).1, chain_fld (fun n hn => graph_fields hn) h.2 s hs⟩
theorem check_no {V : List ViewE} {P : List StepE} {s : StepE} (hs : s ∈ P) (h : headB V (graphV V).1 s = false) : checkB V P = false := by
  cases hc : checkB V P
  · rfl
  · rw [(check_head hc hs).1] at h; cases h
theorem set_mem {α : Type} {l : List α} {i : Nat} {x y : α} (h : l[i]? = some x) : y ∈ l.set i y := by
  have := (List.getElem?_eq_some_iff.1 h).1
  exact List.mem_of_getElem? (i := i) (by rw [List.getElem?_set_self this])
theorem wrap_ne (m : Int) : IntKind.i64.wrap (m + 1) ≠ m := by
  rw [IntKind.wrap_i64]; omega
theorem spoil_machine {V : List ViewE} {P : List StepE} {i : Nat} {s : StepE} (hs : P[i]? = some s) (h : checkB V P = true) : checkB V (P.set i { s with machine := IntKind.i64.wrap (s.machine + 1) }) = false := by
  have h1 := (check_head h (List.mem_of_getElem? hs)).1
  refine check_no (set_mem hs) ?_
  unfold headB at h1 ⊢
  rw [Bool.and_eq_true] at h1
  have h2 := of_decide_eq_true h1.2
  show (_ && decide ((homeV V s.id).1 = IntKind.i64.wrap (s.machine + 1))) = false
  rw [decide_eq_false (by rw [h2]; exact fun e => wrap_ne _ e.symm), Bool.and_false]
theorem spoil_field {V : List ViewE} {P : List StepE} {i : Nat} {s : StepE} (hs : P[i]? = some s) (h : checkB V P = true) : checkB V (P.set i { s with field := IntKind.i64.wrap (s.field + 100) }) = false := by
  have h1 := (check_head h (List.mem_of_getElem? hs)).2
  cases hc : checkB V (P.set i { s with field := IntKind.i64.wrap (s.field + 100) })
  · rfl
  · have h2 := (check_head hc (set_mem hs)).2
    simp only [IntKind.wrap_i64] at h2
    omega
theorem spoil_id {V : List ViewE} {P : List StepE} {i : Nat} {s : StepE} {x : IDE} (hs : P[i]? = some s) (hx : (firstN (graphV V).1 x).isSome = false) : checkB V (P.set i { s with iDMachine := x.machine, iDSerial := x.serial }) = false := by
  refine check_no (set_mem hs) ?_
  unfold headB
  rw [show StepE.id { s with iDMachine := x.machine, iDSerial := x.serial } = x from rfl, hx]
  rfl
theorem check_nil {V : List ViewE} : checkB V [] = false := by unfold checkB; simp
theorem spoil_root {V : List ViewE} {P : List StepE} {s : StepE} (hs : P[0]? = some s) (h : s.id ∉ rootsV V) : checkB V P = false := by
  cases P with
  | nil => cases hs
  | cons a l =>
    injection hs with hs
    subst hs
    unfold checkB
    show ((_ && decide (a.id ∈ rootsV V)) && _) = false
    rw [decide_eq_false h]
    simp
theorem format_no {V : List ViewE} {P : List StepE} (h : checkB V P = false) : formatV V P = [] := by unfold formatV; rw [h]; rfl
theorem path_err {V : List ViewE} {id : IDE} (h : (pathV V id).2 ≠ 0) : (pathV V id).1.length = 0 := by
  by_cases hn : (pathV V id).1 = []
  · rw [hn]; rfl
  · obtain ⟨hg, l, hl⟩ := pathV_inv (V := V) (id := id) (.inl hn)
    rw [(pathV_some hg hl).1] at h
    exact absurd rfl h
end Go.Proofs.YtpkfenlfgdbkcaaGreatDoor
