/-
  'SummaryEncodes' returns true for any summary. No condition.
-/
import Derived.Test.YtomgdkfoinojiaaS32OpenS
import Derived.Test.YtomgdkfoinojiaaS32Law10
import Derived.Test.YtomgdkfoinojiaaGrpE
import Derived.WalkKit
import Derived.ProofKit
import Derived.OpenShut
import Derived.ShutString
import Derived.ChangeOld
import Derived.SizedLaws
set_option linter.unusedSimpArgs false
set_option linter.unusedVariables false
namespace Go.Proofs.Ytomgdkfoinojiaa
open Go.ChangeShapes Go.WideShapes Go.ChangeAt Go.RowKit
theorem own : ownKnob Try.prog.godebug = none := by kernel_rfl
theorem laidOut : laidOutB Try.prog = true := by kernel_rfl
theorem inset_rng {y : InsetE} (h : y.wf) : 0 ≤ y.number ∧ y.number < 18446744073709551616 ∧ y.out < 9223372036854775808 := by
  have h1 := wf_u64 h.2.1
  have h2 := wf_i64 h.2.2
  omega
theorem sum_rng {x : SumE} (h : x.wf) : x.con.Rng := by
  obtain ⟨h1, h2, h3, h4⟩ := h
  have := wf_u64 h2
  exact ⟨this.1, by have := this.2; show x.number < _; omega, fun y hy => inset_rng (h4 y hy)⟩
theorem lawEncodes_in (ep : Int) (A : Option Addr) (c : Nat) (l : List SumE) (w : World) (H : SumsAt w A l) (hl : l.length * 48 ≤ 140737488351232) (hn : ∀ n ∈ l, n.inset.length * 24 ≤ 140737488351232 ∧ n.wf) (he : (Lit.int .i64 ep).wf = true) :
    Calls Try.prog 10 #[.agg #[.int .i64 ep, .slice A l.length c]] w fun r w' => r = .returned (.bool true) ∧ Below w.heap.size w w' :=
  lawEncodes_any ep A c l w H (by omega) (fun x hx => by have := (hn x hx).1; omega) (by have := wf_i64 he; omega) (fun x hx => sum_rng (hn x hx).2)
set_option maxRecDepth 100000 in
theorem summaryEncodes_lifted (os : Os) (started : os.Started) (H : Type) (enc : TypeId × Value → H) :
    ReturnsInHanded {} Try.checked os 10 .any (Rows.summaryEncodesSpec.pre6 enc Try.prog Try.f10 Rows.summaryEncodesRow.domain false) (Rows.summaryEncodesSpec.post enc Try.prog Try.f10 false true false false) := by
  refine returnsInHanded_of_change_sized (C := Try.checked) own started (by kernel_rfl) Try.func10
    (ChangeSpec.witness6 (enc := enc) (C := Try.checked) false ⟨#[], #[.agg #[.int .i64 0, .slice none 0 0]], []⟩ 8 (by kernel_rfl) (by kernel_rfl) (by kernel_rfl) (by kernel_rfl)) ?_
  intro W base args ds gs before hval0 hW _ hsz0 _
  have hsz : (DataW.weightsEach Try.prog (Try.f10.params.toList ++ Rows.summaryEncodesSpec.plain.varTypes Try.prog) (ds ++ gs)).all (· ≤ reachBytes) = true := hsz0
  clear hsz0
  have hval : ∀ (j : Nat) t v, Try.f10.params[j]? = some t → args[j]? = some v → Value.okWide Try.prog W .any base t v := hval0
  have hW' := hW
  obtain ⟨p, q, hA0, hV, rfl, _, _⟩ := hW
  have hA : DataW.TrodAll enc Try.prog W 0 (fun _ => true) true Try.f10.params.toList args.toList ds p := hA0
  rw [Try.params10] at hA hval hsz
  obtain ⟨v0, vs0, d0, ds0, p0, q0, hargs, rfl, rfl, h0, r0⟩ := trodAll_cons hA
  obtain ⟨rfl, rfl, rfl⟩ := trodAll_nil r0
  obtain rfl : args = #[v0] := by cases args; simp_all
  obtain ⟨rfl, rfl⟩ := trodVars_none hV
  have hwt : ∀ (j : Nat) t d, [34][j]? = some t → [d0][j]? = some d → ∀ n ∈ DataW.weights Try.prog t d, n ≤ reachBytes := fun j t d ht hd n hn => by
    have := List.all_eq_true.1 hsz n (DataW.weights_mem_each (j := j) ht hd n hn)
    simpa using this
  have k0 := h0
  have lt0 : ∀ x ∈ p0, x.block < W.heap.size := by obtain ⟨m, hm⟩ := k0; exact DataW.trod_lt m _ _ _ hm
  obtain ⟨ep, A, c, l, rfl, H⟩ := open_summary (hval 0 34 v0 rfl rfl) h0 (hwt 0 _ _ rfl rfl)
  clear hA0 hval0
  refine (lawEncodes_in ep A c l W H.1 H.2.1 H.2.2.1 H.2.2.2.1).mono fun e W' ⟨he, bel⟩ => ?_
  subst he
  exact ⟨_, rfl, _, _, _, [], _, [], hW', trodAll_mk1 (shut_bool Try.underlying4 _), (trodAll_cons_mk (Below.trod laidOut (by kernel_rfl) (of_decide_eq_true (by kernel_rfl)) k0 bel lt0) trodAll_mk0), rfl, bel.frame _, fun h => by cases h⟩
theorem summaryEncodes_holds : Rows.SummaryEncodesSaid :=
  OpenClaim.holds_of_wide 10 Try.f10 rfl rfl rfl rfl rfl rfl rfl ⟨rfl, rfl, rfl, rfl, rfl⟩ rfl rfl rfl rfl rfl (by kernel_rfl) Try.func10 (by kernel_rfl)
    (of_decide_eq_true (by kernel_rfl)) (by unfold Func.isWrapper; first | (rw [if_pos (by decide +kernel)]; kernel_rfl) | (rw [if_neg (by decide +kernel)]; exact ⟨rfl, rfl⟩))
    (fun os started H enc _ => summaryEncodes_lifted os started H enc)
#print axioms summaryEncodes_holds
end Go.Proofs.Ytomgdkfoinojiaa
