/-
  Chapter 58: large and nameless; what came in. Conditions stand in each theorem.
-/
import Derived.Test.YtffnogjgnpbjlaaD58Awk3
import Derived.Test.YtffnogjgnpbjlaaGrp12
import Derived.Test.YtffnogjgnpbjlaaD58RefD
set_option linter.unusedSimpArgs false
set_option linter.unusedVariables false
namespace Go.Proofs.Ytffnogjgnpbjlaa
open Go.RowKit
attribute [local go_sem] Oper.semAt_some
attribute [local simp] heap_drew
/-- A graph that came in. -/
structure GraphIn (w : World) (A : Option Addr) (c : Nat) (l : List NodeE) : Prop where
  at_ : NodesAt w A l
  len : l.length ≤ 1000000000000000
  fields : ∀ n ∈ l, n.fields.length ≤ 1000000000000000
theorem few_bounds {l : List NodeE} {m : Nat} (h : l.length + fieldsN (conL l) ≤ m) : l.length ≤ m ∧ ∀ n ∈ l, n.fields.length ≤ m := by
  refine ⟨by omega, fun n hn => ?_⟩
  have : (n.con).fields.length ≤ fieldsN (conL l) := fieldsN_le (List.mem_map_of_mem hn)
  have h2 : n.con.fields.length = n.fields.length := rfl
  omega
/-- Whether a graph or the roots are too large. -/
def lrgB (l : List NodeE) (roots : List IDE) : Bool := !decide (l.length + fieldsN (conL l) ≤ 100) || decide (30 < roots.length)
theorem lrgB_no {l : List NodeE} {roots : List IDE} (h : lrgB l roots = false) : l.length ≤ 100 ∧ (∀ n ∈ l, n.fields.length ≤ 10000) ∧ roots.length ≤ 30 := by
  unfold lrgB at h
  rw [Bool.or_eq_false_iff] at h
  have h1 : l.length + fieldsN (conL l) ≤ 100 := by simpa using h.1
  have h2 : ¬ 30 < roots.length := of_decide_eq_false h.2
  obtain ⟨h3, h4⟩ := few_bounds h1
  exact ⟨h3, fun n hn => Nat.le_trans (h4 n hn) (by omega), by omega⟩
set_option maxRecDepth 100000 in
set_option maxHeartbeats 2000000 in
theorem large_any (A : Option Addr) (c : Nat) (l : List NodeE) (RA : Option Addr) (rc : Nat) (roots : List IDE) (w : World) (H : GraphIn w A c l) :
    Calls Try.prog 11 #[.agg #[.slice A l.length c], .slice RA roots.length rc] w fun r w' => r = .returned (.bool (lrgB l roots)) ∧ Below w.heap.size w w' := by
  have HF : ∀ u [Later w u], Calls Try.prog 33 #[.agg #[.slice A l.length c], .int .i64 100] u fun r w' => r = .returned (.bool (decide (l.length + fieldsN (conL l) ≤ 100))) ∧ Below u.heap.size u w' := fun u i => few_any A c l 100 u (H.at_.below i.below) H.len H.fields (by omega)
  obtain ⟨V, hV⟩ : ∃ V, V = lrgB l roots := ⟨_, rfl⟩
  rw [← hV]
  have HV := hide hV
  clear hV
  cases hfew : decide (l.length + fieldsN (conL l) ≤ 100) with
  | false =>
    simp only [hfew] at HF
    have hv := hide (show V = true by rw [HV.out]; unfold lrgB; rw [hfew]; rfl)
    clear hfew
    go_enter Try.func11, Try.ntmps11
    go_upto_region 1 with fail
    refine wp_name ?_
    intro w1 hw1
    obtain ⟨B0, l1⟩ := box1 hw1
    clear hw1
    go_wp2_with (go_at_call 33; refine (HF _).mono ?_; rintro r w2 ⟨rfl, hb2⟩; have l2 := later hb2)
    go_ret
    exact ⟨ret_bool (by rw [hv.out]), below_of⟩
  | true =>
    simp only [hfew] at HF
    have hv := hide (show V = decide ((30 : Int) < (roots.length : Int)) by
      rw [HV.out]; unfold lrgB; rw [hfew]
      simp only [Bool.not_true, Bool.false_or]
      rw [Bool.eq_iff_iff, decide_eq_true_iff, decide_eq_true_iff]; omega)
    clear hfew
    go_enter Try.func11, Try.ntmps11
    go_upto_region 1 with fail
    refine wp_name ?_
    intro w1 hw1
    obtain ⟨B0, l1⟩ := box1 hw1
    clear hw1
    go_wp2_with (go_at_call 33; refine (HF _).mono ?_; rintro r w2 ⟨rfl, hb2⟩; have l2 := later hb2)
    go_ret
    exact ⟨ret_bool (by rw [hv.out]), below_of⟩
theorem same21_true {aA : Option Addr} {aC : Nat} {a : List IDE} {bA : Option Addr} {bC : Nat} {b : List IDE} {w : World} (ha : SlAt IDE.cells 2 w aA a) (hb : SlAt IDE.cells 2 w bA b) (hal : a.length ≤ 1000000) (h : a = b) :
    Calls Try.prog 14 #[.slice aA a.length aC, .slice bA b.length bC] w fun r w' => r = .returned (.bool true) ∧ Below w.heap.size w w' :=
  (same21_any aA aC a bA bC b w ha hb (by omega) (by rw [← h]; omega)).mono fun r w' ⟨q, hr, hq, hb⟩ => ⟨by rw [hr, hq.2 h], hb⟩
theorem ints06_true {aA : Option Addr} {aC : Nat} {a : List Int} {bA : Option Addr} {bC : Nat} {b : List Int} {w : World} (ha : SlAt I64.cells 1 w aA a) (hb : SlAt I64.cells 1 w bA b) (hal : a.length ≤ 1000000) (h : a = b) :
    Calls Try.prog 17 #[.slice aA a.length aC, .slice bA b.length bC] w fun r w' => r = .returned (.bool true) ∧ Below w.heap.size w w' :=
  (ints06_any aA aC a bA bC b w ha hb (by omega) (by rw [← h]; omega)).mono fun r w' ⟨q, hr, hq, hb⟩ => ⟨by rw [hr, hq.2 h], hb⟩
theorem reachL_len {l : List NodeE} {roots q : List IDE} (h : ReachL (conL l) roots q) (hl : l.length ≤ 100) : q.length ≤ 100 := by
  have e1 := reach_len (l := conL l) h.1.nodup (fun x hx => firstN_ids.1 ((h.2 x).1 hx).node)
  have e2 : (conL l).length = l.length := by unfold conL; rw [List.length_map]
  omega
theorem reachL_same {L : List NodeC} {roots q q' : List IDE} (h : ReachL L roots q) (h' : ReachL L roots q') : q = q' := sortedI_unique h.1 h'.1 fun x => (h.2 x).trans (h'.2 x).symm
end Go.Proofs.Ytffnogjgnpbjlaa
