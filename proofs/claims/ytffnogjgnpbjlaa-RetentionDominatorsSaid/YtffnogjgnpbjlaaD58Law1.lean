/-
  The law RetentionDominators. Conditions stand in the theorem.
-/
import Derived.Test.YtffnogjgnpbjlaaD58Law0
set_option linter.unusedSimpArgs false
set_option linter.unusedVariables false
namespace Go.Proofs.Ytffnogjgnpbjlaa
open Go.RowKit
attribute [local go_sem] Oper.semAt_some
attribute [local simp] heap_drew
set_option maxRecDepth 100000 in
set_option maxHeartbeats 4000000 in
theorem lawDoms_any (A : Option Addr) (c : Nat) (l : List NodeE) (RA : Option Addr) (rc : Nat) (roots : List IDE) (w : World) (H : GraphIn w A c l) (hR : SlAt IDE.cells 2 w RA roots) :
    Calls Try.prog 3 #[.agg #[.slice A l.length c], .slice RA roots.length rc] w fun r w' => r = .returned (.bool true) ∧ Below w.heap.size w w' := by
  have HG : ∀ u [Later w u], Calls Try.prog 11 #[.agg #[.slice A l.length c], .slice RA roots.length rc] u fun r w' => r = .returned (.bool (lrgB l roots)) ∧ Below u.heap.size u w' := fun u i => large_any A c l RA rc roots u ⟨H.at_.below i.below, H.len, H.fields⟩
  cases hlg : lrgB l roots with
  | true =>
    simp only [hlg] at HG
    go_enter Try.func3, Try.ntmps3
    go_upto_region 1 with fail
    refine wp_name ?_
    intro w1 hw1
    obtain ⟨B0, l1⟩ := box1 hw1
    clear hw1
    go_wp2_with (first | (go_at_call 10; refine (awake_any _).mono ?_; rintro r w2 ⟨rfl, hb2⟩; have l2 := later hb2) | (go_at_call 11; refine (HG _).mono ?_; rintro r w3 ⟨rfl, hb3⟩; have l3 := later hb3))
    go_ret
    exact ⟨rfl, below_of⟩
  | false =>
    simp only [hlg] at HG
    obtain ⟨hl, hf, hr⟩ := lrgB_no hlg
    have HD : ∀ u [Later w u], Calls Try.prog 12 #[.agg #[.slice A l.length c], .slice RA roots.length rc] u (DomP (conL l) roots u) := fun u i => doms_any A c l RA rc roots u (H.at_.below i.below) (hR.below i.below) (by omega) hf (by omega)
    have HF : (∃ ids0 d0, TreeOk (conL l) roots ids0 d0) → ∀ u [Later w u], Calls Try.prog 13 #[.agg #[.slice A l.length c], .slice RA roots.length rc] u (DomP (conL l) roots u) := fun ⟨ids0, d0, T⟩ u i => refDoms_any A c l RA rc roots u (H.at_.below i.below) (hR.below i.below) (by omega) hf (by omega) T
    clear hlg
    go_enter Try.func3, Try.ntmps3
    go_upto_region 1 with fail
    refine wp_name ?_
    intro w1 hw1
    obtain ⟨B0, l1⟩ := box1 hw1
    clear hw1
    go_upto_region 5 with (first | (go_at_call 10; refine (awake_any _).mono ?_; rintro r w2 ⟨rfl, hb2⟩; have l2 := later hb2) | (go_at_call 11; refine (HG _).mono ?_; rintro r w3 ⟨rfl, hb3⟩; have l3 := later hb3))
    go_upto_region 6 with (go_at_call 12; refine (HD _).mono ?_; intro r w4 hh; obtain ⟨q, z, QA, QC, ZA, ZC, rfl, hq, hoq, hoz, hb4⟩ := hh; have l4 := later hb4)
    have HF' := HF hq.out.2.2
    go_upto_region 7 with (go_at_call 13; refine (HF' _).mono ?_; intro r w5 hh; obtain ⟨q', z', QA', QC', ZA', ZC', rfl, hq', hoq', hoz', hb5⟩ := hh; have l5 := later hb5)
    have hql := reachL_len hq.out.1 hl
    have hzl : z.length ≤ 100 := by rw [hq.out.2.1.1]; exact hql
    have heq : q = q' := reachL_same hq.out.1 hq'.out.1
    have hzz : z = z' := by
      obtain ⟨ids0, d0, T⟩ := hq.out.2.2
      exact hq.out.2.1.unique T (by rw [heq]; exact hq'.out.2.1)
    have hzq : z.length = q.length := hq.out.2.1.1
    have hzq' : z'.length = q'.length := hq'.out.2.1.1
    have HS1 : ∀ u [Later w5 u], Calls Try.prog 14 #[.slice QA q.length QC, .slice QA' q'.length QC'] u fun r w' => r = .returned (.bool true) ∧ Below u.heap.size u w' := fun u i => same21_true (((hoq.below (l5 w4).below).below i.below).at_ IDE.enc).2.2 ((hoq'.below i.below).at_ IDE.enc).2.2 (by omega) heq
    have HS2 : ∀ u [Later w5 u], Calls Try.prog 14 #[.slice ZA q.length ZC, .slice ZA' q'.length ZC'] u fun r w' => r = .returned (.bool true) ∧ Below u.heap.size u w' := fun u i => by
      rw [← hzq, ← hzq']
      rw [← hzq] at hoz
      rw [← hzq'] at hoz'
      exact same21_true (((hoz.below (l5 w4).below).below i.below).at_ IDE.enc).2.2 ((hoz'.below i.below).at_ IDE.enc).2.2 (by omega) hzz
    clear heq hzz hzq hzq' HG HD HF HF'
    go_wp2_with (first | (go_at_call_has 14 (Value.slice QA q.length QC); refine (HS1 _).mono ?_; rintro r w6 ⟨rfl, hb6⟩; have l6 := later hb6) | (go_at_call_has 14 (Value.slice ZA q.length ZC); refine (HS2 _).mono ?_; rintro r w7 ⟨rfl, hb7⟩; have l7 := later hb7))
    go_ret
    exact ⟨rfl, below_of⟩
end Go.Proofs.Ytffnogjgnpbjlaa
