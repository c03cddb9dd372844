/-
  The law RetentionSizes. Conditions stand in the theorem.
-/
import Derived.Test.YtffnogjgnpbjlaaD58Law0
set_option linter.unusedSimpArgs false
set_option linter.unusedVariables false
namespace Go.Proofs.Ytffnogjgnpbjlaa
open Go.RowKit
attribute [local go_sem] Oper.semAt_some
attribute [local simp] heap_drew
set_option maxRecDepth 100000 in
set_option maxHeartbeats 4000000 in
theorem lawSizes_any (A : Option Addr) (c : Nat) (l : List NodeE) (n : Int) (RA : Option Addr) (rc : Nat) (roots : List IDE) (w : World) (H : GraphIn w A c l) (hR : SlAt IDE.cells 2 w RA roots) :
    Calls Try.prog 4 #[.agg #[.slice A l.length c], .int .i64 n, .slice RA roots.length rc] w fun r w' => r = .returned (.bool true) ∧ Below w.heap.size w w' := by
  have HG : ∀ u [Later w u], Calls Try.prog 11 #[.agg #[.slice A l.length c], .slice RA roots.length rc] u fun r w' => r = .returned (.bool (lrgB l roots)) ∧ Below u.heap.size u w' := fun u i => large_any A c l RA rc roots u ⟨H.at_.below i.below, H.len, H.fields⟩
  cases hlg : lrgB l roots with
  | true =>
    simp only [hlg] at HG
    go_enter Try.func4, Try.ntmps4
    go_upto_region 1 with fail
    refine wp_name ?_
    intro w1 hw1
    obtain ⟨B0, l1⟩ := box1 hw1
    clear hw1
    go_wp2_with (first | (go_at_call 10; refine (awake_any _).mono ?_; rintro r w2 ⟨rfl, hb2⟩; have l2 := later hb2) | (go_at_call 11; refine (HG _).mono ?_; rintro r w3 ⟨rfl, hb3⟩; have l3 := later hb3))
    go_ret
    exact ⟨rfl, below_of⟩
  | false =>
    simp only [hlg] at HG
    obtain ⟨hl, hf, hr⟩ := lrgB_no hlg
    have HD : ∀ u [Later w u], Calls Try.prog 15 #[.agg #[.slice A l.length c], .slice RA roots.length rc] u (SizP (conL l) roots u) := fun u i => sizes_any A c l RA rc roots u (H.at_.below i.below) (hR.below i.below) (by omega) hf (by omega)
    have HF : (∃ ids0 d0, TreeOk (conL l) roots ids0 d0) → ∀ u [Later w u], Calls Try.prog 16 #[.agg #[.slice A l.length c], .slice RA roots.length rc] u (SizP (conL l) roots u) := fun T u i => refSizes_any A c l RA rc roots u (H.at_.below i.below) (hR.below i.below) (by omega) hf (by omega) T
    have HL1 : ∀ u [Later w u], Calls Try.prog 18 #[.agg #[.slice A l.length c], .int .i64 n, .slice RA roots.length rc] u (LarP (conL l) roots n u) := fun u i => larg_any A c l n RA rc roots u (H.at_.below i.below) (hR.below i.below) (by omega) hf (by omega)
    have HL2 : (∃ ids0 d0, TreeOk (conL l) roots ids0 d0) → ∀ u [Later w u], Calls Try.prog 19 #[.agg #[.slice A l.length c], .int .i64 n, .slice RA roots.length rc] u (RefLarP (conL l) roots n u) := fun T u i => refLarg_any A c l n RA rc roots u (H.at_.below i.below) (hR.below i.below) (by omega) hf (by omega) T
    have HW1 : ∀ u [Later w u], Calls Try.prog 20 #[.agg #[.slice A l.length c], .slice RA roots.length rc] u (WorP (conL l) roots u) := fun u i => Words_any A c l RA rc roots u (H.at_.below i.below) (hR.below i.below) (by omega) hf (by omega)
    have HW2 : ∀ u [Later w u], Calls Try.prog 21 #[.agg #[.slice A l.length c], .slice RA roots.length rc] u (WorP (conL l) roots u) := fun u i => refWords_any A c l RA rc roots u (H.at_.below i.below) (hR.below i.below) (by omega) hf (by omega)
    clear hlg
    go_enter Try.func4, Try.ntmps4
    go_upto_region 1 with fail
    refine wp_name ?_
    intro w1 hw1
    obtain ⟨B0, l1⟩ := box1 hw1
    clear hw1
    go_upto_region 5 with (first | (go_at_call 10; refine (awake_any _).mono ?_; rintro r w2 ⟨rfl, hb2⟩; have l2 := later hb2) | (go_at_call 11; refine (HG _).mono ?_; rintro r w3 ⟨rfl, hb3⟩; have l3 := later hb3))
    go_upto_region 6 with (go_at_call 15; refine (HD _).mono ?_; intro r w4 hh; obtain ⟨q, z, QA, QC, ZA, ZC, rfl, hq, hoq, hoz, _, hb4⟩ := hh; have l4 := later hb4)
    have HF' := HF hq.out.2.2
    have HL2' := HL2 hq.out.2.2
    go_upto_region 7 with (go_at_call 16; refine (HF' _).mono ?_; intro r w5 hh; obtain ⟨q', z', QA', QC', ZA', ZC', rfl, hq', hoq', hoz', _, hb5⟩ := hh; have l5 := later hb5)
    have l55 : Later w5 w5 := Later.refl
    have hql := reachL_len hq.out.1 hl
    have hzl : z.length ≤ 100 := by rw [hq.out.2.1.1]; exact hql
    have heq : q = q' := reachL_same hq.out.1 hq'.out.1
    have hzz : z = z' := hq.out.2.1.unique (by rw [heq]; exact hq'.out.2.1)
    have hzq : z.length = q.length := hq.out.2.1.1
    have hzq' : z'.length = q'.length := hq'.out.2.1.1
    have HS1 : ∀ u [Later w5 u], Calls Try.prog 14 #[.slice QA q.length QC, .slice QA' q'.length QC'] u fun r w' => r = .returned (.bool true) ∧ Below u.heap.size u w' := fun u i => same21_true (((hoq.below (l5 w4).below).below i.below).at_ IDE.enc).2.2 ((hoq'.below i.below).at_ IDE.enc).2.2 (by omega) heq
    have HS2 : ∀ u [Later w5 u], Calls Try.prog 17 #[.slice ZA q.length ZC, .slice ZA' q'.length ZC'] u fun r w' => r = .returned (.bool true) ∧ Below u.heap.size u w' := fun u i => by
      rw [← hzq, ← hzq']
      rw [← hzq] at hoz
      rw [← hzq'] at hoz'
      exact ints06_true (((hoz.below (l5 w4).below).below i.below).at_ I64.enc).2.2 ((hoz'.below i.below).at_ I64.enc).2.2 (by omega) hzz
    have hlw : Hid (∀ a b, LarL (conL l) roots n a → RefLarL (conL l) roots n b → a = b ∧ a.length ≤ 100) := hide (fun a b ha hb => ⟨hb.eq ha, by
      rw [hb.eq ha]
      obtain ⟨q2, h2, _, h3⟩ := hb
      have := reachL_len h2 hl
      omega⟩)
    clear heq hzz hzq hzq' HG HD HF HF' HL2 hq hq'
    go_region_held3 (fun w' => ∀ b [Later b w5], Later b w') ((intro b _; infer_instance))
      ((first
        | (go_at_call_has 14 (Value.slice QA q.length QC); refine (HS1 _).mono ?_; rintro r w6 ⟨rfl, hb6⟩; have l6 := later hb6)
        | (go_at_call 17; refine (HS2 _).mono ?_; rintro r w7 ⟨rfl, hb7⟩; have l7 := later hb7)
        | (go_at_call 18; refine (HL1 _).mono ?_; rintro r w8 ⟨o, OA, OC, rfl, ho, hSo, hb8⟩; have l8 := later hb8; have l88 : Later w8 w8 := Later.refl)
        | (go_at_call 19; refine (HL2' _).mono ?_; rintro r w9 ⟨p, PA, PC, rfl, hp, hSp, hb9⟩; have l9 := later hb9; have l99 : Later w9 w9 := Later.refl)
        | (go_at_call_has 14 (Value.slice OA o.length OC); refine (same21_true (hSo.below (show Later w8 _ from inferInstance).below) (hSp.below (show Later w9 _ from inferInstance).below) (by have := (hlw.out o p ho.out.1 hp.out).2; omega) (hlw.out o p ho.out.1 hp.out).1).mono ?_; rintro r w10 ⟨rfl, hb10⟩; have l10 := later hb10)
        | (go_at_call 20; refine (HW1 _).mono ?_; rintro r w11 ⟨s1, rfl, hs1, hb11⟩; have l11 := later hb11)
        | (go_at_call 21; refine (HW2 _).mono ?_; rintro r w12 ⟨s2, rfl, hs2, hb12⟩; have l12 := later hb12; have hse : s2 = s1 := hs2.out.trans hs1.out.symm; subst hse)))
    all_goals go_wp2_with fail
    all_goals go_ret
    all_goals exact ⟨by first | rfl | simp, below_of⟩
end Go.Proofs.Ytffnogjgnpbjlaa
