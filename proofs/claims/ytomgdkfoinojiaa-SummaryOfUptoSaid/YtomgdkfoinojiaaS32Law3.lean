/-
  Contracts of the functions of this seat that each theorem names: what a call returns, and that it writes nothing that was there before. The conditions stand in each theorem.
-/
import Derived.Test.YtomgdkfoinojiaaS32RefSum
import Derived.Test.YtomgdkfoinojiaaGrpJ
import Derived.Test.YtomgdkfoinojiaaS32Same2
namespace Go.Proofs.Ytomgdkfoinojiaa
open Go.RowKit
attribute [local simp] heap_drew
theorem same_of {L : List NodeC} {roots : List IDE} {ks : List ScionE} {es : List StubE} (ep : Int) (QA PA : Option Addr) (QC PC : Nat) (q p : List SumE) (u : World) (hq : q.map SumE.con = sumL L roots ks es) (hp : p.map SumE.con = sumL L roots ks es) (ha : SumsAt u QA q) (hb : SumsAt u PA p) (hkl : ks.length ≤ 100) (hel : es.length ≤ 100) :
    Calls Try.prog 12 #[.agg #[.int .i64 ep, .slice QA q.length QC], .agg #[.int .i64 ep, .slice PA p.length PC]] u fun r w' => r = .returned (.bool true) ∧ Below u.heap.size u w' := by
  have hql : ∀ x ∈ q, x.inset.length ≤ 1000000000 := fun x hx => by obtain ⟨k, hk⟩ := List.getElem?_of_mem hx; exact sumL_ins6 hq hk hkl
  have hpl : ∀ x ∈ p, x.inset.length ≤ 1000000000 := fun x hx => by obtain ⟨k, hk⟩ := List.getElem?_of_mem hx; exact sumL_ins6 hp hk hkl
  have h := same32_any ep ep QA PA QC PC q p u ha hb (by rw [sumL_len hq]; exact Nat.le_trans (filter_le es) (by omega)) (by rw [sumL_len hp]; exact Nat.le_trans (filter_le es) (by omega)) hql hpl
  rwa [decide_eq_true (show ep = ep ∧ q.map SumE.con = p.map SumE.con from ⟨rfl, hq.trans hp.symm⟩)] at h
set_option maxRecDepth 100000 in
set_option maxHeartbeats 8000000 in
theorem lawOf_any (A : Option Addr) (c : Nat) (l : List NodeE) (RA : Option Addr) (rc : Nat) (roots : List IDE) (KA : Option Addr) (kc : Nat) (ks : List ScionE) (EA : Option Addr) (ec : Nat) (es : List StubE) (ep : Int) (w : World)
    (H : NodesAt w A l) (hR : SlAt IDE.cells 2 w RA roots) (hK : SlAt ScionE.cells 12 w KA ks) (hE : SlAt StubE.cells 12 w EA es) (hsum : roots.length + ks.length + es.length + l.length + fieldsN (conL l) ≤ 1000000000000000) :
    Calls Try.prog 3 #[.agg #[.slice A l.length c, .slice RA roots.length rc, .slice KA ks.length kc, .slice EA es.length ec, .int .i64 ep]] w fun r w' => r = .returned (.bool true) ∧ Below w.heap.size w w' := by
  have HL := H.later
  have HF : ∀ u [Later w u], Calls Try.prog 11 #[.agg #[.slice A l.length c, .slice RA roots.length rc, .slice KA ks.length kc, .slice EA es.length ec, .int .i64 ep]] u fun r w' => r = .returned (.bool (decide (roots.length + ks.length + es.length + l.length + fieldsN (conL l) ≤ 100))) ∧ Below u.heap.size u w' := fun u i => few_any A c l RA KA EA _ rc _ kc _ ec ep u (HL u) hsum
  go_enter Try.func3, Try.ntmps3
  go_upto_region 1 with fail
  refine wp_name ?_
  intro w0 hw0
  obtain ⟨B0, l0⟩ := box1 hw0
  clear hw0
  have l00 : Later w0 w0 := Later.refl
  by_cases hN : roots.length + ks.length + es.length + l.length + fieldsN (conL l) ≤ 100
  rotate_left
  · rw [decide_eq_false hN] at HF
    clear hN
    (refine wp_region_after (by kernel_rfl) (by kernel_rfl) ?_
     repeat (any_goals (first | go_big_quiet_skip | (go_big_quiet_want; go_big_quiet_op; first | go_big_quiet_on | go_big_quiet_call ((first | (go_at_call 11; exact Calls.after (HF _)) | (go_at_call 15; exact Calls.after (awake_any _))))) | quiet_step ((first | (go_at_call 11; exact Calls.after (HF _)) | (go_at_call 15; exact Calls.after (awake_any _)))) | (refine wpQuiet_step (fun K hK => ?_); go_simp; split <;> (refine hK _ ?_; clear hK K))))
     all_goals (refine wpQuiet_nil ?_; intro _ hw'; obtain ⟨u', hw''⟩ := hw'; subst hw''; obtain ⟨wd, hbd⟩ := u'; simp only [After.val_mk]))
    have ld := later hbd
    go_wp2_with fail
    go_ret
    exact ⟨rfl, below_of⟩
  rw [decide_eq_true hN] at HF
  obtain ⟨hl1, hf1⟩ := few32_bounds hN
  have hrl : roots.length ≤ 100 := by omega
  have hkl : ks.length ≤ 100 := by omega
  have hel : es.length ≤ 100 := by omega
  clear hN hsum
  have HS : ∀ u [Later w u], Calls Try.prog 13 #[.agg #[.slice A l.length c, .slice RA roots.length rc, .slice KA ks.length kc, .slice EA es.length ec, .int .i64 ep]] u (SumPost ep (sumL (conL l) roots ks es) u) := fun u i => of_any A c l RA rc roots KA kc ks EA ec es ep u (HL u) (hR.below i.below) (hK.below i.below) (hE.below i.below) (by omega) hf1 (by omega) (by omega) (by omega)
  have HT : ∀ u [Later w u], Calls Try.prog 14 #[.agg #[.slice A l.length c], .slice RA roots.length rc, .slice KA ks.length kc, .slice EA es.length ec, .int .i64 ep] u (RefSumP ep (sumL (conL l) roots ks es) u) := fun u i => refSummarize_any A c l RA rc roots KA kc ks EA ec es ep u (HL u) (hR.below i.below) (hK.below i.below) (hE.below i.below) (by omega) hf1 (by omega) (by omega) (by omega)
  go_region_held3 (fun w' => ∀ b [Later b w0], Later b w') ((intro b _; infer_instance))
    ((first
      | (go_at_call 11; refine (HF _).mono ?_; rintro r w1 ⟨rfl, hb1⟩; have l1 := later hb1; have l11 : Later w1 w1 := Later.refl)
      | (go_at_call 13; refine (HS _).mono ?_; rintro r w3 ⟨q, QA, QC, hq, rfl, hoq, hiq, hb3⟩; have l3 := later hb3; have l33 : Later w3 w3 := Later.refl; have SQ : ∀ u [Later w3 u], SumsAt u QA q := fun u i => (hiq.below i.below).sums ((hoq.below i.below).at_ SumE.enc).2.2)
      | (go_at_call 14; refine (HT _).mono ?_; rintro r w4 ⟨p, PA, PC, hp, rfl, hsp, hb4⟩; have l4 := later hb4; have l44 : Later w4 w4 := Later.refl; have SP := hsp.later)
      | (go_at_call 12; refine (same_of ep QA PA QC PC q p _ hq.out hp.out (SQ _) (SP _) hkl hel).mono ?_; rintro r w5 ⟨rfl, hb5⟩; have l5 := later hb5; have l55 : Later w5 w5 := Later.refl)
      | (go_at_call 15; refine (awake_any _).mono ?_; rintro r w6 ⟨rfl, hb6⟩; have l6 := later hb6; have l66 : Later w6 w6 := Later.refl)))
  all_goals go_wp2_with fail
  all_goals go_ret
  all_goals exact ⟨rfl, below_of⟩
end Go.Proofs.Ytomgdkfoinojiaa
