/-
  Contracts of the functions of this seat that each theorem names: what a call returns, and that it writes nothing that was there before. The conditions stand in each theorem.
-/
import Derived.Test.YtnfpbkimdhhmfaaG30Awake
import Derived.Test.YtnfpbkimdhhmfaaG30Few
import Derived.Test.YtnfpbkimdhhmfaaG30Cls
namespace Go.Proofs.Ytnfpbkimdhhmfaa
open Go.RowKit
theorem reachL_exists (L : List NodeC) (roots : List IDE) : ∃ q, ReachL L roots q := by
  classical
  refine ⟨setI ((ids L).filter fun x => decide (Reach L roots x)), setI_sorted _, fun x => ?_⟩
  rw [setI_mem, List.mem_filter, decide_eq_true_iff]
  exact ⟨fun h => h.2, fun h => ⟨firstN_ids.1 h.node, h⟩⟩
/-- A graph that came in. -/
structure GraphIn (w : World) (A : Option Addr) (c : Nat) (l : List NodeE) : Prop where
  at_ : NodesAt w A l
  len : l.length ≤ 1000000000000000
  fields : ∀ n ∈ l, n.fields.length ≤ 1000000000000000
theorem few_bounds {l : List NodeE} (h : l.length + fieldsN (conL l) ≤ 200) : l.length ≤ 200 ∧ ∀ n ∈ l, n.fields.length ≤ 200 := by
  refine ⟨by omega, fun n hn => ?_⟩
  have : (n.con).fields.length ≤ fieldsN (conL l) := fieldsN_le (List.mem_map_of_mem hn)
  have h2 : n.con.fields.length = n.fields.length := rfl
  omega
theorem large2 {a b n ca cb : Nat} {A B : Option Addr} (h : false = (([⟨A, a, ca⟩, ⟨B, b, cb⟩] : List LenE).any (fun x => decide (30 < x.n)) || !decide (n ≤ 200))) : a ≤ 30 ∧ b ≤ 30 ∧ n ≤ 200 := by
  have h := h.symm
  rw [Bool.or_eq_false_iff] at h
  obtain ⟨h1, h2⟩ := h
  rw [List.any_eq_false] at h1
  have e1 := h1 ⟨A, a, ca⟩ (by simp)
  have e2 := h1 ⟨B, b, cb⟩ (by simp)
  simp only [decide_eq_true_eq] at e1 e2
  have e3 : n ≤ 200 := by simpa using h2
  omega
theorem same30_true (aA : Option Addr) (aC : Nat) (a : List StubE) (bA : Option Addr) (bC : Nat) (b : List StubE) (w : World) (ha : SlAt StubE.cells 12 w aA a) (hb : SlAt StubE.cells 12 w bA b) (hal : a.length ≤ 9223372036854775807) (h : a = b) :
    Calls Try.prog 11 #[.slice aA a.length aC, .slice bA b.length bC] w fun r w' => r = .returned (.bool true) ∧ Below w.heap.size w w' :=
  (same30_any aA aC a bA bC b w ha hb hal (by rw [← h]; exact hal)).mono fun r w' ⟨q, hr, hq, hb⟩ => ⟨by rw [hr, hq.2 h], hb⟩
theorem same21_true (aA : Option Addr) (aC : Nat) (a : List IDE) (bA : Option Addr) (bC : Nat) (b : List IDE) (w : World) (ha : SlAt IDE.cells 2 w aA a) (hb : SlAt IDE.cells 2 w bA b) (hal : a.length ≤ 9223372036854775807) (h : a = b) :
    Calls Try.prog 23 #[.slice aA a.length aC, .slice bA b.length bC] w fun r w' => r = .returned (.bool true) ∧ Below w.heap.size w w' :=
  (same21_any aA aC a bA bC b w ha hb hal (by rw [← h]; exact hal)).mono fun r w' ⟨q, hr, hq, hb⟩ => ⟨by rw [hr, hq.2 h], hb⟩
set_option maxRecDepth 100000 in
set_option maxHeartbeats 4000000 in
theorem lawClassifies_any (A : Option Addr) (c : Nat) (l : List NodeE) (RA : Option Addr) (rc : Nat) (roots : List IDE) (WA : Option Addr) (wc : Nat) (weak : List IDE) (EA : Option Addr) (ec : Nat) (es : List StubE) (w : World) (H : GraphIn w A c l) (hR : SlAt IDE.cells 2 w RA roots) (hWk : SlAt IDE.cells 2 w WA weak) (hE : SlAt StubE.cells 12 w EA es) :
    Calls Try.prog 3 #[.agg #[.slice A l.length c], .slice RA roots.length rc, .slice WA weak.length wc, .slice EA es.length ec] w fun r w' => r = .returned (.bool true) ∧ Below w.heap.size w w' := by
  have HL := H.at_.later
  have HR : ∀ u [Later w u], SlAt IDE.cells 2 u RA roots := fun u i => hR.below i.below
  have HWk : ∀ u [Later w u], SlAt IDE.cells 2 u WA weak := fun u i => hWk.below i.below
  have HE : ∀ u [Later w u], SlAt StubE.cells 12 u EA es := fun u i => hE.below i.below
  go_enter Try.func3, Try.ntmps3
  go_upto_region 1 with fail
  refine wp_name ?_
  intro w0 hw0
  obtain ⟨B0, l0⟩ := box1 hw0
  clear hw0
  go_upto_region 3 with (go_at_call 9; refine (awake_any _).mono ?_; rintro r w1 ⟨rfl, hb1⟩; have l1 := later hb1)
  obtain ⟨V, hV⟩ : ∃ V, V = (([⟨RA, roots.length, rc⟩, ⟨WA, weak.length, wc⟩] : List LenE).any (fun x => decide (30 < x.n)) || !decide (l.length + fieldsN (conL l) ≤ 200)) := ⟨_, rfl⟩
  have HG : ∀ u [Later w u], Calls Try.prog 10 #[.agg #[.slice A l.length c], .slice (some ⟨u.heap.size, 0, none⟩) 2 2] (u.alloc (.cells #[.slice RA roots.length rc, .slice WA weak.length wc] 25)) fun r w' => r = .returned (.bool V) ∧ Below (u.alloc (.cells #[.slice RA roots.length rc, .slice WA weak.length wc] 25)).heap.size (u.alloc (.cells #[.slice RA roots.length rc, .slice WA weak.length wc] 25)) w' := fun u i => by
    rw [hV]
    exact large_any A c l (some ⟨u.heap.size, 0, none⟩) 2 [⟨RA, roots.length, rc⟩, ⟨WA, weak.length, wc⟩] _ (HL _) (blk_slAt LenE.enc (fr := (0, 0)) (heap_alloc_new _ _) _ rfl) H.len H.fields (by simp)
  have HV := hide hV
  clear hV
  cases V
  · by_cases h30 : 30 < es.length
    · have h30i : (30 : Int) < (es.length : Int) := by omega
      go_wp2_with (go_at_call 10; refine (HG _).mono ?_; rintro r w2 ⟨rfl, hb2⟩; have l2 := later hb2)
      go_ret
      exact ⟨rfl, below_of⟩
    · have h30i : ¬ (30 : Int) < (es.length : Int) := by omega
      have hsm := large2 HV.out
      obtain ⟨h1, h2, h3⟩ := hsm
      obtain ⟨h4, h5⟩ := few_bounds h3
      obtain ⟨q, hq⟩ := reachL_exists (conL l) roots
      have h5' : ∀ n ∈ l, n.fields.length ≤ 10000 := fun n hn => Nat.le_trans (h5 n hn) (by omega)
      have HC : ∀ u [Later w u], Calls Try.prog 12 #[.agg #[.slice A l.length c], .slice RA roots.length rc, .slice WA weak.length wc, .slice EA es.length ec] u (ClsPost (conL l) q weak es u) := fun u i => cls_any A c l RA rc roots WA wc weak EA ec es q hq u (HL u) (HR u) (HWk u) (HE u) (by omega) h5' (by omega) (by omega) (by omega)
      have HC3 : ∀ u [Later w u], Calls Try.prog 13 #[.agg #[.slice A l.length c], .slice RA roots.length rc, .slice WA weak.length wc, .slice EA es.length ec] u (ClsPost (conL l) q weak es u) := fun u i => cls30_any A c l RA rc roots WA wc weak EA ec es q hq u (HL u) (HR u) (HWk u) (HE u) (by omega) h5' (by omega) (by omega) (by omega)
      have hcl : (clsL (conL l) q weak es).length ≤ 30 := Nat.le_trans (List.length_filterMap_le _ _) (by omega)
      clear HV h1 h2 h3 h4 h5 h5' hq
      go_upto_region 5 with (go_at_call 10; refine (HG _).mono ?_; rintro r w2 ⟨rfl, hb2⟩; have l2 := later hb2)
      have l22 : Later w2 w2 := Later.refl
      go_region_held3 (fun w' => ∀ b [Later b w2], Later b w') ((intro b _; infer_instance))
        ((first
          | (go_at_call 12; refine (HC _).mono ?_; rintro r w3 ⟨o, OA, Oc, ho, rfl, hoo, hb3⟩; have l3 := later hb3; have l33 : Later w3 w3 := Later.refl)
          | (go_at_call 13; refine (HC3 _).mono ?_; rintro r w4 ⟨p, PA, Pc, hp, rfl, hpo, hb4⟩; have l4 := later hb4; have l44 : Later w4 w4 := Later.refl)
          | (go_at_call 11; refine (same30_true OA Oc o PA Pc p _ (((hoo.later _).at_ StubE.enc).2.2) (((hpo.later _).at_ StubE.enc).2.2) (by rw [ho.out]; omega) (ho.out.trans hp.out.symm)).mono ?_; rintro r w5 ⟨rfl, hb5⟩; have l5 := later hb5)))
      all_goals go_wp2_with fail
      all_goals go_ret
      all_goals exact ⟨rfl, below_of⟩
  · go_wp2_with (go_at_call 10; refine (HG _).mono ?_; rintro r w2 ⟨rfl, hb2⟩; have l2 := later hb2)
    go_ret
    exact ⟨rfl, below_of⟩
end Go.Proofs.Ytnfpbkimdhhmfaa
