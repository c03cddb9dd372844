/-
  Contracts of the functions of this seat that each theorem names: what a call returns, and that it writes nothing that was there before. The conditions stand in each theorem.
-/
import Derived.Test.YtnfpbkimdhhmfaaG30Law1
import Derived.Test.YtnfpbkimdhhmfaaGValid3
import Derived.Test.YtnfpbkimdhhmfaaG30Restr
namespace Go.Proofs.Ytnfpbkimdhhmfaa
open Go.RowKit
attribute [local go_sem ↓] run_eql_id run_neq_id
attribute [local simp] heap_drew
theorem conL_filter {l : List NodeE} {ks : List IDE} : conL (l.filter (keepE ks)) = restr (conL l) ks := by
  unfold conL restr
  rw [List.filter_map]
  rfl
theorem clsL_restr {l : List NodeC} {q weak k : List IDE} (h1 : ∀ x ∈ q, x ∈ k) (h2 : ∀ x, weakP l q weak x = true → x ∈ k) (es : List StubE) : clsL (restr l k) q weak es = clsL l q weak es := by
  unfold clsL
  refine congrArg (fun f => List.filterMap f es) (funext fun e => ?_)
  have hw := weakP_restr h1 h2 (idS e)
  unfold cls1 keepP
  rw [hw.1]
  by_cases hq : idS e ∈ q
  · rw [hw.2 hq]
  · simp [hq]
theorem reachL_restr {l : List NodeC} {roots q k : List IDE} (hq : ReachL l roots q) (hk : ∀ x ∈ q, x ∈ k) : ReachL (restr l k) roots q :=
  ⟨hq.1, fun x => (hq.2 x).trans (reach_restr (fun y hy => hk y ((hq.2 y).2 hy)) x).symm⟩
set_option maxRecDepth 100000 in
set_option maxHeartbeats 8000000 in
theorem lawRestricted_any (A : Option Addr) (c : Nat) (l : List NodeE) (RA : Option Addr) (rc : Nat) (roots : List IDE) (WA : Option Addr) (wc : Nat) (weak : List IDE) (EA : Option Addr) (ec : Nat) (es : List StubE) (w : World) (H : GraphIn w A c l) (hR : SlAt IDE.cells 2 w RA roots) (hWk : SlAt IDE.cells 2 w WA weak) (hE : SlAt StubE.cells 12 w EA es) :
    Calls Try.prog 7 #[.agg #[.slice A l.length c], .slice RA roots.length rc, .slice WA weak.length wc, .slice EA es.length ec] w fun r w' => r = .returned (.bool true) ∧ Below w.heap.size w w' := by
  have HL := H.at_.later
  have HR : ∀ u [Later w u], SlAt IDE.cells 2 u RA roots := fun u i => hR.below i.below
  have HWk : ∀ u [Later w u], SlAt IDE.cells 2 u WA weak := fun u i => hWk.below i.below
  have HE : ∀ u [Later w u], SlAt StubE.cells 12 u EA es := fun u i => hE.below i.below
  go_enter Try.func7, Try.ntmps7
  go_upto_region 1 with fail
  refine wp_name ?_
  intro w0 hw0
  obtain ⟨B0, l0⟩ := box1 hw0
  clear hw0
  go_upto_region 3 with (go_at_call 9; refine (awake_any _).mono ?_; rintro r w1 ⟨rfl, hb1⟩; have l1 := later hb1)
  obtain ⟨V, hV⟩ : ∃ V, V = (([⟨RA, roots.length, rc⟩, ⟨WA, weak.length, wc⟩] : List LenE).any (fun x => decide (30 < x.n)) || !decide (l.length + fieldsN (conL l) ≤ 200)) := ⟨_, rfl⟩
  have HG : ∀ u [Later w u], Calls Try.prog 10 #[.agg #[.slice A l.length c], .slice (some ⟨u.heap.size, 0, none⟩) 2 2] (u.alloc (.cells #[.slice RA roots.length rc, .slice WA weak.length wc] 25)) fun r w' => r = .returned (.bool V) ∧ Below (u.alloc (.cells #[.slice RA roots.length rc, .slice WA weak.length wc] 25)).heap.size (u.alloc (.cells #[.slice RA roots.length rc, .slice WA weak.length wc] 25)) w' := fun u i => by
    rw [hV]
    exact large_any A c l (some ⟨u.heap.size, 0, none⟩) 2 [⟨RA, roots.length, rc⟩, ⟨WA, weak.length, wc⟩] _ (HL _) (blk_slAt LenE.enc (fr := (0, 0)) (heap_alloc_new _ _) _ rfl) H.len H.fields (by simp)
  have HV := hide hV
  clear hV
  cases V
  rotate_left
  · go_wp2_with (go_at_call 10; refine (HG _).mono ?_; rintro r w2 ⟨rfl, hb2⟩; have l2 := later hb2)
    go_ret
    exact ⟨rfl, below_of⟩
  by_cases h30 : 30 < es.length
  · have h30i : (30 : Int) < (es.length : Int) := by omega
    go_wp2_with (go_at_call 10; refine (HG _).mono ?_; rintro r w2 ⟨rfl, hb2⟩; have l2 := later hb2)
    go_ret
    exact ⟨rfl, below_of⟩
  have h30i : ¬ (30 : Int) < (es.length : Int) := by omega
  obtain ⟨h1, h2, h3⟩ := large2 HV.out
  obtain ⟨h4, h5⟩ := few_bounds h3
  have h5' : ∀ n ∈ l, n.fields.length ≤ 10000 := fun n hn => Nat.le_trans (h5 n hn) (by omega)
  have HVd : ∀ u [Later w u], Calls Try.prog 21 #[.agg #[.slice A l.length c]] u fun r w' => r = .returned (.bool (valid16B (conL l))) ∧ Below u.heap.size u w' := fun u i => valid16_any A c l u (HL u) (by omega) (fun n hn => Nat.le_trans (h5 n hn) (by omega))
  cases hvd : valid16B (conL l) <;> simp only [hvd] at HVd <;> clear hvd
  · go_wp2_with (first
      | (go_at_call 10; refine (HG _).mono ?_; rintro r w2 ⟨rfl, hb2⟩; have l2 := later hb2)
      | (go_at_call 21; refine (HVd _).mono ?_; rintro r w3 ⟨rfl, hb3⟩; have l3 := later hb3))
    go_ret
    exact ⟨rfl, below_of⟩
  have HS1 : ∀ u [Later w u], Calls Try.prog 16 #[.agg #[.slice A l.length c], .slice RA roots.length rc] u (ReachPost (conL l) roots u) := fun u i => strong_any A c l RA rc roots u (HL u) (HR u) (by omega) h5' (by omega)
  go_upto_region 5 with (first
      | (go_at_call 10; refine (HG _).mono ?_; rintro r w2 ⟨rfl, hb2⟩; have l2 := later hb2)
      | (go_at_call 21; refine (HVd _).mono ?_; rintro r w3 ⟨rfl, hb3⟩; have l3 := later hb3))
  go_upto_region 6 with (go_at_call 16; refine (HS1 _).mono ?_; rintro r w4 ⟨q, QA, Qc, hq, rfl, hoq, hb4⟩; have l4 := later hb4; have l44 : Later w4 w4 := Later.refl)
  have HQ : ∀ u [Later w4 u], SlAt IDE.cells 2 u QA q := fun u i => ((hoq.below i.below).at_ IDE.enc).2.2
  have hql : q.length ≤ 200 := by
    have e1 := reach_len (l := conL l) hq.1.nodup (fun x hx => firstN_ids.1 ((hq.2 x).1 hx).node)
    have e2 : (conL l).length = l.length := by unfold conL; rw [List.length_map]
    omega
  have hwl : (setI (weakL (conL l) q weak)).length ≤ l.length := weakI_len
  have HW : ∀ u [Later w4 u], Calls Try.prog 17 #[.agg #[.slice A l.length c], .slice QA q.length Qc, .slice WA weak.length wc] u (SetIPost (weakL (conL l) q weak) u) := fun u i => by haveI := (l4 w).trans i; exact weakStubs_any A c l QA Qc q WA wc weak u (HL u) (HQ u) (HWk u) (by omega) h5' (by omega) (by omega)
  clear hoq HG HVd HS1 HV h3 hb4
  refine wp_region_held_drew (S := fun w' => ∀ b [Later b w4], Later b w') (by kernel_rfl) (by intro b _; infer_instance) (fun hHeld => ?_)
  refine wpAnyH_take (i := 1) (oi := _) (v := ?_) rfl (by kernel_rfl) (by kernel_rfl) (by kernel_rfl) (fun _ _ _ h => h) (Or.inl ⟨by rfl, ?_⟩) (by assumption) ?_
  rotate_left 1
  · (intro wy hSw; (try dsimp only at hSw); go_simp; try with_reducible rfl)
  (try simp only [Act.put])
  refine wpAnyH_take (i := 3) (oi := _) (v := ?_) rfl (by kernel_rfl) (by kernel_rfl) (by kernel_rfl) (fun _ _ _ h => h) (Or.inl ⟨by rfl, ?_⟩) (by assumption) ?_
  rotate_left 1
  · (intro wy hSw; (try dsimp only at hSw); go_simp; try with_reducible rfl)
  (try simp only [Act.put])
  refine wpAnyH_take (i := 4) (oi := _) (v := ?_) rfl (by kernel_rfl) (by kernel_rfl) (by kernel_rfl) (fun _ _ _ h => h) (Or.inl ⟨by rfl, ?_⟩) (by assumption) ?_
  rotate_left 1
  · (intro wy hSw; (try dsimp only at hSw); go_simp; try with_reducible rfl)
  (try simp only [Act.put])
  refine wpAnyH_take (i := 5) (oi := _) (v := ?_) rfl (by kernel_rfl) (by kernel_rfl) (by kernel_rfl) (fun _ _ _ h => h) (Or.inl ⟨by rfl, ?_⟩) (by assumption) ?_
  rotate_left 1
  · (intro wy hSw; (try dsimp only at hSw); go_simp; try with_reducible rfl)
  (try simp only [Act.put])
  refine wpAnyH_ready (rs := [0]) (by kernel_rfl) (by simp) ?_
  refine AllReadyH.cons (o := _) rfl (fun K9 hK9 => ?_) AllReadyH.nil
  go_simp
  refine hK9.out _ _ (by intro b _; infer_instance) (fun hHeld => ?_)
  clear hK9 K9
  (try simp only [Act.put])
  refine wpAnyH_ready (rs := [2]) (by kernel_rfl) (by simp) ?_
  refine AllReadyH.cons (o := _) rfl (fun K9 hK9 => ?_) AllReadyH.nil
  refine step_app2 (P := Try.prog) rfl (.tmp 32) (.tmp 33) (by rfl) IDE.enc idT QA Qc q ([] : List IDE) (.slice (some ⟨w4.heap.size, 0, none⟩) 0 0) (by rfl) (by rfl) (m := q.length) (n := q.length) rfl (by simp) ((Own.empty (base := w4.heap.size) (w := w4) (Nat.le_refl _)).later _) (HQ _) (by omega) (by unfold maxLen; omega) (by simp [heap_drew]) ?_
  intro A5 c5 w5 ho5 hm5 hst5
  rw [List.nil_append] at ho5
  have hb5 : Below w4.heap.size w4 w5 := hst5.below ((Own.empty (f := IDE.cells) (s := 2) (α := IDE) (e := 37) (base := w4.heap.size) (w := w4) (Nat.le_refl _)).later _) below_of (by simp [heap_drew])
  have l5 := later hb5
  have l55 : Later w5 w5 := Later.refl
  go_simp
  refine hK9.out _ _ (by intro b _; infer_instance) (fun hHeld => ?_)
  clear hK9 K9
  (try simp only [Act.put])
  refine wpAnyH_ready (rs := [6]) (by kernel_rfl) (by simp) ?_
  refine AllReadyH.cons (o := _) rfl (fun K9 hK9 => ?_) AllReadyH.nil
  go_simp
  refine (HW _).mono ?_
  rintro r w6 ⟨sw, SA, Sc, hsw, rfl, hos, hb6⟩
  have l6 := later hb6
  have l66 : Later w6 w6 := Later.refl
  (try dsimp only)
  refine hK9.out _ _ (by intro b _; infer_instance) (fun hHeld => ?_)
  clear hK9 K9
  (try simp only [Act.put])
  have hsl : sw.length ≤ l.length := by rw [hsw.out]; exact hwl
  have hz6 : w4.heap.size ≤ w6.heap.size := Nat.le_trans hb5.size hb6.size
  refine wpAnyH_ready (rs := [7]) (by kernel_rfl) (by simp) ?_
  refine AllReadyH.cons (o := _) rfl (fun K9 hK9 => ?_) AllReadyH.nil
  refine step_app2 (P := Try.prog) rfl (.tmp 34) (.tmp 38) (by rfl) IDE.enc idT SA Sc sw q (.slice A5 q.length c5) (by rfl) (by rfl) (m := sw.length) (n := q.length + sw.length) rfl rfl (ho5.later _) ((hos.later _).at_ IDE.enc).2.2 (by omega) (by unfold maxLen; omega) (by first | omega | (simp [heap_drew]; omega)) ?_
  intro A7 c7 w7 ho7 hm7 hst7
  have hb7 : Below w4.heap.size w4 w7 := hst7.below (ho5.later _) below_of (by first | omega | (simp [heap_drew]; omega))
  have l7 := later hb7
  have l77 : Later w7 w7 := Later.refl
  go_simp
  refine hK9.out _ _ (by intro b _; infer_instance) (fun hHeld => ?_)
  clear hK9 K9
  (try simp only [Act.put])
  refine wpAnyH_ready (rs := [8]) (by kernel_rfl) (by simp) ?_
  refine AllReadyH.cons (o := _) rfl (fun K9 hK9 => ?_) AllReadyH.nil
  go_simp
  refine hK9.out _ _ (by intro b _; infer_instance) (fun hHeld => ?_)
  clear hK9 K9
  (try simp only [Act.put])
  refine wpAnyH_done (by kernel_rfl) ?_ _
  obtain ⟨kp, hkp0⟩ : ∃ kp, kp = q ++ sw := ⟨_, rfl⟩
  rw [← hkp0] at ho7
  have hkl : q.length + sw.length = kp.length := by rw [hkp0, List.length_append]
  rw [hkl] at ho7
  have hk1 : ∀ x ∈ q, x ∈ kp := fun x hx => by rw [hkp0]; exact List.mem_append_left _ hx
  have hk2 : ∀ x, weakP (conL l) q weak x = true → x ∈ kp := fun x hx => by rw [hkp0]; refine List.mem_append_right _ ?_; rw [hsw.out, setI_mem, weakL_mem]; exact hx
  have hkn : kp.length ≤ 1000 := by omega
  have Hk1 := hide hk1
  have Hk2 := hide hk2
  have Hkl := hide hkl
  have HKp : ∀ u [Later w7 u], SlAt IDE.cells 2 u A7 kp := fun u i => ((ho7.below i.below).at_ IDE.enc).2.2
  have HRs : ∀ u [Later w7 u], Calls Try.prog 22 #[.agg #[.slice A l.length c], .slice A7 (q.length + sw.length) c7] u (RestrPost l kp u) := fun u i => by
    rw [Hkl.out]; haveI := (l7 w4).trans i; haveI := (l4 w).trans ‹Later w4 u›; exact restrict_any A c l A7 c7 kp u (HL u) (HKp u) (by omega) (by omega)
  clear hk1 hk2 hkl hkp0 hsw hos ho5 hm5 hst5 ho7 hm7 hst7 HW hHeld
  go_upto_region 7 with fail
  refine wp_name ?_
  intro w8 hw8
  have hb8 : Below w7.heap.size w7 w8 := by rw [← hw8]; exact below_of
  clear hw8
  have l8 := later hb8
  have l88 : Later w8 w8 := Later.refl
  go_upto_region 8 with (go_at_call 22; refine (HRs _).mono ?_; rintro r w9 ⟨o, OA, OC, ho, rfl, hoo, hb9⟩; have l9 := later hb9; have l99 : Later w9 w9 := Later.refl)
  refine wp_name ?_
  intro w10 hw10
  have bx10 : w10.heap[w9.heap.size]? = some (.cells #[.slice OA o.length OC] 24 (0, 0)) := by rw [← hw10]; exact heap_alloc_new w9 _
  have hb10 : Below w9.heap.size w9 w10 := by rw [← hw10]; exact below_of
  clear hw10
  have B10 := boxed bx10
  have l10 := later hb10
  have l1010 : Later w10 w10 := Later.refl
  have lw10 : Later w w10 := ⟨below_of⟩
  have lw410 : Later w4 w10 := ⟨below_of⟩
  have hcon : conL o = restr (conL l) kp := by rw [ho.out]; exact conL_filter
  have hom : ∀ n ∈ o, n ∈ l := fun n hn => by rw [ho.out] at hn; exact (List.mem_filter.1 hn).1
  have hol : o.length ≤ 200 := by rw [ho.out]; exact Nat.le_trans (List.length_filter_le _ _) h4
  have HLo : ∀ u [Later w10 u], NodesAt u OA o := fun u i => by
    haveI := lw10.trans i
    exact ⟨(((hoo.below hb10).below i.below).at_ NodeE.enc).2.2, fun n hn => (HL u).f n (hom n hn), fun n hn => (HL u).c n (hom n hn)⟩
  have hqo : ReachL (conL o) roots q := by rw [hcon]; exact reachL_restr hq Hk1.out
  have hcls := hide (clsL_restr (weak := weak) Hk1.out Hk2.out es)
  have hoq' : ∀ q', ReachL (conL o) roots q' → q' = q := fun q' h => h.unique hqo
  have hofd : ∀ n ∈ o, n.fields.length ≤ 10000 := fun n hn => h5' n (hom n hn)
  have HC1 : ∀ u [Later w10 u], Calls Try.prog 12 #[.agg #[.slice A l.length c], .slice RA roots.length rc, .slice WA weak.length wc, .slice EA es.length ec] u (ClsPost (conL l) q weak es u) := fun u i => by haveI := lw10.trans i; exact cls_any A c l RA rc roots WA wc weak EA ec es q hq u (HL u) (HR u) (HWk u) (HE u) (by omega) h5' (by omega) (by omega) (by omega)
  have HC2 : ∀ u [Later w10 u], Calls Try.prog 12 #[.agg #[.slice OA o.length OC], .slice RA roots.length rc, .slice WA weak.length wc, .slice EA es.length ec] u (ClsPost (conL l) q weak es u) := fun u i => by
    haveI := lw10.trans i
    refine (cls_any OA OC o RA rc roots WA wc weak EA ec es q hqo u (HLo u) (HR u) (HWk u) (HE u) (by omega) hofd (by omega) (by omega) (by omega)).mono ?_
    rintro r w' ⟨p, PA, Pc, hp, h⟩
    exact ⟨p, PA, Pc, hide (by rw [hp.out, hcon]; exact hcls.out), h⟩
  have HS2 : ∀ u [Later w10 u], Calls Try.prog 16 #[.agg #[.slice OA o.length OC], .slice RA roots.length rc] u (fun r w' => ∃ q' A' c', Hid (q' = q) ∧ r = .returned (.slice A' q'.length c') ∧ Own IDE.cells 2 37 u.heap.size w' (.slice A' q'.length c') q' ∧ Below u.heap.size u w') := fun u i => by
    haveI := lw10.trans i
    refine (strong_any OA OC o RA rc roots u (HLo u) (HR u) (by omega) hofd (by omega)).mono ?_
    rintro r w' ⟨q', A', c', hq', h⟩
    exact ⟨q', A', c', hide (hoq' q' hq'), h⟩
  have hcl : (clsL (conL l) q weak es).length ≤ 30 := Nat.le_trans (List.length_filterMap_le _ _) (by omega)
  clear hoq' hofd hcls hqo hom hcon hoo ho HRs h5 h5' h4 hq hwl h1 h2
  go_region_held3 (fun w' => ∀ b [Later b w10], Later b w') ((intro b _; infer_instance))
    ((first
      | (go_at_call_has 12 (Value.agg #[Value.slice A l.length c]); refine (HC1 _).mono ?_; rintro r w11 ⟨p1, PA, Pc, hp1, rfl, hpo1, hb11⟩; have l11 := later hb11; have l111 : Later w11 w11 := Later.refl)
      | (go_at_call_has 12 (Value.agg #[Value.slice OA o.length OC]); refine (HC2 _).mono ?_; rintro r w12 ⟨p2, PB, Pd, hp2, rfl, hpo2, hb12⟩; have l12 := later hb12; have l122 : Later w12 w12 := Later.refl)
      | (go_at_call 11; refine (same30_true PA Pc p1 PB Pd p2 _ (((hpo1.later _).at_ StubE.enc).2.2) (((hpo2.later _).at_ StubE.enc).2.2) (by rw [hp1.out]; omega) (hp1.out.trans hp2.out.symm)).mono ?_; rintro r w13 ⟨rfl, hb13⟩; have l13 := later hb13; have l133 : Later w13 w13 := Later.refl)
      | (go_at_call 16; refine (HS2 _).mono ?_; rintro r w14 ⟨q', QB, Qd, hq', rfl, hoq', hb14⟩; have l14 := later hb14; have l144 : Later w14 w14 := Later.refl)
      | (go_at_call 23; refine (same21_true QB Qd q' QA Qc q _ (((hoq'.later _).at_ IDE.enc).2.2) (HQ _) (by rw [hq'.out]; omega) hq'.out).mono ?_; rintro r w15 ⟨rfl, hb15⟩; have l15 := later hb15)))
  all_goals go_wp2_with fail
  all_goals go_ret
  all_goals exact ⟨rfl, below_of⟩
end Go.Proofs.Ytnfpbkimdhhmfaa
