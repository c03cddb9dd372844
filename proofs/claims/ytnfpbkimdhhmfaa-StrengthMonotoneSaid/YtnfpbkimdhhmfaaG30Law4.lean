/-
  Contracts of the functions of this seat that each theorem names: what a call returns, and that it writes nothing that was there before. The conditions stand in each theorem.
-/
import Derived.Test.YtnfpbkimdhhmfaaG30Mono
namespace Go.Proofs.Ytnfpbkimdhhmfaa
open Go.RowKit
attribute [local simp] heap_drew
theorem large3 {a b d n ca cb cd : Nat} {A B D : Option Addr} (h : false = (([⟨A, a, ca⟩, ⟨B, b, cb⟩, ⟨D, d, cd⟩] : List LenE).any (fun x => decide (30 < x.n)) || !decide (n ≤ 200))) : a ≤ 30 ∧ b ≤ 30 ∧ d ≤ 30 ∧ n ≤ 200 := by
  have h := h.symm
  rw [Bool.or_eq_false_iff] at h
  obtain ⟨h1, h2⟩ := h
  rw [List.any_eq_false] at h1
  have e1 := h1 ⟨A, a, ca⟩ (by simp)
  have e2 := h1 ⟨B, b, cb⟩ (by simp)
  have e3 := h1 ⟨D, d, cd⟩ (by simp)
  simp only [decide_eq_true_eq] at e1 e2 e3
  have e4 : n ≤ 200 := by simpa using h2
  omega
theorem cls_emb {L : List NodeC} {q q' weak : List IDE} (h : ∀ x ∈ q, x ∈ q') (es : List StubE) : Emb (fun a b => sameB a b = true) (clsL L q weak es) (clsL L q' weak es) := by
  refine emb_filterMap es fun e _ a ha => ?_
  unfold cls1 at ha ⊢
  split at ha
  · rename_i hk
    injection ha with ha
    obtain ⟨h1, h2⟩ := keepP_mono h hk
    refine ⟨_, if_pos h1, ?_⟩
    subst ha
    unfold sameB
    simp only [Bool.and_eq_true, Bool.or_eq_true, Bool.not_eq_true']
    refine ⟨?_, StubE.beq_iff.2 rfl⟩
    cases hw : weakP L q' weak (idS e)
    · exact .inr rfl
    · exact .inl (h2 hw)
  · cases ha
set_option maxRecDepth 100000 in
set_option maxHeartbeats 8000000 in
theorem lawMonotone_any (A : Option Addr) (c : Nat) (l : List NodeE) (RA : Option Addr) (rc : Nat) (roots : List IDE) (MA : Option Addr) (mc : Nat) (more : List IDE) (WA : Option Addr) (wc : Nat) (weak : List IDE) (EA : Option Addr) (ec : Nat) (es : List StubE) (w : World) (H : GraphIn w A c l) (hR : SlAt IDE.cells 2 w RA roots) (hM : SlAt IDE.cells 2 w MA more) (hWk : SlAt IDE.cells 2 w WA weak) (hE : SlAt StubE.cells 12 w EA es) :
    Calls Try.prog 6 #[.agg #[.slice A l.length c], .slice RA roots.length rc, .slice MA more.length mc, .slice WA weak.length wc, .slice EA es.length ec] w fun r w' => r = .returned (.bool true) ∧ Below w.heap.size w w' := by
  have HL := H.at_.later
  have HR : ∀ u [Later w u], SlAt IDE.cells 2 u RA roots := fun u i => hR.below i.below
  have HM : ∀ u [Later w u], SlAt IDE.cells 2 u MA more := fun u i => hM.below i.below
  have HWk : ∀ u [Later w u], SlAt IDE.cells 2 u WA weak := fun u i => hWk.below i.below
  have HE : ∀ u [Later w u], SlAt StubE.cells 12 u EA es := fun u i => hE.below i.below
  go_enter Try.func6, Try.ntmps6
  go_upto_region 1 with fail
  refine wp_name ?_
  intro w0 hw0
  obtain ⟨B0, l0⟩ := box1 hw0
  clear hw0
  go_upto_region 3 with (go_at_call 9; refine (awake_any _).mono ?_; rintro r w1 ⟨rfl, hb1⟩; have l1 := later hb1)
  obtain ⟨V, hV⟩ : ∃ V, V = (([⟨RA, roots.length, rc⟩, ⟨MA, more.length, mc⟩, ⟨WA, weak.length, wc⟩] : List LenE).any (fun x => decide (30 < x.n)) || !decide (l.length + fieldsN (conL l) ≤ 200)) := ⟨_, rfl⟩
  have HG : ∀ u [Later w u], Calls Try.prog 10 #[.agg #[.slice A l.length c], .slice (some ⟨u.heap.size, 0, none⟩) 3 3] (u.alloc (.cells #[.slice RA roots.length rc, .slice MA more.length mc, .slice WA weak.length wc] 25)) fun r w' => r = .returned (.bool V) ∧ Below (u.alloc (.cells #[.slice RA roots.length rc, .slice MA more.length mc, .slice WA weak.length wc] 25)).heap.size (u.alloc (.cells #[.slice RA roots.length rc, .slice MA more.length mc, .slice WA weak.length wc] 25)) w' := fun u i => by
    rw [hV]
    exact large_any A c l (some ⟨u.heap.size, 0, none⟩) 3 [⟨RA, roots.length, rc⟩, ⟨MA, more.length, mc⟩, ⟨WA, weak.length, wc⟩] _ (HL _) (blk_slAt LenE.enc (fr := (0, 0)) (heap_alloc_new _ _) _ rfl) H.len H.fields (by simp)
  have HV := hide hV
  clear hV
  cases V
  rotate_left
  · go_wp2_with (go_at_call 10; refine (HG _).mono ?_; rintro r w2 ⟨rfl, hb2⟩; have l2 := later hb2)
    go_ret
    exact ⟨rfl, below_of⟩
  by_cases h30 : 30 < es.length
  · have h30i : (30 : Int) < (es.length : Int) := by omega
    go_wp2_with (go_at_call 10; refine (HG _).mono ?_; rintro r w2 ⟨rfl, hb2⟩; have l2 := later hb2)
    go_ret
    exact ⟨rfl, below_of⟩
  have h30i : ¬ (30 : Int) < (es.length : Int) := by omega
  obtain ⟨h1, h2, h2', h3⟩ := large3 HV.out
  obtain ⟨h4, h5⟩ := few_bounds h3
  have h5' : ∀ n ∈ l, n.fields.length ≤ 10000 := fun n hn => Nat.le_trans (h5 n hn) (by omega)
  go_upto_region 5 with (go_at_call 10; refine (HG _).mono ?_; rintro r w2 ⟨rfl, hb2⟩; have l2 := later hb2)
  have l22 : Later w2 w2 := Later.refl
  go_upto_region 6 with (at_builtin; first
    | (refine wpList_appE rfl (.tmp 32) (.tmp 33) rfl IDE.enc idT _ _ roots rfl rfl (HR _) (by omega) (by unfold maxLen; omega) ?_; intro A3 c3 w3 ho3 hm3 hb3; have l3 := later hb3; have l33 : Later w3 w3 := Later.refl)
    | (refine wpList_app rfl (.tmp 34) (.tmp 35) rfl IDE.enc idT ho3 MA mc more (HM _) rfl rfl (by omega) (by unfold maxLen; omega) hb3.size ?_; intro v4 w4 ho4 hg4 hat4; obtain ⟨al, hal0⟩ : ∃ al, al = roots ++ more := ⟨_, rfl⟩; rw [← hal0] at ho4; have hal := hide hal0; clear hal0; obtain ⟨A4, c4, rfl, -, -, -⟩ := ho4.slAt IDE.enc; have hb24 : Below w2.heap.size w2 w4 := ho3.belowGrown hb3 hg4 (Nat.le_refl _) hb3.size; have l4 := later hb24; have l44 : Later w4 w4 := Later.refl))
  have hall : al.length ≤ 60 := by rw [hal.out, List.length_append]; omega
  have HA : ∀ u [Later w4 u], SlAt IDE.cells 2 u A4 al := fun u i => ((ho4.below i.below).at_ IDE.enc).2.2
  have hsub : ∀ x ∈ roots, x ∈ al := fun x hx => by rw [hal.out]; exact List.mem_append_left _ hx
  have Hsub := hide hsub
  have HS1 : ∀ u [Later w u], Calls Try.prog 16 #[.agg #[.slice A l.length c], .slice RA roots.length rc] u (ReachPost (conL l) roots u) := fun u i => strong_any A c l RA rc roots u (HL u) (HR u) (by omega) h5' (by omega)
  have HS2 : ∀ u [Later w4 u], Calls Try.prog 16 #[.agg #[.slice A l.length c], .slice A4 al.length c4] u (ReachPost (conL l) al u) := fun u i => by haveI := (l4 w).trans i; exact strong_any A c l A4 c4 al u (HL u) (HA u) (by omega) h5' (by omega)
  clear hal ho3 hb3 hm3 ho4 hg4 hat4 HV h3 hsub HG hb2
  go_region_held3 (fun w' => ∀ b [Later b w4], Later b w') ((intro b _; infer_instance))
    ((first
      | (go_at_call_has 16 (Value.slice RA roots.length rc); refine (HS1 _).mono ?_; rintro r w5 ⟨q, QA, Qc, hq, rfl, hoq, hb5⟩; have l5 := later hb5; have l55 : Later w5 w5 := Later.refl)
      | (go_at_call_has 16 (Value.slice A4 al.length c4); refine (HS2 _).mono ?_; rintro r w6 ⟨q', QA', Qc', hq', rfl, hoq', hb6⟩; have l6 := later hb6; have l66 : Later w6 w6 := Later.refl)))
  have hql : q.length ≤ 200 := by
    have e1 := reach_len (l := conL l) hq.1.nodup (fun x hx => firstN_ids.1 ((hq.2 x).1 hx).node)
    have e2 : (conL l).length = l.length := by unfold conL; rw [List.length_map]
    omega
  have hql' : q'.length ≤ 200 := by
    have e1 := reach_len (l := conL l) hq'.1.nodup (fun x hx => firstN_ids.1 ((hq'.2 x).1 hx).node)
    have e2 : (conL l).length = l.length := by unfold conL; rw [List.length_map]
    omega
  have hqq : ∀ x ∈ q, x ∈ q' := fun x hx => (hq'.2 x).2 (((hq.2 x).1 hx).mono Hsub.out)
  have Hqq := hide hqq
  have HQ : ∀ u [Later w6 u], SlAt IDE.cells 2 u QA q := fun u i => by haveI := (l6 w5).trans i; exact ((hoq.later u).at_ IDE.enc).2.2
  have HQ' : ∀ u [Later w6 u], SlAt IDE.cells 2 u QA' q' := fun u i => ((hoq'.below i.below).at_ IDE.enc).2.2
  have lw6 : Later w w6 := ⟨below_of⟩
  have lw46 : Later w4 w6 := ⟨below_of⟩
  have HHq : ∀ (x : IDE) (u : World) [Later w6 u], Calls Try.prog 18 #[.slice QA' q'.length Qc', x.v] u fun r w' => r = .returned (.bool (decide (x ∈ q'))) ∧ Below u.heap.size u w' := fun x u j => has21_any QA' Qc' q' x u (HQ' u) (by omega)
  have HC1 : ∀ u [Later w6 u], Calls Try.prog 12 #[.agg #[.slice A l.length c], .slice RA roots.length rc, .slice WA weak.length wc, .slice EA es.length ec] u (ClsPost (conL l) q weak es u) := fun u i => by haveI := lw6.trans i; exact cls_any A c l RA rc roots WA wc weak EA ec es q hq u (HL u) (HR u) (HWk u) (HE u) (by omega) h5' (by omega) (by omega) (by omega)
  have HC2 : ∀ u [Later w6 u], Calls Try.prog 12 #[.agg #[.slice A l.length c], .slice A4 al.length c4, .slice WA weak.length wc, .slice EA es.length ec] u (ClsPost (conL l) q' weak es u) := fun u i => by haveI := lw6.trans i; haveI := lw46.trans i; exact cls_any A c l A4 c4 al WA wc weak EA ec es q' hq' u (HL u) (HA u) (HWk u) (HE u) (by omega) h5' (by omega) (by omega) (by omega)
  have hemb := hide (cls_emb (L := conL l) (weak := weak) Hqq.out es)
  have hcl1 : (clsL (conL l) q weak es).length ≤ 30 := Nat.le_trans (List.length_filterMap_le _ _) (by omega)
  have hcl2 : (clsL (conL l) q' weak es).length ≤ 30 := Nat.le_trans (List.length_filterMap_le _ _) (by omega)
  clear hqq hq hq' hoq hoq' HS1 HS2 h5 h5' h1 h2 h2'
  go_wp2_with fail
  go_loopw [14] (fun iv wr => ∃ k : Nat, k ≤ q.length ∧ iv = .int .i64 k ∧ Below w6.heap.size w6 wr) (fun iv _ => q.length - (intOf iv).toNat)
  case atStart => exact ⟨0, by omega, rfl, Below.refl _ _⟩
  case round =>
    obtain ⟨k, hk, rfl, hbr⟩ := hrel
    have lr := later hbr
    by_cases hlt : k < q.length
    · obtain ⟨b1, o1, x, rfl, hx, C1⟩ := IDE.get (HQ wr) hlt
      have hki : (k : Int) < (q.length : Int) := by omega
      have hxq := Hqq.out x (List.mem_of_getElem? hx)
      have HHx := fun (u : World) (i : Later w6 u) => HHq x u
      simp only [hxq, decide_true] at HHx
      clear hx
      go_wp2_with (go_at_call 18; refine (HHx _ inferInstance).mono ?_; rintro r w7 ⟨rfl, hb7⟩; have l7 := later hb7)
      go_roundw
      case rel => exact ⟨k + 1, by omega, by go_num, below_of⟩
      case measure => simp [intOf]; omega
    · have hk' : k = q.length := by omega
      subst hk'
      have lrr : Later wr wr := Later.refl
      go_upto_region 12 with fail
      go_region_held3 (fun w' => ∀ b [Later b wr], Later b w') ((intro b _; infer_instance))
        ((first
          | (go_at_call_has 12 (Value.slice RA roots.length rc); refine (HC1 _).mono ?_; rintro r w8 ⟨o, OA, Oc, ho, rfl, hoo, hb8⟩; have l8 := later hb8; have l88 : Later w8 w8 := Later.refl)
          | (go_at_call_has 12 (Value.slice A4 al.length c4); refine (HC2 _).mono ?_; rintro r w9 ⟨p, PA, Pc, hp, rfl, hpo, hb9⟩; have l9 := later hb9; have l99 : Later w9 w9 := Later.refl)))
      have hemb2 := hide (show Emb (fun a b => sameB a b = true) o p by rw [ho.out, hp.out]; exact hemb.out)
      have hol : o.length ≤ 30 := by rw [ho.out]; exact hcl1
      have hpl : p.length ≤ 30 := by rw [hp.out]; exact hcl2
      have HO : ∀ u [Later w9 u], SlAt StubE.cells 12 u OA o := fun u i => by haveI := (l9 w8).trans i; exact ((hoo.later u).at_ StubE.enc).2.2
      have HP : ∀ u [Later w9 u], SlAt StubE.cells 12 u PA p := fun u i => ((hpo.below i.below).at_ StubE.enc).2.2
      clear HC1 HC2 hoo hpo hemb hcl1 hcl2 ho hp
      go_wp2_with fail
      go_loopw [17, 18] (fun kv iv wr => ∃ (k i : Nat), i ≤ o.length ∧ k ≤ p.length ∧ kv = .int .i64 k ∧ iv = .int .i64 i ∧ Hid (Emb (fun a b => sameB a b = true) (o.drop i) (p.drop k)) ∧ Below w9.heap.size w9 wr) (fun _ iv _ => o.length - (intOf iv).toNat)
      case atStart => exact ⟨0, 0, by omega, by omega, rfl, rfl, hemb2, Below.refl _ _⟩
      case round =>
        obtain ⟨k, i, hi, hk, rfl, rfl, hE1, hbr9⟩ := hrel
        have lr9 := later hbr9
        by_cases hlt2 : i < o.length
        · have hii : (i : Int) < (o.length : Int) := by omega
          obtain ⟨b1, o1, a, rfl, ha, C1⟩ := StubE.get (HO wr) hlt2
          have hdo := hide (show o.drop i = a :: o.drop (i + 1) by rw [List.drop_eq_getElem_cons hlt2, (List.getElem?_eq_some_iff.1 ha).2])
          clear ha
          have lrr9 : Later wr wr := Later.refl
          go_wp2_with fail
          go_loopw [17] (fun kv w2 => ∃ k : Nat, k ≤ p.length ∧ kv = .int .i64 k ∧ Hid (Emb (fun a b => sameB a b = true) (o.drop i) (p.drop k)) ∧ Below wr.heap.size wr w2) (fun kv _ => p.length - (intOf kv).toNat)
          case atStart => exact ⟨k, hk, rfl, hE1, Below.refl _ _⟩
          case round =>
            obtain ⟨k, hk, rfl, hE2, hbr3⟩ := hrel
            have lr3 := later hbr3
            by_cases hlt3 : k < p.length
            · have hkk : (k : Int) < (p.length : Int) := by omega
              obtain ⟨b2, o2, b, rfl, hb, C2⟩ := StubE.get (HP wr) hlt3
              have hdp := hide (show p.drop k = b :: p.drop (k + 1) by rw [List.drop_eq_getElem_cons hlt3, (List.getElem?_eq_some_iff.1 hb).2])
              clear hb
              have HSm := fun (u : World) => same_any a b u
              cases hs : sameB a b <;> simp only [hs] at HSm
              · have hE3 := hide (show Emb (fun a b => sameB a b = true) (o.drop i) (p.drop (k + 1)) by
                  have := hE2.out
                  rw [hdo.out, hdp.out] at this
                  rw [hdo.out]
                  exact this.past (by rw [hs]; simp))
                clear hs
                go_upto_region 17 with fail
                (refine wp_region_after (by kernel_rfl) (by kernel_rfl) ?_
                 repeat (any_goals (first | go_big_quiet_skip | (go_big_quiet_want; go_big_quiet_op; first | go_big_quiet_on | go_big_quiet_call ((go_at_call 20; exact Calls.after (HSm _)))) | quiet_step ((go_at_call 20; exact Calls.after (HSm _))) | (refine wpQuiet_step (fun K hK => ?_); go_simp; split <;> (refine hK _ ?_; clear hK K))))
                 all_goals (refine wpQuiet_nil ?_; intro _ hw'; obtain ⟨u', hw''⟩ := hw'; subst hw''; obtain ⟨wd, hbd⟩ := u'; simp only [After.val_mk]))
                have ld := later hbd
                go_wp2_with fail
                go_roundw
                case rel => exact ⟨k + 1, by omega, by go_num, hE3, below_of⟩
                case measure => simp [intOf]; omega
              · have hE3 := hide (show Emb (fun a b => sameB a b = true) (o.drop (i + 1)) (p.drop (k + 1)) by
                  have := hE2.out
                  rw [hdo.out, hdp.out] at this
                  exact this.next)
                have hkn : ((k : Int) == (p.length : Int)) = false := by simp; omega
                clear hs
                go_upto_region 17 with fail
                (refine wp_region_after (by kernel_rfl) (by kernel_rfl) ?_
                 repeat (any_goals (first | go_big_quiet_skip | (go_big_quiet_want; go_big_quiet_op; first | go_big_quiet_on | go_big_quiet_call ((go_at_call 20; exact Calls.after (HSm _)))) | quiet_step ((go_at_call 20; exact Calls.after (HSm _))) | (refine wpQuiet_step (fun K hK => ?_); go_simp; split <;> (refine hK _ ?_; clear hK K))))
                 all_goals (refine wpQuiet_nil ?_; intro _ hw'; obtain ⟨u', hw''⟩ := hw'; subst hw''; obtain ⟨wd, hbd⟩ := u'; simp only [After.val_mk]))
                have ld := later hbd
                go_wp2_with fail
                go_roundw
                case rel => exact ⟨k + 1, i + 1, by omega, by omega, by go_num, by go_num, hE3, below_of⟩
                case measure => simp [intOf]; omega
            · exfalso
              have hke : k = p.length := by omega
              have := hE2.out
              rw [hdo.out, hke, List.drop_length] at this
              exact this.none
        · have hie : i = o.length := by omega
          subst hie
          go_wp2_with fail
          go_ret
          exact ⟨rfl, below_of⟩
end Go.Proofs.Ytnfpbkimdhhmfaa
