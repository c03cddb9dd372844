/-
  The law RetentionSums. Conditions stand in each theorem.
-/
import Derived.Test.YtffnogjgnpbjlaaD58Law4
set_option linter.unusedSimpArgs false
set_option linter.unusedVariables false
namespace Go.Proofs.Ytffnogjgnpbjlaa
open Go.RowKit
attribute [local go_sem] Oper.semAt_some
attribute [local simp] heap_drew
attribute [local go_sem ↓] run_eql_id run_neq_id
theorem setI_single (x : IDE) : setI [x] = [x] := (setI_unique (q := [x]) (List.pairwise_singleton _ _) fun y => Iff.rfl).symm
theorem sumW_single (L : List NodeC) (x : IDE) : sumW L (setI [x]) = wordsI L x := by rw [setI_single]; simp [sumW]
theorem word_one {A : Option Addr} {c : Nat} {l : List NodeE} {x1 x2 : Int} {g : Nat} {u : World} {t : TypeId} {fr : Nat × Nat} (H : NodesAt u A l) (hl : l.length ≤ 10000) (hf : ∀ n ∈ l, n.fields.length ≤ 10000) (hg : u.heap[g]? = some (.cells #[.int .i64 x1, .int .i64 x2] t fr)) :
    Calls Try.prog 20 #[.agg #[.slice A l.length c], .slice (some ⟨g, 0, none⟩) 1 1] u fun r w' => ∃ s, r = .returned (.int .i64 s) ∧ Hid (s = wordsI (conL l) ⟨x1, x2⟩) ∧ Below u.heap.size u w' := by
  have hb : SlAt IDE.cells 2 u (some ⟨g, 0, none⟩) [(⟨x1, x2⟩ : IDE)] := blk_slAt IDE.enc (fr := fr) (e := t) hg [⟨x1, x2⟩] rfl
  have h := Words_any A c l (some ⟨g, 0, none⟩) 1 [⟨x1, x2⟩] u H hb hl hf (by simp)
  exact h.mono fun r w' ⟨s, h1, h2, h3⟩ => ⟨s, h1, hide (by rw [h2.out, sumW_single]), h3⟩
/-- The words of one, and a sum of sizes, stay small. -/
theorem partS_step {z : List IDE} {s : List Int} {x y : IDE} {m : Nat} {v : Int} (hz : z[m]? = some y) (hs : s[m]? = some v) : partS z s x (m + 1) = partS z s x m + (if y = x then v else 0) := by
  rw [partS, hz, getD_of hs]
  congr 1
  by_cases h : y = x
  · rw [if_pos h, if_pos (by rw [h])]
  · rw [if_neg h, if_neg (fun e => h (by injection e))]
theorem partS_bnd {z : List IDE} {s : List Int} {x : IDE} {B : Int} (hB : ∀ v ∈ s, 0 ≤ v ∧ v ≤ B) (h0 : 0 ≤ B) : ∀ k, 0 ≤ partS z s x k ∧ partS z s x k ≤ k * B
  | 0 => by simp [partS]
  | k + 1 => by
    obtain ⟨h1, h2⟩ := partS_bnd hB h0 (z := z) (x := x) k
    have h3 : 0 ≤ s.getD k 0 ∧ s.getD k 0 ≤ B := by
      rw [List.getD_eq_getElem?_getD]
      cases h : s[k]? with
      | none => exact ⟨Int.le_refl _, h0⟩
      | some v => exact hB v (List.mem_of_getElem? h)
    rw [partS]
    have e : ((k + 1 : Nat) : Int) * B = k * B + B := by rw [Int.natCast_add, Int.add_mul]; simp
    rw [e]
    split <;> omega
theorem SizesL.bnd {L : List NodeC} {roots q : List IDE} {s : List Int} (hf : ∀ n ∈ L, n.fields.length ≤ 10000) (hl : L.length ≤ 10000) (h : SizesL L roots q s) : ∀ v ∈ s, 0 ≤ v ∧ v ≤ 100020000 := fun v hv => by
  obtain ⟨k, hk⟩ := List.getElem?_of_mem hv
  have hkq : k < q.length := by rw [← h.1]; exact get_lt hk
  obtain ⟨z, h1, h2⟩ := h.2 k _ (List.getElem?_eq_getElem hkq)
  rw [hk] at h1
  injection h1 with h1
  subst h1
  obtain ⟨p, hp⟩ := retL_exists L roots q[k]
  rw [h2 p hp]
  refine sumW_bnd hf (Nat.le_trans (nodup_len (b := nodeIds L) hp.1.nodup fun y hy => firstN_ids.1 ((hp.2 y).1 hy).1.node) ?_)
  unfold nodeIds Go.Proofs.Ytffnogjgnpbjlaa.ids
  rw [List.length_map]; exact hl
theorem partS_max {L : List NodeC} {roots q z : List IDE} {s : List Int} (hf : ∀ n ∈ L, n.fields.length ≤ 10000) (hl : L.length ≤ 10000) (h : SizesL L roots q s) (x : IDE) (k : Nat) (hk : k ≤ 100) : 0 ≤ partS z s x k ∧ partS z s x k ≤ 10002000000 := by
  obtain ⟨h1, h2⟩ := partS_bnd (z := z) (x := x) (h.bnd hf hl) (by omega) k
  refine ⟨h1, Int.le_trans h2 ?_⟩
  have : (k : Int) * 100020000 ≤ 100 * 100020000 := Int.mul_le_mul_of_nonneg_right (by omega) (by omega)
  omega
theorem setI_sortedE {q : List IDE} (h : SortedI q) : setI q = q := (setI_unique h fun y => Iff.rfl).symm
theorem sums_end {L : List NodeC} {roots q z : List IDE} {s : List Int} {T : Int} (ht : ∃ ids d, TreeOk L roots ids d) (hq : ReachL L roots q) (hz : DomsL L roots q z) (hs : SizesL L roots q s) (h0 : firstN L ⟨0, 0⟩ = none) (hT : T = sumW L (setI q)) : partS z s ⟨0, 0⟩ q.length = T := by
  obtain ⟨ids, d, T0⟩ := ht
  rw [hT, setI_sortedE hq.1]
  exact T0.sums_all hq hz hs h0
theorem wordsI_bd {l : List NodeE} (hf : ∀ n ∈ l, n.fields.length ≤ 10000) (x : IDE) : 0 ≤ wordsI (conL l) x ∧ wordsI (conL l) x ≤ 10002 := wordsI_bnd (conL_bnd hf) x
set_option maxRecDepth 100000 in
set_option maxHeartbeats 4000000 in
theorem lawSums_any (A : Option Addr) (c : Nat) (l : List NodeE) (RA : Option Addr) (rc : Nat) (roots : List IDE) (w : World) (H : GraphIn w A c l) (hR : SlAt IDE.cells 2 w RA roots) :
    Calls Try.prog 6 #[.agg #[.slice A l.length c], .slice RA roots.length rc] w fun r w' => r = .returned (.bool true) ∧ Below w.heap.size w w' := by
  have HG : ∀ u [Later w u], Calls Try.prog 11 #[.agg #[.slice A l.length c], .slice RA roots.length rc] u fun r w' => r = .returned (.bool (lrgB l roots)) ∧ Below u.heap.size u w' := fun u i => large_any A c l RA rc roots u ⟨H.at_.below i.below, H.len, H.fields⟩
  cases hlg : lrgB l roots with
  | true =>
    simp only [hlg] at HG
    go_enter Try.func6, Try.ntmps6
    go_upto_region 1 with fail
    refine wp_name ?_
    intro w1 hw1
    obtain ⟨B0, l1⟩ := box1 hw1
    clear hw1
    go_wp2_with (first | (go_at_call 10; refine (awake_any _).mono ?_; rintro r w2 ⟨rfl, hb2⟩; have l2 := later hb2) | (go_at_call 11; refine (HG _).mono ?_; rintro r w3 ⟨rfl, hb3⟩; have l3 := later hb3))
    go_ret
    exact ⟨rfl, below_of⟩
  | false =>
    simp only [hlg] at HG
    obtain ⟨hl, hf, hr⟩ := lrgB_no hlg
    have HN : ∀ u [Later w u], Calls Try.prog 22 #[.agg #[.slice A l.length c]] u fun r w' => r = .returned (.bool (firstE l ⟨0, 0⟩).isSome) ∧ Below u.heap.size u w' := fun u i => nameless_any A c l u (H.at_.below i.below) (by omega)
    cases hnm : (firstE l ⟨0, 0⟩).isSome with
    | true =>
      simp only [hnm] at HN
      clear hlg hnm
      go_enter Try.func6, Try.ntmps6
      go_upto_region 1 with fail
      refine wp_name ?_
      intro w1 hw1
      obtain ⟨B0, l1⟩ := box1 hw1
      clear hw1
      go_wp2_with (first | (go_at_call 10; refine (awake_any _).mono ?_; rintro r w2 ⟨rfl, hb2⟩; have l2 := later hb2) | (go_at_call 11; refine (HG _).mono ?_; rintro r w3 ⟨rfl, hb3⟩; have l3 := later hb3) | (go_at_call 22; refine (HN _).mono ?_; rintro r w4 ⟨rfl, hb4⟩; have l4 := later hb4))
      go_ret
      exact ⟨rfl, below_of⟩
    | false =>
      simp only [hnm] at HN
      have h0 := hide (show firstN (conL l) ⟨0, 0⟩ = none by
        rw [firstE_N]
        cases h : firstE l ⟨0, 0⟩ with
        | none => rfl
        | some m => rw [h] at hnm; cases hnm)
      have HD : ∀ u [Later w u], Calls Try.prog 12 #[.agg #[.slice A l.length c], .slice RA roots.length rc] u (DomP (conL l) roots u) := fun u i => doms_any A c l RA rc roots u (H.at_.below i.below) (hR.below i.below) (by omega) hf (by omega)
      have HZ : ∀ u [Later w u], Calls Try.prog 15 #[.agg #[.slice A l.length c], .slice RA roots.length rc] u (SizP (conL l) roots u) := fun u i => sizes_any A c l RA rc roots u (H.at_.below i.below) (hR.below i.below) (by omega) hf (by omega)
      have HW1 : ∀ (x1 x2 : Int) (g : Nat) (t : TypeId) (fr : Nat × Nat) (u : World) [Later w u], u.heap[g]? = some (.cells #[.int .i64 x1, .int .i64 x2] t fr) → Calls Try.prog 20 #[.agg #[.slice A l.length c], .slice (some ⟨g, 0, none⟩) 1 1] u fun r w' => ∃ s, r = .returned (.int .i64 s) ∧ Hid (s = wordsI (conL l) ⟨x1, x2⟩) ∧ Below u.heap.size u w' := fun x1 x2 g t fr u i hg => word_one (H.at_.below i.below) (by omega) hf hg
      have HW2 : ∀ (p : List IDE) (PA : Option Addr) (PC : Nat) (u : World) [Later w u], SlAt IDE.cells 2 u PA p → p.length ≤ 100 → Calls Try.prog 20 #[.agg #[.slice A l.length c], .slice PA p.length PC] u (WorP (conL l) p u) := fun p PA PC u i hp hpl => Words_any A c l PA PC p u (H.at_.below i.below) hp (by omega) hf (by omega)
      clear hlg hnm
      go_enter Try.func6, Try.ntmps6
      go_upto_region 1 with fail
      refine wp_name ?_
      intro w1 hw1
      obtain ⟨B0, l1⟩ := box1 hw1
      clear hw1
      go_upto_region 5 with (first | (go_at_call 10; refine (awake_any _).mono ?_; rintro r w2 ⟨rfl, hb2⟩; have l2 := later hb2) | (go_at_call 11; refine (HG _).mono ?_; rintro r w3 ⟨rfl, hb3⟩; have l3 := later hb3) | (go_at_call 22; refine (HN _).mono ?_; rintro r w4 ⟨rfl, hb4⟩; have l4 := later hb4))
      go_upto_region 6 with (go_at_call 12; refine (HD _).mono ?_; intro r w5 hh; obtain ⟨q, z, QA, QC, ZA, ZC, rfl, hq, hoq, hoz, hb5⟩ := hh; have l5 := later hb5)
      go_upto_region 7 with (go_at_call 15; refine (HZ _).mono ?_; intro r w6 hh; obtain ⟨q', s, QA', QC', SA, SC, rfl, hq', hoq', hos, _, hb6⟩ := hh; have l6 := later hb6)
      have l66 : Later w6 w6 := Later.refl
      have hql := reachL_len hq.out.1 hl
      have heq : q' = q := reachL_same hq'.out.1 hq.out.1
      subst heq
      have hzq : z.length = q'.length := hq.out.2.1.1
      have hsq : s.length = q'.length := hq'.out.2.1.1
      have HQ : ∀ u [Later w6 u], SlAt IDE.cells 2 u QA q' := fun u i => by haveI := (l6 w5).trans i; exact ((hoq.later u).at_ IDE.enc).2.2
      have HQ' : ∀ u [Later w6 u], SlAt IDE.cells 2 u QA' q' := fun u i => ((hoq'.below i.below).at_ IDE.enc).2.2
      have HZl : ∀ u [Later w6 u], SlAt IDE.cells 2 u ZA z := fun u i => by
        rw [← hzq] at hoz
        haveI := (l6 w5).trans i; exact ((hoz.later u).at_ IDE.enc).2.2
      have HSl : ∀ u [Later w6 u], SlAt I64.cells 1 u SA s := fun u i => by
        rw [← hsq] at hos
        exact ((hos.below i.below).at_ I64.enc).2.2
      have HSm : ∀ u [Later w6 u], Calls Try.prog 14 #[.slice QA q'.length QC, .slice QA' q'.length QC'] u fun r w' => r = .returned (.bool true) ∧ Below u.heap.size u w' := fun u i => same21_true (HQ u) (HQ' u) (by omega) rfl
      have hsum := hide (show ∀ (i : Nat) (x : IDE), q'[i]? = some x → s[i]? = some (wordsI (conL l) x + partS z s x q'.length) from fun i x hi => by
        obtain ⟨ids, d, T⟩ := hq.out.2.2
        exact T.sums hq.out.1 hq.out.2.1 hq'.out.2.1 h0.out hi)
      have hend := hide (show ∀ T, T = sumW (conL l) (setI q') → partS z s ⟨0, 0⟩ q'.length = T from fun T hT => sums_end hq.out.2.2 hq.out.1 hq.out.2.1 hq'.out.2.1 h0.out hT)
      have hcl : (conL l).length ≤ 10000 := by unfold conL; rw [List.length_map]; omega
      have hpm := hide (show ∀ (x : IDE) (k : Nat), k ≤ 100 → 0 ≤ partS z s x k ∧ partS z s x k ≤ 10002000000 from fun x k hk => partS_max (conL_bnd hf) hcl hq'.out.2.1 x k hk)
      have hvb := hide (hq'.out.2.1.bnd (conL_bnd hf) hcl)
      have hwb := hide (fun x : IDE => wordsI_bd hf x)
      have Hzq := hide hzq
      have Hsq := hide hsq
      clear hzq hsq hcl hq hq' hoq hoq' hoz hos HG HN HD HZ h0
      go_upto_region 9 with (go_at_call 14; refine (HSm _).mono ?_; rintro r w7 ⟨rfl, hb7⟩; have l7 := later hb7)
      have l77 : Later w7 w7 := Later.refl
      have lw7 : Later w w7 := by infer_instance
      have l67 : Later w6 w7 := by infer_instance
      clear HSm HQ'
      go_wp2_with fail
      go_loopw [9, 10] (fun sv iv wr => ∃ (k : Nat) (t : Int), k ≤ q'.length ∧ iv = .int .i64 k ∧ sv = .int .i64 t ∧ Hid (t = partS z s ⟨0, 0⟩ k) ∧ Below w7.heap.size w7 wr) (fun _ iv _ => q'.length - (intOf iv).toNat)
      case atStart => exact ⟨0, 0, by omega, rfl, rfl, hide rfl, Below.refl _ _⟩
      case round =>
        obtain ⟨k, t, hk, rfl, rfl, ht, hbr⟩ := hrel
        have lr := later hbr
        have lrr : Later wr wr := Later.refl
        obtain ⟨wO, rfl⟩ : ∃ z, z = wr := ⟨_, rfl⟩
        by_cases hlt : k < q'.length
        · have hki : (k : Int) < (q'.length : Int) := by omega
          obtain ⟨x, hx⟩ : ∃ y, q'[k]? = some y := ⟨_, List.getElem?_eq_getElem hlt⟩
          obtain ⟨y0, hy0⟩ : ∃ y, z[k]? = some y := ⟨_, List.getElem?_eq_getElem (by rw [Hzq.out]; exact hlt)⟩
          obtain ⟨v, hv⟩ : ∃ y, s[k]? = some y := ⟨_, List.getElem?_eq_getElem (by rw [Hsq.out]; exact hlt)⟩
          have hvv := hide (show v = wordsI (conL l) x + partS z s x q'.length by
            have h := hsum.out k x hx
            rw [hv] at h
            exact Option.some.inj h)
          obtain ⟨hv0, hv1⟩ := hvb.out v (List.mem_of_getElem? hv)
          obtain ⟨bq, oq, rfl, X1, X2⟩ := id_at (HQ wO) hx
          obtain ⟨bz, oz, rfl, Y1, Y2⟩ := id_at (HZl wO) hy0
          obtain ⟨bs, os, rfl, V1⟩ := int_at (HSl wO) hv
          have hstep := hide (partS_step (x := ⟨0, 0⟩) hy0 hv)
          obtain ⟨ht0, ht1⟩ := (show 0 ≤ t ∧ t ≤ 10002000000 by rw [ht.out]; exact hpm.out _ _ (by omega))
          clear hx hy0 hv
          have hxb := hide (hwb.out x)
          have hpx := hide (fun m => hpm.out x m)
          obtain ⟨x1, x2⟩ := x
          obtain ⟨y1, y2⟩ := y0
          dsimp only at X1 X2 Y1 Y2
          go_upto_region 13 with fail
          refine wp_region_held_drew (S := fun w' => ∀ b [Later b wO], Later b w') (by kernel_rfl) (fun b _ => inferInstance) (fun hHeld => ?_)
          have hdr : ∀ b [Later b wO], Later b wO.drew := fun b _ => inferInstance
          obtain ⟨wz, hwz⟩ : ∃ z, z = wO.drew := ⟨_, rfl⟩
          rw [← hwz] at hHeld hdr ⊢
          clear hwz
          have lz := hdr wO
          refine wpAnyH_take (i := 0) (oi := _) (v := ?_) rfl (by kernel_rfl) (by kernel_rfl) (by kernel_rfl) (fun _ _ _ h => h) (Or.inl ⟨by rfl, ?_⟩) (by assumption) ?_
          rotate_left 1
          · (intro wy hSw; (try dsimp only at hSw); go_simp; try with_reducible rfl)
          (try simp only [Act.put, List.getElem_toArray, List.getElem_cons_succ, List.getElem_cons_zero, List.setIfInBounds_toArray, List.set_cons_zero, List.set_cons_succ])
          refine wpAnyH_take (i := 1) (oi := _) (v := ?_) rfl (by kernel_rfl) (by kernel_rfl) (by kernel_rfl) (fun _ _ _ h => h) (Or.inl ⟨by rfl, ?_⟩) (by assumption) ?_
          rotate_left 1
          · (intro wy hSw; (try dsimp only at hSw); go_simp; try with_reducible rfl)
          (try simp only [Act.put, List.getElem_toArray, List.getElem_cons_succ, List.getElem_cons_zero, List.setIfInBounds_toArray, List.set_cons_zero, List.set_cons_succ])
          refine wpAnyH_take (i := 2) (oi := _) (v := ?_) rfl (by kernel_rfl) (by kernel_rfl) (by kernel_rfl) (fun _ _ _ h => h) (Or.inl ⟨by rfl, ?_⟩) (by assumption) ?_
          rotate_left 1
          · (intro wy hSw; (try dsimp only at hSw); go_simp; try with_reducible rfl)
          (try simp only [Act.put, List.getElem_toArray, List.getElem_cons_succ, List.getElem_cons_zero, List.setIfInBounds_toArray, List.set_cons_zero, List.set_cons_succ])
          refine wpAnyH_take (i := 3) (oi := _) (v := ?_) rfl (by kernel_rfl) (by kernel_rfl) (by kernel_rfl) (fun _ _ _ h => h) (Or.inl ⟨by rfl, ?_⟩) (by assumption) ?_
          rotate_left 1
          · (intro wy hSw; (try dsimp only at hSw); go_simp; try with_reducible rfl)
          (try simp only [Act.put, List.getElem_toArray, List.getElem_cons_succ, List.getElem_cons_zero, List.setIfInBounds_toArray, List.set_cons_zero, List.set_cons_succ])
          refine wpAnyH_take (i := 4) (oi := _) (v := ?_) rfl (by kernel_rfl) (by kernel_rfl) (by kernel_rfl) (fun _ _ _ h => h) (Or.inl ⟨by rfl, ?_⟩) (by assumption) ?_
          rotate_left 1
          · (intro wy hSw; (try dsimp only at hSw); go_simp; try with_reducible rfl)
          (try simp only [Act.put, List.getElem_toArray, List.getElem_cons_succ, List.getElem_cons_zero, List.setIfInBounds_toArray, List.set_cons_zero, List.set_cons_succ])
          refine wpAnyH_ready (rs := [5]) (by kernel_rfl) (by simp) ?_
          refine AllReadyH.cons (o := _) rfl ?_ AllReadyH.nil
          intro K9 hK9
          go_simp
          refine hK9.out _ _ (fun b _ => inferInstance) (fun hHeld2 => ?_)
          clear hK9 K9 hHeld
          (try simp only [Act.put, List.getElem_toArray, List.getElem_cons_succ, List.getElem_cons_zero, List.setIfInBounds_toArray, List.set_cons_zero, List.set_cons_succ])
          have kx : (wz.alloc (.cells #[.int .i64 x1, .int .i64 x2] 46 (0, 0))).heap[wz.heap.size]? = some (.cells #[.int .i64 x1, .int .i64 x2] 46 (0, 0)) := heap_alloc_new _ _
          refine wpAnyH_ready (rs := [6]) (by kernel_rfl) (by simp) ?_
          refine AllReadyH.cons (o := _) rfl ?_ AllReadyH.nil
          intro K9 hK9
          go_simp
          refine (HW1 x1 x2 _ _ _ _ kx).mono ?_
          rintro r w9 ⟨W, rfl, hW, hb9⟩
          have l9 := later hb9
          (try dsimp only)
          refine hK9.out _ _ (fun b _ => inferInstance) (fun hHeld => ?_)
          clear hK9 K9 hHeld2
          (try simp only [Act.put, List.getElem_toArray, List.getElem_cons_succ, List.getElem_cons_zero, List.setIfInBounds_toArray, List.set_cons_zero, List.set_cons_succ])
          refine wpAnyH_take (i := 7) (oi := _) (v := ?_) rfl (by kernel_rfl) (by kernel_rfl) (by kernel_rfl) (fun _ _ _ h => h) (Or.inl ⟨by rfl, ?_⟩) (by assumption) ?_
          rotate_left 1
          · (intro wy hSw; (try dsimp only at hSw); go_simp; try with_reducible rfl)
          (try simp only [Act.put, List.getElem_toArray, List.getElem_cons_succ, List.getElem_cons_zero, List.setIfInBounds_toArray, List.set_cons_zero, List.set_cons_succ])
          refine wpAnyH_done (by kernel_rfl) ?_ _
          have l99 : Later w9 w9 := Later.refl
          have lO9 : ∀ b [Later b wO], Later b w9 := fun b _ => by infer_instance
          clear hHeld kx hb9 l9 hdr
          obtain ⟨hW0, hW1⟩ := (show 0 ≤ W ∧ W ≤ 10002 by rw [hW.out]; exact hxb.out)
          go_wp2_with fail
          go_loopw [11, 12] (fun tv mv wr => ∃ (m : Nat) (tt : Int), m ≤ q'.length ∧ mv = .int .i64 m ∧ tv = .int .i64 tt ∧ Hid (tt = W + partS z s ⟨x1, x2⟩ m) ∧ Below w9.heap.size w9 wr) (fun _ mv _ => q'.length - (intOf mv).toNat)
          case atStart => exact ⟨0, W, by omega, rfl, rfl, hide (by simp [partS]), Below.refl _ _⟩
          case round =>
            obtain ⟨m, tt, hm, rfl, rfl, htt, hbm⟩ := hrel
            have lm := later hbm
            have lmm : Later wr wr := Later.refl
            by_cases hltm : m < q'.length
            · have hmi : (m : Int) < (q'.length : Int) := by omega
              obtain ⟨n, hn⟩ : ∃ y, z[m]? = some y := ⟨_, List.getElem?_eq_getElem (by rw [Hzq.out]; exact hltm)⟩
              obtain ⟨u, hu⟩ : ∃ y, s[m]? = some y := ⟨_, List.getElem?_eq_getElem (by rw [Hsq.out]; exact hltm)⟩
              obtain ⟨b2, o2, e2, N1, N2⟩ := id_at (HZl wO) hn
              cases e2
              obtain ⟨b3, o3, e3, U1⟩ := int_at (HSl wO) hu
              cases e3
              obtain ⟨hu0, hu1⟩ := hvb.out u (List.mem_of_getElem? hu)
              have hst := hide (partS_step (x := ⟨x1, x2⟩) hn hu)
              obtain ⟨htt0, htt1⟩ := (show 0 ≤ tt ∧ tt ≤ 20002000000 by have := hpx.out m (by omega); rw [htt.out]; omega)
              have hwr : IntKind.i64.wrap (tt + u) = tt + u := by rw [IntKind.wrap_i64]; omega
              have he := @ideq_iff n ⟨x1, x2⟩
              clear hn hu
              by_cases hnx : n = ⟨x1, x2⟩
              · have hnew := hide (show tt + u = W + partS z s ⟨x1, x2⟩ (m + 1) by rw [hst.out, if_pos hnx, htt.out]; omega)
                have he2 : ideq n.machine n.serial x1 x2 = true := he.trans (decide_eq_true hnx)
                clear he hnx
                obtain ⟨n1, n2⟩ := n
                dsimp only at N1 N2 he2
                go_upto_region 17 with fail
                (refine wp_region_after (by kernel_rfl) (by kernel_rfl) ?_
                 repeat (any_goals (first | go_big_quiet_skip | (go_big_quiet_want; go_big_quiet_op; first | go_big_quiet_on | go_big_quiet_call (fail)) | quiet_step (fail) | (refine wpQuiet_step (fun K hK => ?_); go_simp; split <;> (refine hK _ ?_; clear hK K))))
                 all_goals (refine wpQuiet_nil ?_; intro _ hw'; obtain ⟨u', hw''⟩ := hw'; subst hw''; obtain ⟨wd, hbd⟩ := u'; simp only [After.val_mk]))
                have ld := later hbd
                go_wp2_with fail
                go_roundw
                case rel => exact ⟨m + 1, tt + u, by omega, by go_num, rfl, hnew, below_of⟩
                case measure => simp [intOf]; omega
              · have hnew := hide (show tt = W + partS z s ⟨x1, x2⟩ (m + 1) by rw [hst.out, if_neg hnx, htt.out]; omega)
                have he2 : ideq n.machine n.serial x1 x2 = false := he.trans (decide_eq_false hnx)
                clear he hnx
                obtain ⟨n1, n2⟩ := n
                dsimp only at N1 N2 he2
                go_upto_region 17 with fail
                (refine wp_region_after (by kernel_rfl) (by kernel_rfl) ?_
                 repeat (any_goals (first | go_big_quiet_skip | (go_big_quiet_want; go_big_quiet_op; first | go_big_quiet_on | go_big_quiet_call (fail)) | quiet_step (fail) | (refine wpQuiet_step (fun K hK => ?_); go_simp; split <;> (refine hK _ ?_; clear hK K))))
                 all_goals (refine wpQuiet_nil ?_; intro _ hw'; obtain ⟨u', hw''⟩ := hw'; subst hw''; obtain ⟨wd, hbd⟩ := u'; simp only [After.val_mk]))
                have ld := later hbd
                go_wp2_with fail
                go_roundw
                case rel => exact ⟨m + 1, tt, by omega, by go_num, rfl, hnew, below_of⟩
                case measure => simp [intOf]; omega
            · have hmm : m = q'.length := by omega
              have htv : tt = v := by rw [htt.out, hvv.out, hW.out, hmm]
              clear htt
              subst htv
              subst hmm
              have hwr : IntKind.i64.wrap (t + tt) = t + tt := by rw [IntKind.wrap_i64]; omega
              have he := @ideq_iff ⟨y1, y2⟩ ⟨0, 0⟩
              dsimp only at he
              by_cases hy0 : (⟨y1, y2⟩ : IDE) = ⟨0, 0⟩
              · have hnew := hide (show t + tt = partS z s ⟨0, 0⟩ (k + 1) by rw [hstep.out, if_pos hy0, ht.out])
                have he2 : ideq y1 y2 0 0 = true := he.trans (decide_eq_true hy0)
                clear he hy0
                go_wp2_with fail
                go_roundw
                case rel => exact ⟨k + 1, t + tt, by omega, by go_num, rfl, hnew, below_of⟩
                case measure => simp [intOf]; omega
              · have hnew := hide (show t = partS z s ⟨0, 0⟩ (k + 1) by rw [hstep.out, if_neg hy0, ht.out]; omega)
                have he2 : ideq y1 y2 0 0 = false := he.trans (decide_eq_false hy0)
                clear he hy0
                go_wp2_with fail
                go_roundw
                case rel => exact ⟨k + 1, t, by omega, by go_num, rfl, hnew, below_of⟩
                case measure => simp [intOf]; omega
        · have hkk : k = q'.length := by omega
          subst hkk
          go_wp2_with (go_at_call 20; refine (HW2 q' QA QC _ (HQ _) (by omega)).mono ?_; rintro r w20 ⟨T, rfl, hT, hb20⟩; have l20 := later hb20; have hTe := hend.out T hT.out; rw [← ht.out] at hTe; subst hTe)
          go_ret
          exact ⟨by first | rfl | simp, below_of⟩
end Go.Proofs.Ytffnogjgnpbjlaa
