/-
  The law RetentionForest. Conditions stand in the theorem.
-/
import Derived.Test.YtffnogjgnpbjlaaD58Law4
set_option linter.unusedSimpArgs false
set_option linter.unusedVariables false
namespace Go.Proofs.Ytffnogjgnpbjlaa
open Go.RowKit
attribute [local go_sem] Oper.semAt_some
attribute [local simp] heap_drew
attribute [local go_sem ↓] run_eql_id run_neq_id
theorem idT6 : ElemT Try.prog 25 46 2 16 := ElemT.mk' (z := .agg #[.int .i64 0, .int .i64 0]) Try.underlying25 (by kernel_rfl) rfl
theorem heap_grownNe {w w' : World} {v : Value} {k : Nat} {o : Obj} (hg : w.grownBy w' v.ownBlock) (hx : w.heap[k]? = some o) (hne : ∀ j, v.ownBlock = some j → j ≠ k) : w'.heap[k]? = some o := by
  cases hv : v.ownBlock with
  | none => rw [hv] at hg; exact grown_none hg hx
  | some j => rw [hv] at hg; exact grown_heap hg hx (fun e => hne j hv e.symm)
theorem own_newNe {v v' : Value} {z k : Nat} (h : v'.ownBlock = v.ownBlock ∨ ∃ g, z ≤ g ∧ v'.ownBlock = some g) (hz : k < z) (hne : ∀ j, v.ownBlock = some j → j ≠ k) : ∀ j, v'.ownBlock = some j → j ≠ k := fun j hj => by
  rcases h with h | ⟨g, h1, h2⟩
  · exact hne j (h ▸ hj)
  · rw [h2] at hj; injection hj with hj; omega
theorem climb_len {L : List NodeC} {roots q P : List IDE} {y cur : IDE} (h : Climb L roots y P cur) (hq : ReachL L roots q) : P.length ≤ q.length := nodup_len h.nodup fun x hx => (hq.2 x).2 (h.sound x hx).reach
theorem climb_end {L : List NodeC} {roots P : List IDE} {y : IDE} (h : Climb L roots y P ⟨0, 0⟩) (h0 : firstN L ⟨0, 0⟩ = none) (x : IDE) : RetP L roots x y ↔ x ∈ P := by
  rcases h.next with ⟨_, h1⟩ | ⟨_, h2, _⟩
  · exact ⟨h1 x, h.sound x⟩
  · have := h2.reach.node
    rw [h0] at this; cases this
theorem climb_reach {L : List NodeC} {roots P : List IDE} {y cur : IDE} (h : Climb L roots y P cur) (hc : cur ≠ ⟨0, 0⟩) : Reach L roots cur := by
  rcases h.next with ⟨e, _⟩ | ⟨_, h2, _⟩
  · exact absurd e hc
  · exact h2.reach
/-- What the search for the dominator has found. -/
def FindZ (q z : List IDE) (x : IDE) (k : Nat) (b : Bool) (n : IDE) : Prop := (b = false ∧ ∀ (j : Nat), j < k → q[j]? ≠ some x) ∨ (b = true ∧ ∃ j : Nat, q[j]? = some x ∧ z[j]? = some n)
theorem FindZ.hit {q z : List IDE} {x n m : IDE} {k : Nat} {b : Bool} (_ : FindZ q z x k b n) (hq : q[k]? = some x) (hz : z[k]? = some m) : FindZ q z x (k + 1) true m := .inr ⟨rfl, k, hq, hz⟩
theorem FindZ.miss {q z : List IDE} {x y n : IDE} {k : Nat} {b : Bool} (h : FindZ q z x k b n) (hq : q[k]? = some y) (hne : ¬ y = x) : FindZ q z x (k + 1) b n := by
  rcases h with ⟨h1, h2⟩ | h
  · refine .inl ⟨h1, fun j hj => ?_⟩
    rcases Nat.lt_or_ge j k with h3 | h3
    · exact h2 j h3
    · have : j = k := by omega
      subst this
      rw [hq]
      exact fun e => hne (Option.some.inj e)
  · exact .inr h
theorem FindZ.found {L : List NodeC} {roots q z : List IDE} {x n : IDE} {b : Bool} (h : FindZ q z x q.length b n) (hq : ReachL L roots q) (hz : DomsL L roots q z) (hx : Reach L roots x) : b = true ∧ IdomZ L roots x n := by
  rcases h with ⟨_, h2⟩ | ⟨h1, j, h3, h4⟩
  · obtain ⟨j, hj⟩ := List.getElem?_of_mem ((hq.2 x).2 hx)
    exact absurd hj (h2 j (get_lt hj))
  · obtain ⟨m, h5, h6⟩ := hz.2 j x h3
    rw [h4] at h5
    exact ⟨h1, Option.some.inj h5 ▸ h6⟩
theorem kept_dec {L : List NodeC} {roots q : List IDE} {k : Nat} {ks : List KE} {P : List IDE} {x y : IDE} {e : KE} (hk : Kept L roots q q.length ks) (he : ks[k]? = some e) (hx : q[k]? = some x) (hP : ∀ x, RetP L roots x y ↔ x ∈ P) : decide (y ∈ e.l) = decide (x ∈ P) := by
  obtain ⟨x', h1, h2⟩ := hk.2 k e he
  rw [hx] at h1
  injection h1 with h1
  subst h1
  rw [Bool.eq_iff_iff, decide_eq_true_iff, decide_eq_true_iff, h2.2, hP]
set_option maxRecDepth 100000 in
set_option maxHeartbeats 8000000 in
theorem lawForest_any (A : Option Addr) (c : Nat) (l : List NodeE) (RA : Option Addr) (rc : Nat) (roots : List IDE) (w : World) (H : GraphIn w A c l) (hR : SlAt IDE.cells 2 w RA roots) :
    Calls Try.prog 5 #[.agg #[.slice A l.length c], .slice RA roots.length rc] w fun r w' => r = .returned (.bool true) ∧ Below w.heap.size w w' := by
  have HG : ∀ u [Later w u], Calls Try.prog 11 #[.agg #[.slice A l.length c], .slice RA roots.length rc] u fun r w' => r = .returned (.bool (lrgB l roots)) ∧ Below u.heap.size u w' := fun u i => large_any A c l RA rc roots u ⟨H.at_.below i.below, H.len, H.fields⟩
  cases hlg : lrgB l roots with
  | true =>
    simp only [hlg] at HG
    go_enter Try.func5, Try.ntmps5
    go_upto_region 1 with fail
    refine wp_name ?_
    intro w1 hw1
    obtain ⟨B0, l1⟩ := box1 hw1
    clear hw1
    go_wp2_with (first | (go_at_call 10; refine (awake_any _).mono ?_; rintro r w2 ⟨rfl, hb2⟩; have l2 := later hb2) | (go_at_call 11; refine (HG _).mono ?_; rintro r w3 ⟨rfl, hb3⟩; have l3 := later hb3))
    go_ret
    exact ⟨rfl, below_of⟩
  | false =>
    simp only [hlg] at HG
    obtain ⟨hl, hf, hr⟩ := lrgB_no hlg
    have HN : ∀ u [Later w u], Calls Try.prog 22 #[.agg #[.slice A l.length c]] u fun r w' => r = .returned (.bool (firstE l ⟨0, 0⟩).isSome) ∧ Below u.heap.size u w' := fun u i => nameless_any A c l u (H.at_.below i.below) (by omega)
    cases hnm : (firstE l ⟨0, 0⟩).isSome with
    | true =>
      simp only [hnm] at HN
      clear hlg hnm
      go_enter Try.func5, Try.ntmps5
      go_upto_region 1 with fail
      refine wp_name ?_
      intro w1 hw1
      obtain ⟨B0, l1⟩ := box1 hw1
      clear hw1
      go_wp2_with (first | (go_at_call 10; refine (awake_any _).mono ?_; rintro r w2 ⟨rfl, hb2⟩; have l2 := later hb2) | (go_at_call 11; refine (HG _).mono ?_; rintro r w3 ⟨rfl, hb3⟩; have l3 := later hb3) | (go_at_call 22; refine (HN _).mono ?_; rintro r w4 ⟨rfl, hb4⟩; have l4 := later hb4))
      go_ret
      exact ⟨rfl, below_of⟩
    | false =>
      simp only [hnm] at HN
      have h0 := hide (show firstN (conL l) ⟨0, 0⟩ = none by
        rw [firstE_N]
        cases h : firstE l ⟨0, 0⟩ with
        | none => rfl
        | some m => rw [h] at hnm; cases hnm)
      have HD : ∀ u [Later w u], Calls Try.prog 12 #[.agg #[.slice A l.length c], .slice RA roots.length rc] u (DomP (conL l) roots u) := fun u i => doms_any A c l RA rc roots u (H.at_.below i.below) (hR.below i.below) (by omega) hf (by omega)
      have HRet : ∀ (x : IDE) (u : World) [Later w u], Calls Try.prog 23 #[.agg #[.slice A l.length c], x.v, .slice RA roots.length rc] u (RetPP (conL l) roots x u) := fun x u i => ret_any A c l x RA rc roots u (H.at_.below i.below) (hR.below i.below) (by omega) hf (by omega)
      clear hlg hnm
      go_enter Try.func5, Try.ntmps5
      go_upto_region 1 with fail
      refine wp_name ?_
      intro w1 hw1
      obtain ⟨B0, l1⟩ := box1 hw1
      clear hw1
      go_upto_region 5 with (first | (go_at_call 10; refine (awake_any _).mono ?_; rintro r w2 ⟨rfl, hb2⟩; have l2 := later hb2) | (go_at_call 11; refine (HG _).mono ?_; rintro r w3 ⟨rfl, hb3⟩; have l3 := later hb3) | (go_at_call 22; refine (HN _).mono ?_; rintro r w4 ⟨rfl, hb4⟩; have l4 := later hb4))
      go_upto_region 6 with (go_at_call 12; refine (HD _).mono ?_; intro r w5 hh; obtain ⟨q, z, QA, QC, ZA, ZC, rfl, hq, hoq, hoz, hb5⟩ := hh; have l5 := later hb5)
      have l55 : Later w5 w5 := Later.refl
      have hql := reachL_len hq.out.1 hl
      have hzq : z.length = q.length := hq.out.2.1.1
      have HQ : ∀ u [Later w5 u], SlAt IDE.cells 2 u QA q := fun u i => ((hoq.below i.below).at_ IDE.enc).2.2
      have HZl : ∀ u [Later w5 u], SlAt IDE.cells 2 u ZA z := fun u i => by
        rw [← hzq] at hoz
        exact ((hoz.below i.below).at_ IDE.enc).2.2
      have Hzq := hide hzq
      have HT := hide hq.out.2.2
      have Hq := hide hq.out.1
      have Hz := hide hq.out.2.1
      have hS2 := HQ w5
      clear hzq hq hoq hoz HG HN HD
      go_upto_region 9 with fail
      refine wp_name ?_
      intro w3 hw3
      obtain ⟨w2, hw2⟩ : ∃ x, x = w5 := ⟨_, rfl⟩
      have hk3 : Own KE.cells 1 25 w5.heap.size w3 (.slice (some ⟨w5.heap.size, 0, none⟩) 0 0) ([] : List KE) := Own.empty_blk (Nat.le_refl _) (by rw [← hw3]; exact heap_alloc_new _ _)
      have hb3 : Below w5.heap.size w5 w3 := by rw [← hw3]; exact (by repeat (first | with_reducible exact Below.refl _ _ | (with_reducible refine Below.drew ?_) | (with_reducible refine below_drewN ?_ _) | (with_reducible refine Below.alloc ?_ ?_ _; rotate_left; (first | omega | (simp <;> omega))) | (with_reducible refine Below.setCell ?_ ?_ _; rotate_left; (first | omega | (simp <;> omega)))))
      clear hw3
      rw [← hw2] at hS2 HQ HZl l55 l5 hk3 hb3 ⊢
      clear hw2
      have lw2 : Later w w2 := by infer_instance
      go_wp2_with fail
      go_loopw [7, 8] (fun ov kv wr => ∃ (k : Nat) (ks : List KE) (KA : Option Addr) (KC : Nat), k ≤ q.length ∧ kv = .int .i64 k ∧ ov = .slice KA k KC ∧ Hid (Kept (conL l) roots q k ks) ∧ Own KE.cells 1 25 w2.heap.size wr (.slice KA k KC) ks ∧ Hid (∀ x ∈ ks, Own IDE.cells 2 46 w2.heap.size wr x.v x.l) ∧ Below w2.heap.size w2 wr) (fun _ kv _ => q.length - (intOf kv).toNat)
      case atStart => exact ⟨0, [], _, _, by omega, rfl, rfl, hide ⟨rfl, fun j x h => by cases h⟩, hk3, hide (fun x h => by cases h), hb3⟩
      case round =>
        obtain ⟨k, ks, KA, KC, hk, rfl, rfl, hks, hok, hoe, hbr⟩ := hrel
        have lr := later hbr
        have lrr : Later wr wr := Later.refl
        by_cases hlt : k < q.length
        · have hki : (k : Int) < (q.length : Int) := by omega
          obtain ⟨y, hy⟩ : ∃ y, q[k]? = some y := ⟨_, List.getElem?_eq_getElem hlt⟩
          obtain ⟨b9, o9, rfl, C1, C2⟩ := id_at hS2 hy
          have Hy := hide hy
          have HRy := fun (u : World) (j : Later w u) => HRet y u
          have hkl := hide (show ks.length + 1 = k + 1 by rw [hks.out.1])
          clear hy
          obtain ⟨y1, y2⟩ := y
          dsimp only at C1 C2
          dsimp only [IDE.v] at HRy
          go_upto_region 12 with fail
          refine wp_region_held_drew (S := fun w' => ∀ b [Later b w2], Later b w') (by kernel_rfl) (fun b _ => inferInstance) (fun hHeld => ?_)
          have hdr : ∀ b [Later b wr], Later b wr.drew := fun b _ => inferInstance
          have hok' := hok.below (show Below wr.heap.size wr wr.drew from (Below.refl _ _).drew)
          obtain ⟨wz, hwz⟩ : ∃ z, z = wr.drew := ⟨_, rfl⟩
          rw [← hwz] at hHeld hdr hok' ⊢
          clear hwz
          have lz := hdr wr
          refine wpAnyH_take (i := 0) (oi := _) (v := ?_) rfl (by kernel_rfl) (by kernel_rfl) (by kernel_rfl) (fun _ _ _ h => h) (Or.inl ⟨by rfl, ?_⟩) (by assumption) ?_
          rotate_left 1
          · (intro wy hSw; (try dsimp only at hSw); go_simp; try with_reducible rfl)
          (try simp only [Act.put, List.getElem_toArray, List.getElem_cons_succ, List.getElem_cons_zero, List.setIfInBounds_toArray, List.set_cons_zero, List.set_cons_succ])
          refine wpAnyH_take (i := 1) (oi := _) (v := ?_) rfl (by kernel_rfl) (by kernel_rfl) (by kernel_rfl) (fun _ _ _ h => h) (Or.inl ⟨by rfl, ?_⟩) (by assumption) ?_
          rotate_left 1
          · (intro wy hSw; (try dsimp only at hSw); go_simp; try with_reducible rfl)
          (try simp only [Act.put, List.getElem_toArray, List.getElem_cons_succ, List.getElem_cons_zero, List.setIfInBounds_toArray, List.set_cons_zero, List.set_cons_succ])
          refine wpAnyH_take (i := 2) (oi := _) (v := ?_) rfl (by kernel_rfl) (by kernel_rfl) (by kernel_rfl) (fun _ _ _ h => h) (Or.inl ⟨by rfl, ?_⟩) (by assumption) ?_
          rotate_left 1
          · (intro wy hSw; (try dsimp only at hSw); go_simp; try with_reducible rfl)
          (try simp only [Act.put, List.getElem_toArray, List.getElem_cons_succ, List.getElem_cons_zero, List.setIfInBounds_toArray, List.set_cons_zero, List.set_cons_succ])
          refine wpAnyH_take (i := 3) (oi := _) (v := ?_) rfl (by kernel_rfl) (by kernel_rfl) (by kernel_rfl) (fun _ _ _ h => h) (Or.inl ⟨by rfl, ?_⟩) (by assumption) ?_
          rotate_left 1
          · (intro wy hSw; (try dsimp only at hSw); go_simp; try with_reducible rfl)
          (try simp only [Act.put, List.getElem_toArray, List.getElem_cons_succ, List.getElem_cons_zero, List.setIfInBounds_toArray, List.set_cons_zero, List.set_cons_succ])
          refine wpAnyH_take (i := 4) (oi := _) (v := ?_) rfl (by kernel_rfl) (by kernel_rfl) (by kernel_rfl) (fun _ _ _ h => h) (Or.inl ⟨by rfl, ?_⟩) (by assumption) ?_
          rotate_left 1
          · (intro wy hSw; (try dsimp only at hSw); go_simp; try with_reducible rfl)
          (try simp only [Act.put, List.getElem_toArray, List.getElem_cons_succ, List.getElem_cons_zero, List.setIfInBounds_toArray, List.set_cons_zero, List.set_cons_succ])
          refine wpAnyH_take (i := 5) (oi := _) (v := ?_) rfl (by kernel_rfl) (by kernel_rfl) (by kernel_rfl) (fun _ _ _ h => h) (Or.inl ⟨by rfl, ?_⟩) (by assumption) ?_
          rotate_left 1
          · (intro wy hSw; (try dsimp only at hSw); go_simp; try with_reducible rfl)
          (try simp only [Act.put, List.getElem_toArray, List.getElem_cons_succ, List.getElem_cons_zero, List.setIfInBounds_toArray, List.set_cons_zero, List.set_cons_succ])
          refine wpAnyH_take (i := 6) (oi := _) (v := ?_) rfl (by kernel_rfl) (by kernel_rfl) (by kernel_rfl) (fun _ _ _ h => h) (Or.inl ⟨by rfl, ?_⟩) (by assumption) ?_
          rotate_left 1
          · (intro wy hSw; (try dsimp only at hSw); go_simp; try with_reducible rfl)
          (try simp only [Act.put, List.getElem_toArray, List.getElem_cons_succ, List.getElem_cons_zero, List.setIfInBounds_toArray, List.set_cons_zero, List.set_cons_succ])
          refine wpAnyH_ready (rs := [7]) (by kernel_rfl) (by simp) ?_
          refine AllReadyH.cons (o := _) rfl ?_ AllReadyH.nil
          intro K9 hK9
          go_simp
          refine (HRy wz inferInstance).mono ?_
          rintro r w5 ⟨p, PA, PC, rfl, hp, hop, hb5⟩
          have l5 := later hb5
          (try dsimp only)
          refine hK9.out _ _ (fun b _ => inferInstance) (fun hHeld2 => ?_)
          clear hK9 K9 hHeld
          (try simp only [Act.put, List.getElem_toArray, List.getElem_cons_succ, List.getElem_cons_zero, List.setIfInBounds_toArray, List.set_cons_zero, List.set_cons_succ])
          refine wpAnyH_ready (rs := [8]) (by kernel_rfl) (by simp) ?_
          refine AllReadyH.cons (o := _) rfl ?_ AllReadyH.nil
          intro K9 hK9
          go_simp
          refine hK9.out _ _ (fun b _ => inferInstance) (fun hHeld => ?_)
          clear hK9 K9 hHeld2
          (try simp only [Act.put, List.getElem_toArray, List.getElem_cons_succ, List.getElem_cons_zero, List.setIfInBounds_toArray, List.set_cons_zero, List.set_cons_succ])
          obtain ⟨w6, hw6⟩ : ∃ z, z = w5.alloc (.cells #[.slice PA p.length PC] 25 (0, 0)) := ⟨_, rfl⟩
          have kx : w6.heap[w5.heap.size]? = some (.cells #[.slice PA p.length PC] 25 (0, 0)) := by rw [hw6]; exact heap_alloc_new _ _
          have hb56 : Below w5.heap.size w5 w6 := by rw [hw6]; exact (by repeat (first | with_reducible exact Below.refl _ _ | (with_reducible refine Below.drew ?_) | (with_reducible refine below_drewN ?_ _) | (with_reducible refine Below.alloc ?_ ?_ _; rotate_left; (first | omega | (simp <;> omega))) | (with_reducible refine Below.setCell ?_ ?_ _; rotate_left; (first | omega | (simp <;> omega)))))
          rw [← hw6]
          have hrz : Below wr.heap.size wr wz := lz.below
          have hb26 : Below w2.heap.size w2 w6 := hbr.trans ((hrz.trans ((hb5.mono hrz.size).trans (hb56.mono (Nat.le_trans hrz.size hb5.size)))).mono hbr.size)
          have hb5r : Below wr.heap.size wr w6 := hrz.trans ((hb5.mono hrz.size).trans (hb56.mono (Nat.le_trans hrz.size hb5.size)))
          clear hw6 hHeld
          have hok6 := (hok'.below hb5).below hb56
          have hz6 := hb26.size
          refine wpAnyH_ready (rs := [9]) (by kernel_rfl) (by simp) ?_
          refine AllReadyH.cons (o := _) rfl ?_ AllReadyH.nil
          intro K9 hK9
          refine step_app2 rfl (.tmp 43) (.tmp 51) (by rfl) KE.enc keT _ _ [(⟨PA, PC, p⟩ : KE)] ks (.slice KA k KC) (by rfl) (by rfl) (m := 1) (n := k + 1) rfl hkl.out hok6 (blk_slAt KE.enc (fr := (0, 0)) (e := 25) kx [(⟨PA, PC, p⟩ : KE)] rfl) (by omega) (by unfold maxLen; omega) hz6 ?_
          intro A7 c7 w7 ho7 hm7 hst
          have hb27 : Below w2.heap.size w2 w7 := hok6.belowGrown hb26 hst.1 (Nat.le_refl _) hz6
          have hoe7 := hide (show ∀ x ∈ ks ++ [(⟨PA, PC, p⟩ : KE)], Own IDE.cells 2 46 w2.heap.size w7 x.v x.l from fun x hx => by
            rcases List.mem_append.1 hx with hx | hx
            · exact own_grownOwn hok6 hst.1 ((hoe.out x hx).below hb5r) (by decide)
            · rw [List.mem_singleton] at hx
              subst hx
              exact own_grownOwn hok6 hst.1 ((hop.mono (Nat.le_trans hbr.size hrz.size)).below hb56) (by decide))
          have l7 := later hb27
          refine hK9.out _ _ (fun b _ => inferInstance) (fun hHeld => ?_)
          clear hK9 K9
          (try simp only [Act.put, List.getElem_toArray, List.getElem_cons_succ, List.getElem_cons_zero, List.setIfInBounds_toArray, List.set_cons_zero, List.set_cons_succ])
          refine wpAnyH_take (i := 10) (oi := _) (v := ?_) rfl (by kernel_rfl) (by kernel_rfl) (by kernel_rfl) (fun _ _ _ h => h) (Or.inl ⟨by rfl, ?_⟩) (by assumption) ?_
          rotate_left 1
          · (intro wy hSw; (try dsimp only at hSw); go_simp; try with_reducible rfl)
          (try simp only [Act.put, List.getElem_toArray, List.getElem_cons_succ, List.getElem_cons_zero, List.setIfInBounds_toArray, List.set_cons_zero, List.set_cons_succ])
          refine wpAnyH_done (by kernel_rfl) ?_ _
          clear hHeld hok6 hst hb26 hb5r hb56 kx lz hrz hdr
          go_wp2_with fail
          go_roundw
          case rel => exact ⟨k + 1, ks ++ [⟨PA, PC, p⟩], A7, c7, by omega, by go_num, rfl, hide (hks.out.succ Hy.out hp.out), ho7, hoe7, hb27⟩
          case measure => simp [intOf]; omega
        · have hkk : k = q.length := by omega
          subst hkk
          obtain ⟨wL, rfl⟩ : ∃ z, z = wr := ⟨_, rfl⟩
          have HQL : ∀ u [Later wL u], SlAt IDE.cells 2 u QA q := fun u i => by haveI := (lr w2).trans i; exact HQ u
          have HZL : ∀ u [Later wL u], SlAt IDE.cells 2 u ZA z := fun u i => by haveI := (lr w2).trans i; exact HZl u
          have hSK := (hok.at_ KE.enc).2.2
          have HK : ∀ u [Later wL u], SlAt KE.cells 1 u KA ks := fun u i => hSK.below i.below
          clear HQ HZl hSK hok HRet hS2
          go_wp2_with fail
          go_loopw [9] (fun iv wr => ∃ i : Nat, i ≤ q.length ∧ iv = .int .i64 i ∧ Below wL.heap.size wL wr) (fun iv _ => q.length - (intOf iv).toNat)
          case atStart => exact ⟨0, by omega, rfl, Below.refl _ _⟩
          case round =>
            obtain ⟨i, hi, rfl, hbz⟩ := hrel
            have lz := later hbz
            obtain ⟨wO, rfl⟩ : ∃ z, z = wr := ⟨_, rfl⟩
            have lOO : Later wO wO := Later.refl
            have hzO := hbz.size
            by_cases hlti : i < q.length
            · have hii : (i : Int) < (q.length : Int) := by omega
              obtain ⟨y, hy⟩ : ∃ y, q[i]? = some y := ⟨_, List.getElem?_eq_getElem hlti⟩
              obtain ⟨bq, oq, rfl, Y1, Y2⟩ := id_at (HQL wO) hy
              have hclimb0 := hide (Climb.start ((Hq.out.2 y).1 (List.mem_of_getElem? hy)))
              clear hy
              obtain ⟨y1, y2⟩ := y
              dsimp only at Y1 Y2
              go_upto_region 18 with fail
              refine wp_name ?_
              intro w6 hw6
              have h6p : w6.heap[wO.heap.size]? = some (.cells #[] 46 (0, 0)) := (by rw [← hw6]; simp only [heap_alloc_if, World.size_alloc]; repeat (first | rw [if_pos trivial] | rw [if_neg (by omega)] | rw [if_pos (by omega)]); try rfl)
              have h6c : w6.heap[wO.heap.size + 1]? = some (.cells #[.int .i64 y1, .int .i64 y2] 46 (0, 0)) := (by rw [← hw6]; simp only [heap_alloc_if, World.size_alloc]; repeat (first | rw [if_pos trivial] | rw [if_neg (by omega)] | rw [if_pos (by omega)]); try rfl)
              have ho6 : Own IDE.cells 2 46 wO.heap.size w6 (.slice (some ⟨wO.heap.size, 0, none⟩) 0 0) ([] : List IDE) := Own.empty_blk (Nat.le_refl _) h6p
              have hb6 : Below wO.heap.size wO w6 := by rw [← hw6]; exact (by repeat (first | with_reducible exact Below.refl _ _ | (with_reducible refine Below.drew ?_) | (with_reducible refine below_drewN ?_ _) | (with_reducible refine Below.alloc ?_ ?_ _; rotate_left; (first | omega | (simp <;> omega))) | (with_reducible refine Below.setCell ?_ ?_ _; rotate_left; (first | omega | (simp <;> omega)))))
              clear hw6 h6p
              go_wp2_with fail
              go_loopw [10] (fun pv wr => ∃ (P : List IDE) (PA : Option Addr) (PC : Nat) (c1 c2 : Int), pv = .slice PA P.length PC ∧ wr.heap[wO.heap.size + 1]? = some (.cells #[.int .i64 c1, .int .i64 c2] 46 (0, 0)) ∧ Hid (Climb (conL l) roots ⟨y1, y2⟩ P ⟨c1, c2⟩) ∧ Own IDE.cells 2 46 wO.heap.size wr (.slice PA P.length PC) P ∧ Hid (∀ j, (Value.slice PA P.length PC).ownBlock = some j → j ≠ wO.heap.size + 1) ∧ Below wO.heap.size wO wr) (fun pv _ => q.length + 1 - (match pv with | .slice _ n _ => n | _ => 0))
              case atStart => exact ⟨[], _, _, y1, y2, rfl, h6c, hclimb0, ho6, hide (fun j hj => by have h9 : some wO.heap.size = some j := hj; injection h9 with h9; omega), hb6⟩
              case round =>
                obtain ⟨P, PA, PC, c1, c2, rfl, hc, hcl, hop, hne, hbp⟩ := hrel
                have lp := later hbp
                obtain ⟨wP, rfl⟩ : ∃ z, z = wr := ⟨_, rfl⟩
                have lPP : Later wP wP := Later.refl
                have hPl := climb_len hcl.out Hq.out
                have Xc := boxed hc
                have hzP := hbp.size
                have hle : (P.length : Int) ≤ (q.length : Int) := by omega
                have he := @ideq_iff ⟨c1, c2⟩ ⟨0, 0⟩
                dsimp only at he
                by_cases hc0 : (⟨c1, c2⟩ : IDE) = ⟨0, 0⟩
                · have he2 : ideq c1 c2 0 0 = true := he.trans (decide_eq_true hc0)
                  have hP := hide (climb_end (by rw [← hc0]; exact hcl.out) h0.out)
                  have HP : ∀ u [Later wP u], SlAt IDE.cells 2 u PA P := fun u i => ((hop.below i.below).at_ IDE.enc).2.2
                  have HHp : ∀ (x : IDE) (u : World) [Later wP u], Calls Try.prog 24 #[.slice PA P.length PC, x.v] u fun r w' => r = .returned (.bool (decide (x ∈ P))) ∧ Below u.heap.size u w' := fun x u j => has21_any PA PC P x u (HP u) (by omega)
                  clear he hc0 hc
                  go_wp2_with fail
                  go_loopw [15] (fun kv wr => ∃ k : Nat, k ≤ q.length ∧ kv = .int .i64 k ∧ Below wP.heap.size wP wr) (fun kv _ => q.length - (intOf kv).toNat)
                  case atStart => exact ⟨0, by omega, rfl, Below.refl _ _⟩
                  case round =>
                    obtain ⟨k, hk, rfl, hbk⟩ := hrel
                    have lk := later hbk
                    have lkk : Later wr wr := Later.refl
                    by_cases hltk : k < q.length
                    · have hkii : (k : Int) < (q.length : Int) := by omega
                      obtain ⟨x, hx⟩ : ∃ x, q[k]? = some x := ⟨_, List.getElem?_eq_getElem hltk⟩
                      obtain ⟨xk, hxk⟩ : ∃ xk, ks[k]? = some xk := ⟨_, List.getElem?_eq_getElem (by rw [hks.out.1]; exact hltk)⟩
                      have hdec := kept_dec hks.out hxk hx hP.out
                      have hpl : xk.l.length ≤ 10000 := by
                        obtain ⟨x', _, hrl⟩ := hks.out.2 k xk hxk
                        exact Nat.le_trans (nodup_len hrl.1.nodup (fun z hz => (Hq.out.2 z).2 ((hrl.2 z).1 hz).1)) (by omega)
                      obtain ⟨bx, ox, ex, X1, X2⟩ := id_at (HQL wO) hx
                      cases ex
                      obtain ⟨bK, oK, rfl, XK⟩ := ke_at (HK wO) hxk
                      have hSx := ((hoe.out xk (List.mem_of_getElem? hxk)).at_ IDE.enc).2.2
                      have HH1 := fun (u : World) (j : Later wL u) => has21_any xk.A xk.c xk.l ⟨y1, y2⟩ u (hSx.below j.below) (by omega)
                      have HP1 := fun (u : World) (j : Later wP u) => HHp x u
                      rw [hdec] at HH1
                      clear hdec hx hxk hSx
                      generalize decide (x ∈ P) = bb at HH1 HP1
                      obtain ⟨XA, XC, xl⟩ := xk
                      obtain ⟨x1, x2⟩ := x
                      dsimp only at X1 X2 XK hpl HH1 HP1
                      dsimp only [IDE.v] at HH1 HP1
                      cases bb
                      · go_upto_region 34 with fail
                        (refine wp_region_after (by kernel_rfl) (by kernel_rfl) ?_
                         repeat (any_goals (first | go_big_quiet_skip | (go_big_quiet_want; go_big_quiet_op; first | go_big_quiet_on | go_big_quiet_call ((first | (go_at_call_has 24 (Value.slice XA xl.length XC); exact Calls.after (HH1 _ inferInstance)) | (go_at_call_has 24 (Value.slice PA P.length PC); exact Calls.after (HP1 _ inferInstance))))) | quiet_step ((first | (go_at_call_has 24 (Value.slice XA xl.length XC); exact Calls.after (HH1 _ inferInstance)) | (go_at_call_has 24 (Value.slice PA P.length PC); exact Calls.after (HP1 _ inferInstance)))) | (refine wpQuiet_step (fun K hK => ?_); go_simp; split <;> (refine hK _ ?_; clear hK K))))
                         all_goals (refine wpQuiet_nil ?_; intro _ hw'; obtain ⟨u', hw''⟩ := hw'; subst hw''; obtain ⟨wd, hbd⟩ := u'; simp only [After.val_mk]))
                        have ld := later hbd
                        go_wp2_with fail
                        go_roundw
                        case rel => exact ⟨k + 1, by omega, by go_num, below_of⟩
                        case measure => simp [intOf]; omega
                      · go_upto_region 34 with fail
                        (refine wp_region_after (by kernel_rfl) (by kernel_rfl) ?_
                         repeat (any_goals (first | go_big_quiet_skip | (go_big_quiet_want; go_big_quiet_op; first | go_big_quiet_on | go_big_quiet_call ((first | (go_at_call_has 24 (Value.slice XA xl.length XC); exact Calls.after (HH1 _ inferInstance)) | (go_at_call_has 24 (Value.slice PA P.length PC); exact Calls.after (HP1 _ inferInstance))))) | quiet_step ((first | (go_at_call_has 24 (Value.slice XA xl.length XC); exact Calls.after (HH1 _ inferInstance)) | (go_at_call_has 24 (Value.slice PA P.length PC); exact Calls.after (HP1 _ inferInstance)))) | (refine wpQuiet_step (fun K hK => ?_); go_simp; split <;> (refine hK _ ?_; clear hK K))))
                         all_goals (refine wpQuiet_nil ?_; intro _ hw'; obtain ⟨u', hw''⟩ := hw'; subst hw''; obtain ⟨wd, hbd⟩ := u'; simp only [After.val_mk]))
                        have ld := later hbd
                        go_wp2_with fail
                        go_roundw
                        case rel => exact ⟨k + 1, by omega, by go_num, below_of⟩
                        case measure => simp [intOf]; omega
                    · have hkk : k = q.length := by omega
                      subst hkk
                      go_wp2_with fail
                      go_roundw
                      case rel => exact ⟨i + 1, by omega, by go_num, below_of⟩
                      case measure => simp [intOf]; omega
                · have he2 : ideq c1 c2 0 0 = false := he.trans (decide_eq_false hc0)
                  have hcr := hide (climb_reach hcl.out hc0)
                  have hcne := hide hc0
                  clear he hc0
                  go_upto_region 20 with (at_builtin; refine wpList_app1 rfl (.tmp 74) (.tmp 76) rfl IDE.enc idT6 ⟨c1, c2⟩ rfl rfl rfl (hop.later _) (by rfl) (by omega) (by unfold maxLen; omega) (Nat.le_trans hzP (show Below wP.heap.size wP _ from below_of).size) ?_; intro A5 c5 w7 ho5 hm5 hb5 hg5 hat5)
                  have hcI := blk_lt hc
                  have hc7 := heap_grownNe hg5 hc hne.out
                  have hne7 := hide (own_newNe hat5 hcI hne.out)
                  have hb7 : Below wO.heap.size wO w7 := hbp.trans hb5
                  have hcI7 := blk_lt hc7
                  have l7 := later hb7
                  have l77 : Later w7 w7 := Later.refl
                  clear hop hg5 hat5 hm5 hb5 hc Xc lPP lp hne
                  go_upto_region 22 with fail
                  refine wp_name ?_
                  intro w8 hw8
                  have h8n : w8.heap[w7.heap.size]? = some (.cells #[.int .i64 0, .int .i64 0] 46 (0, 0)) := (by rw [← hw8]; simp only [heap_alloc_if, World.size_alloc]; repeat (first | rw [if_pos trivial] | rw [if_neg (by omega)] | rw [if_pos (by omega)]); try rfl)
                  have hb8 : Below w7.heap.size w7 w8 := by rw [← hw8]; exact (by repeat (first | with_reducible exact Below.refl _ _ | (with_reducible refine Below.drew ?_) | (with_reducible refine below_drewN ?_ _) | (with_reducible refine Below.alloc ?_ ?_ _; rotate_left; (first | omega | (simp <;> omega))) | (with_reducible refine Below.setCell ?_ ?_ _; rotate_left; (first | omega | (simp <;> omega)))))
                  clear hw8
                  go_wp2_with fail
                  go_loopw [13, 14] (fun fv kv wr => ∃ (k : Nat) (fb : Bool) (n1 n2 : Int), k ≤ q.length ∧ kv = .int .i64 k ∧ fv = .bool fb ∧ wr.heap[w7.heap.size]? = some (.cells #[.int .i64 n1, .int .i64 n2] 46 (0, 0)) ∧ Hid (FindZ q z ⟨c1, c2⟩ k fb ⟨n1, n2⟩) ∧ Below w7.heap.size w7 wr) (fun _ kv _ => q.length - (intOf kv).toNat)
                  case atStart => exact ⟨0, false, 0, 0, by omega, rfl, rfl, h8n, hide (.inl ⟨rfl, fun j hj => by omega⟩), hb8⟩
                  case round =>
                    obtain ⟨k, fb, n1, n2, hk, rfl, rfl, hn, hfz, hbk⟩ := hrel
                    have lk := later hbk
                    have lkk : Later wr wr := Later.refl
                    have hck := blk_below hc7 hbk
                    have Xc := boxed hck
                    have Xn := boxed hn
                    by_cases hltk : k < q.length
                    · have hkii : (k : Int) < (q.length : Int) := by omega
                      obtain ⟨x, hx⟩ : ∃ x, q[k]? = some x := ⟨_, List.getElem?_eq_getElem hltk⟩
                      obtain ⟨m, hm⟩ : ∃ m, z[k]? = some m := ⟨_, List.getElem?_eq_getElem (by rw [Hzq.out]; exact hltk)⟩
                      obtain ⟨bx, ox, ex, X1, X2⟩ := id_at (HQL wO) hx
                      cases ex
                      obtain ⟨bm, om, rfl, M1, M2⟩ := id_at (HZL wO) hm
                      have he := @ideq_iff x ⟨c1, c2⟩
                      by_cases hxc : x = ⟨c1, c2⟩
                      · have hnew := hide (hfz.out.hit (hxc ▸ hx) hm)
                        have he2 : ideq x.machine x.serial c1 c2 = true := he.trans (decide_eq_true hxc)
                        clear he hxc hx hm
                        obtain ⟨x1, x2⟩ := x
                        obtain ⟨m1, m2⟩ := m
                        dsimp only at X1 X2 M1 M2 he2
                        go_upto_region 24 with fail
                        (refine wp_region_after (by kernel_rfl) (by kernel_rfl) ?_
                         repeat (any_goals (first | go_big_quiet_skip | (go_big_quiet_want; go_big_quiet_op; first | go_big_quiet_on | go_big_quiet_call (fail)) | quiet_step (fail) | (refine wpQuiet_step (fun K hK => ?_); go_simp; split <;> (refine hK _ ?_; clear hK K))))
                         all_goals (refine wpQuiet_nil ?_; intro _ hw'; obtain ⟨u', hw''⟩ := hw'; subst hw''; obtain ⟨wd, hbd⟩ := u'; simp only [After.val_mk]))
                        have ld := later hbd
                        go_upto_region 23 with fail
                        refine wp_name ?_
                        intro w10 hw10
                        have hnd := blk_below hn hbd
                        have h10 := blk_set (blk_set hnd 0 (.int .i64 m1)) 1 (.int .i64 m2)
                        simp only [List.setIfInBounds_toArray, List.set_cons_zero, List.set_cons_succ] at h10
                        have hb10 := ((hbk.trans (hbd.mono hbk.size)).setCell (p := ⟨w7.heap.size, 0, none⟩) (Nat.le_refl _) (.int .i64 m1)).setCell (p := ⟨w7.heap.size, 1, none⟩) (Nat.le_refl _) (.int .i64 m2)
                        rw [hw10] at h10 hb10
                        clear hw10 Xn Xc hck hn hnd ld
                        go_wp2_with fail
                        go_roundw
                        case rel => exact ⟨k + 1, true, m1, m2, by omega, by go_num, rfl, h10, hnew, hb10⟩
                        case measure => simp [intOf]; omega
                      · have hnew := hide (hfz.out.miss hx hxc)
                        have he2 : ideq x.machine x.serial c1 c2 = false := he.trans (decide_eq_false hxc)
                        clear he hxc hx hm
                        obtain ⟨x1, x2⟩ := x
                        obtain ⟨m1, m2⟩ := m
                        dsimp only at X1 X2 M1 M2 he2
                        go_upto_region 24 with fail
                        (refine wp_region_after (by kernel_rfl) (by kernel_rfl) ?_
                         repeat (any_goals (first | go_big_quiet_skip | (go_big_quiet_want; go_big_quiet_op; first | go_big_quiet_on | go_big_quiet_call (fail)) | quiet_step (fail) | (refine wpQuiet_step (fun K hK => ?_); go_simp; split <;> (refine hK _ ?_; clear hK K))))
                         all_goals (refine wpQuiet_nil ?_; intro _ hw'; obtain ⟨u', hw''⟩ := hw'; subst hw''; obtain ⟨wd, hbd⟩ := u'; simp only [After.val_mk]))
                        have ld := later hbd
                        go_wp2_with fail
                        go_roundw
                        case rel => exact ⟨k + 1, fb, n1, n2, by omega, by go_num, rfl, blk_below hn hbd, hnew, hbk.trans (hbd.mono hbk.size)⟩
                        case measure => simp [intOf]; omega
                    · have hkk : k = q.length := by omega
                      subst hkk
                      obtain ⟨rfl, hid⟩ := hfz.out.found Hq.out Hz.out hcr.out
                      obtain ⟨ids0, d0, T⟩ := HT.out
                      have hcl2 := hide (T.climb h0.out hcl.out hcne.out hid).2
                      have hPl2 := climb_len hcl2.out Hq.out
                      have hlapp : (P ++ [(⟨c1, c2⟩ : IDE)]).length = P.length + 1 := by simp
                      have Hlapp := hide hlapp
                      clear hid T hlapp
                      have h11 := blk_set (blk_set hck 0 (.int .i64 n1)) 1 (.int .i64 n2)
                      simp only [List.setIfInBounds_toArray, List.set_cons_zero, List.set_cons_succ] at h11
                      have hb11 := ((hb7.trans (hbk.mono hb7.size)).setCell (p := ⟨wO.heap.size + 1, 0, none⟩) (Nat.le_succ _) (.int .i64 n1)).setCell (p := ⟨wO.heap.size + 1, 1, none⟩) (Nat.le_succ _) (.int .i64 n2)
                      have ho11 := ((ho5.below hbk).far (p := ⟨wO.heap.size + 1, 0, none⟩) (fun e => hne7.out _ e rfl) (.int .i64 n1)).far (p := ⟨wO.heap.size + 1, 1, none⟩) (fun e => hne7.out _ e rfl) (.int .i64 n2)
                      clear hn
                      rw [← Hlapp.out] at ho11 hne7
                      go_wp2_with fail
                      go_roundw
                      case rel => exact ⟨P ++ [⟨c1, c2⟩], A5, c5, n1, n2, by rw [Hlapp.out], h11, hcl2, ho11, hne7, hb11⟩
                      case measure => simp; omega
            · have hkk : i = q.length := by omega
              subst hkk
              go_wp2_with fail
              go_ret
              exact ⟨rfl, below_of⟩
end Go.Proofs.Ytffnogjgnpbjlaa
