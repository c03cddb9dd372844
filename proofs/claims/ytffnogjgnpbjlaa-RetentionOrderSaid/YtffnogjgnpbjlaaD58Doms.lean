/-
  retention.Dominators. Conditions: lengths up to 10000.
-/
import Derived.Test.YtffnogjgnpbjlaaD58Search
import Derived.Test.YtffnogjgnpbjlaaGrp6
set_option linter.unusedSimpArgs false
set_option linter.unusedVariables false
namespace Go.Proofs.Ytffnogjgnpbjlaa
open Go.RowKit
attribute [local go_sem] Oper.semAt_some
attribute [local simp] heap_drew
theorem idTD : ElemT Try.prog 25 46 2 16 := ElemT.mk' (z := .agg #[.int .i64 0, .int .i64 0]) Try.underlying25 (by kernel_rfl) rfl
/-- The first m objects in order, and what f says of each. -/
def ordI (f : Nat → IDE) (q : List Nat) (m : Nat) : List IDE := (q.take m).map f
theorem ordI_succ {f : Nat → IDE} {q : List Nat} {m i : Nat} (h : q[m]? = some i) : ordI f q (m + 1) = ordI f q m ++ [f i] := by
  unfold ordI
  rw [take_snoc_get h, List.map_append]; rfl
theorem ordI_len {f : Nat → IDE} {q : List Nat} {m : Nat} (h : m ≤ q.length) : (ordI f q m).length = m := by unfold ordI; rw [List.length_map, List.length_take]; omega
theorem ordI_all {f : Nat → IDE} {q : List Nat} : ordI f q q.length = q.map f := by unfold ordI; rw [List.take_length]
/-- What Dominators answers. -/
def DomP (L : List NodeC) (roots : List IDE) (w : World) (r : Ending) (w' : World) : Prop :=
  ∃ (q z : List IDE) (A : Option Addr) (c : Nat) (B : Option Addr) (e : Nat), r = .returned (.tuple #[.slice A q.length c, .slice B q.length e]) ∧ Hid (ReachL L roots q ∧ DomsL L roots q z ∧ ∃ ids d, TreeOk L roots ids d) ∧ Own IDE.cells 2 46 w.heap.size w' (.slice A q.length c) q ∧ Own IDE.cells 2 46 w.heap.size w' (.slice B q.length e) z ∧ Below w.heap.size w w'
theorem TreeOk.reachL {L : List NodeC} {roots ids : List IDE} {d : Nat → Int} (T : TreeOk L roots ids d) {q : List Nat} (h : OrdL ids q) : ReachL L roots (q.map fun i => ids.getD i ⟨0, 0⟩) :=
  ⟨h.2, fun y => by rw [(ordL_perm h.1).mem_iff]; exact T.dfs.mem y⟩
theorem TreeOk.domsL {L : List NodeC} {roots ids : List IDE} {d : Nat → Int} (T : TreeOk L roots ids d) {q : List Nat} (h : OrdL ids q) : DomsL L roots (q.map fun i => ids.getD i ⟨0, 0⟩) (q.map fun i => ids.getD (d i).toNat ⟨0, 0⟩) := by
  refine ⟨by simp, fun k y hk => ?_⟩
  rw [List.getElem?_map] at hk ⊢
  obtain ⟨i, hi, rfl⟩ := Option.map_eq_some_iff.1 hk
  have hl := h.lt (List.mem_of_getElem? hi)
  exact ⟨_, by rw [hi]; rfl, T.idomZ (idsAt_get hl)⟩
set_option maxRecDepth 100000 in
set_option maxHeartbeats 8000000 in
theorem doms_any (A : Option Addr) (c : Nat) (l : List NodeE) (RA : Option Addr) (rc : Nat) (roots : List IDE) (w : World) (H : NodesAt w A l) (hR : SlAt IDE.cells 2 w RA roots) (hl : l.length ≤ 10000) (hf : ∀ n ∈ l, n.fields.length ≤ 10000) (hr : roots.length ≤ 10000) :
    Calls Try.prog 12 #[.agg #[.slice A l.length c], .slice RA roots.length rc] w (DomP (conL l) roots w) := by
  have HT : ∀ u [Later w u], Calls Try.prog 34 #[.agg #[.slice A l.length c], .slice RA roots.length rc] u (TreeP l roots u) := fun u i => dominators_any A c l RA rc roots u (H.below i.below) (hR.below i.below) hl hf hr
  go_enter Try.func12, Try.ntmps12
  go_upto_region 1 with fail
  refine wp_name ?_
  intro w1 hw1
  obtain ⟨B0, l1⟩ := box1 hw1
  clear hw1
  go_upto_region 3 with (go_at_call 34; refine (HT _).mono ?_; intro r w2 hh; obtain ⟨gt, ids, d, iA, iC, nA, nC, dA, dC, rfl, hT, hil, ht, hSi, hSn, hSd, hb2⟩ := hh; have l2 := later hb2)
  have hOr : ∀ u [Later w2 u], Calls Try.prog 35 #[.pointer (some ⟨gt, 0, none⟩)] u (OrderP ids u) := fun u i => order_tree ids hT.out.dfs.nodup (by omega) iA iC _ _ gt u (blk_below ht i.below) (hSi.below i.below)
  go_upto_region 4 with (go_at_call 35; refine (hOr _).mono ?_; intro r w4 hh; obtain ⟨q, QA, QC, rfl, hq, hoq, hb4⟩ := hh; have l4 := later hb4)
  have l24 : Later w2 w4 := by infer_instance
  have ht4 := blk_below ht l24.below
  have XT := boxed ht4
  have hSi4 := hSi.below l24.below
  have hSd4 := hSd.below l24.below
  have hql' := hide hq.out.len
  go_loopw [7, 8, 19] (fun ov zv kv wr => ∃ (m : Nat) (qo zo : List IDE) (A1 : Option Addr) (c1 : Nat) (A2 : Option Addr) (c2 : Nat), m ≤ ids.length ∧ kv = .int .i64 m ∧ ov = .slice A1 m c1 ∧ zv = .slice A2 m c2 ∧ Hid (qo = ordI (fun i => ids.getD i ⟨0, 0⟩) q m ∧ zo = ordI (fun i => ids.getD (d i).toNat ⟨0, 0⟩) q m) ∧
    Own IDE.cells 2 46 w4.heap.size wr (.slice A1 m c1) qo ∧ Own IDE.cells 2 46 w4.heap.size wr (.slice A2 m c2) zo ∧ Apart (.slice A1 m c1) (.slice A2 m c2) ∧ Below w4.heap.size w4 wr) (fun _ _ kv _ => ids.length - (intOf kv).toNat)
  case atStart => exact ⟨0, [], [], none, 0, none, 0, by omega, rfl, rfl, rfl, hide ⟨rfl, rfl⟩, Own.nil, Own.nil, Apart.nil, Below.refl _ _⟩
  case round =>
    obtain ⟨m, qo, zo, A1, c1, A2, c2, hm, rfl, rfl, rfl, hqz, ho1, ho2, hap, hbr⟩ := hrel
    have lr := later hbr
    have lrr : Later wr wr := Later.refl
    by_cases hlt : m < ids.length
    · have hki : (m : Int) < (ids.length : Int) := by omega
      have hmq : m ≤ q.length := by rw [hql'.out]; omega
      have hql : qo.length + 1 = m + 1 := by rw [hqz.out.1, ordI_len hmq]
      have hzl : zo.length + 1 = m + 1 := by rw [hqz.out.2, ordI_len hmq]
      obtain ⟨i, hi⟩ : ∃ i, q[m]? = some i := ⟨_, List.getElem?_eq_getElem (by rw [hql'.out]; exact hlt)⟩
      have Hi := hide hi
      have hil2 := hq.out.lt (List.mem_of_getElem? hi)
      obtain ⟨b7, o7, rfl, C7⟩ := int_at ((hoq.at_ I64.enc).2.2) (k := m) (x := (i : Int)) (by rw [List.getElem?_map, hi]; rfl)
      obtain ⟨x, hx⟩ : ∃ x, ids[i]? = some x := ⟨_, List.getElem?_eq_getElem hil2⟩
      obtain ⟨b9, o9, rfl, C1, C2⟩ := id_at hSi4 hx
      have hxd := hide (show ids.getD i ⟨0, 0⟩ = x from getD_of hx)
      obtain ⟨u, hu, hu1, hu2⟩ := hT.out.dend.next hil2
      obtain ⟨b6, o6, rfl, C6⟩ := int_at hSd4 (k := i) (x := (u : Int)) (by rw [dList_get (by omega), hu])
      have hzd := hide (show ids.getD (d i).toNat ⟨0, 0⟩ = ids.getD u ⟨0, 0⟩ by rw [hu, Int.toNat_natCast])
      obtain ⟨x1, x2⟩ := x
      dsimp only at C1 C2
      have hii : (i : Int) < (ids.length : Int) := by omega
      have hii1 : (i : Int) < (ids.length : Int) + 1 := by omega
      clear hi hu hx
      have hap0 := hap
      by_cases huk : u < ids.length
      · obtain ⟨z, hz⟩ : ∃ z, ids[u]? = some z := ⟨_, List.getElem?_eq_getElem huk⟩
        obtain ⟨b5, o5, e5, D1, D2⟩ := id_at hSi4 hz
        injection e5 with e5
        injection e5 with e5 e5'
        subst e5 e5'
        have hzz := hide (show ids.getD (d i).toNat ⟨0, 0⟩ = z from hzd.out.trans (getD_of hz))
        obtain ⟨z1, z2⟩ := z
        dsimp only at D1 D2
        have huki : (u : Int) < (ids.length : Int) := by omega
        clear hz hzd
        go_upto_region 7 with fail
        refine wp_name ?_
        intro w6 hw6
        obtain ⟨B11, l6⟩ := box1 hw6
        clear hw6
        go_upto_region 10 with fail
        refine wp_name ?_
        intro w8 hw8
        have h11 := (boxed_set2 B11 hw8 w8).1
        have hb8 : Below wr.heap.size wr w8 := (later_set2 (W := wr) hw8 wr).below
        clear hw8
        have hc0 := hide h11
        have o1 := ho1.below hb8
        have o2 := ho2.below hb8
        have hB : w4.heap.size ≤ w8.heap.size := Nat.le_trans hbr.size hb8.size
        have HV1 : ∀ k, (Value.slice A1 m c1).ownBlock = some k → k < w8.heap.size := fun k hk => (World.ownsRow.lt o1 k hk).2
        have HVr : ∀ k, ((Value.slice A1 m c1).ownBlock = some k ∨ (Value.slice A2 m c2).ownBlock = some k) → w4.heap.size ≤ k ∧ k < wr.heap.size := fun k hk => hk.elim (fun h => World.ownsRow.lt ho1 k h) (fun h => World.ownsRow.lt ho2 k h)
        have HS : ∀ z, Only (fun k => (Value.slice A1 m c1).ownBlock = some k ∨ (Value.slice A2 m c2).ownBlock = some k) w8 z → (z.cell? ⟨gt, 0, none⟩ = some (.slice (some ⟨b9, o9, none⟩) ids.length iC) ∧ z.cell? ⟨b9, o9 + i * 2, none⟩ = some (.int .i64 x1) ∧ z.cell? ⟨b9, o9 + i * 2 + 1, none⟩ = some (.int .i64 x2) ∧ z.cell? ⟨wr.heap.size, 0, none⟩ = some (.int .i64 z1) ∧ z.cell? ⟨wr.heap.size, 1, none⟩ = some (.int .i64 z2)) := fun z hz => by
          have lz : Later w4 z := ⟨hbr.trans ((hb8.mono hbr.size).trans (hz.below (fun k hk => (HVr k hk).1) hB))⟩
          have a := boxed (hz.boxed hc0.out (fun h => by have := (HVr _ h).2; omega)) z
          refine ⟨?_, C1 z, C2 z, ?_, ?_⟩
          · have := ((XT z).2 0).1; simpa using this
          · simpa using (a.2 0).1
          · simpa using (a.2 1).1
        refine wp_region_held_drew (S := fun z => z.cell? ⟨gt, 0, none⟩ = some (.slice (some ⟨b9, o9, none⟩) ids.length iC) ∧ z.cell? ⟨b9, o9 + i * 2, none⟩ = some (.int .i64 x1) ∧ z.cell? ⟨b9, o9 + i * 2 + 1, none⟩ = some (.int .i64 x2) ∧ z.cell? ⟨wr.heap.size, 0, none⟩ = some (.int .i64 z1) ∧ z.cell? ⟨wr.heap.size, 1, none⟩ = some (.int .i64 z2)) (by kernel_rfl) (HS _ (Only.refl.drew)) (fun hHeld => ?_)
        have hon : Only (fun k => (Value.slice A1 m c1).ownBlock = some k ∨ (Value.slice A2 m c2).ownBlock = some k) w8 w8.drew := Only.refl.drew
        replace o1 := o1.below (show Below w8.heap.size w8 w8.drew from (Below.refl _ _).drew)
        replace o2 := o2.below (show Below w8.heap.size w8 w8.drew from (Below.refl _ _).drew)
        have hzw : w4.heap.size ≤ w8.drew.heap.size := by rw [heap_drew]; exact hB
        obtain ⟨wz, hwz⟩ : ∃ z, z = w8.drew := ⟨_, rfl⟩
        rw [← hwz] at hHeld hon o1 o2 hzw ⊢
        clear hwz h11
        refine wpAnyH_take (i := 0) (oi := _) (v := ?_) rfl (by kernel_rfl) (by kernel_rfl) (by kernel_rfl) (fun _ _ _ h => h) (Or.inl ⟨by rfl, ?_⟩) (by assumption) ?_
        rotate_left 1
        · (intro wy hSw; (try dsimp only at hSw); obtain ⟨s1, s2, s3, s4, s5⟩ := hSw; go_simp; try with_reducible rfl)
        (try simp only [Act.put, List.getElem_toArray, List.getElem_cons_succ, List.getElem_cons_zero, List.setIfInBounds_toArray, List.set_cons_zero, List.set_cons_succ])
        refine wpAnyH_take (i := 1) (oi := _) (v := ?_) rfl (by kernel_rfl) (by kernel_rfl) (by kernel_rfl) (fun _ _ _ h => h) (Or.inl ⟨by rfl, ?_⟩) (by assumption) ?_
        rotate_left 1
        · (intro wy hSw; (try dsimp only at hSw); obtain ⟨s1, s2, s3, s4, s5⟩ := hSw; go_simp; try with_reducible rfl)
        (try simp only [Act.put, List.getElem_toArray, List.getElem_cons_succ, List.getElem_cons_zero, List.setIfInBounds_toArray, List.set_cons_zero, List.set_cons_succ])
        refine wpAnyH_take (i := 2) (oi := _) (v := ?_) rfl (by kernel_rfl) (by kernel_rfl) (by kernel_rfl) (fun _ _ _ h => h) (Or.inl ⟨by rfl, ?_⟩) (by assumption) ?_
        rotate_left 1
        · (intro wy hSw; (try dsimp only at hSw); obtain ⟨s1, s2, s3, s4, s5⟩ := hSw; go_simp; try with_reducible rfl)
        (try simp only [Act.put, List.getElem_toArray, List.getElem_cons_succ, List.getElem_cons_zero, List.setIfInBounds_toArray, List.set_cons_zero, List.set_cons_succ])
        refine wpAnyH_take (i := 3) (oi := _) (v := ?_) rfl (by kernel_rfl) (by kernel_rfl) (by kernel_rfl) (fun _ _ _ h => h) (Or.inl ⟨by rfl, ?_⟩) (by assumption) ?_
        rotate_left 1
        · (intro wy hSw; (try dsimp only at hSw); obtain ⟨s1, s2, s3, s4, s5⟩ := hSw; go_simp; try with_reducible rfl)
        (try simp only [Act.put, List.getElem_toArray, List.getElem_cons_succ, List.getElem_cons_zero, List.setIfInBounds_toArray, List.set_cons_zero, List.set_cons_succ])
        refine wpAnyH_take (i := 4) (oi := _) (v := ?_) rfl (by kernel_rfl) (by kernel_rfl) (by kernel_rfl) (fun _ _ _ h => h) (Or.inl ⟨by rfl, ?_⟩) (by assumption) ?_
        rotate_left 1
        · (intro wy hSw; (try dsimp only at hSw); obtain ⟨s1, s2, s3, s4, s5⟩ := hSw; go_simp; try with_reducible rfl)
        (try simp only [Act.put, List.getElem_toArray, List.getElem_cons_succ, List.getElem_cons_zero, List.setIfInBounds_toArray, List.set_cons_zero, List.set_cons_succ])
        refine wpAnyH_take (i := 5) (oi := _) (v := ?_) rfl (by kernel_rfl) (by kernel_rfl) (by kernel_rfl) (fun _ _ _ h => h) (Or.inl ⟨by rfl, ?_⟩) (by assumption) ?_
        rotate_left 1
        · (intro wy hSw; (try dsimp only at hSw); obtain ⟨s1, s2, s3, s4, s5⟩ := hSw; go_simp; try with_reducible rfl)
        (try simp only [Act.put, List.getElem_toArray, List.getElem_cons_succ, List.getElem_cons_zero, List.setIfInBounds_toArray, List.set_cons_zero, List.set_cons_succ])
        refine wpAnyH_take (i := 6) (oi := _) (v := ?_) rfl (by kernel_rfl) (by kernel_rfl) (by kernel_rfl) (fun _ _ _ h => h) (Or.inl ⟨by rfl, ?_⟩) (by assumption) ?_
        rotate_left 1
        · (intro wy hSw; (try dsimp only at hSw); obtain ⟨s1, s2, s3, s4, s5⟩ := hSw; go_simp; try with_reducible rfl)
        (try simp only [Act.put, List.getElem_toArray, List.getElem_cons_succ, List.getElem_cons_zero, List.setIfInBounds_toArray, List.set_cons_zero, List.set_cons_succ])
        refine wpAnyH_take (i := 7) (oi := _) (v := ?_) rfl (by kernel_rfl) (by kernel_rfl) (by kernel_rfl) (fun _ _ _ h => h) (Or.inl ⟨by rfl, ?_⟩) (by assumption) ?_
        rotate_left 1
        · (intro wy hSw; (try dsimp only at hSw); obtain ⟨s1, s2, s3, s4, s5⟩ := hSw; go_simp; try with_reducible rfl)
        (try simp only [Act.put, List.getElem_toArray, List.getElem_cons_succ, List.getElem_cons_zero, List.setIfInBounds_toArray, List.set_cons_zero, List.set_cons_succ])
        refine wpAnyH_take (i := 10) (oi := _) (v := ?_) rfl (by kernel_rfl) (by kernel_rfl) (by kernel_rfl) (fun _ _ _ h => h) (Or.inl ⟨by rfl, ?_⟩) (by assumption) ?_
        rotate_left 1
        · (intro wy hSw; (try dsimp only at hSw); obtain ⟨s1, s2, s3, s4, s5⟩ := hSw; go_simp; try with_reducible rfl)
        (try simp only [Act.put, List.getElem_toArray, List.getElem_cons_succ, List.getElem_cons_zero, List.setIfInBounds_toArray, List.set_cons_zero, List.set_cons_succ])
        refine wpAnyH_take (i := 11) (oi := _) (v := ?_) rfl (by kernel_rfl) (by kernel_rfl) (by kernel_rfl) (fun _ _ _ h => h) (Or.inl ⟨by rfl, ?_⟩) (by assumption) ?_
        rotate_left 1
        · (intro wy hSw; (try dsimp only at hSw); obtain ⟨s1, s2, s3, s4, s5⟩ := hSw; go_simp; try with_reducible rfl)
        (try simp only [Act.put, List.getElem_toArray, List.getElem_cons_succ, List.getElem_cons_zero, List.setIfInBounds_toArray, List.set_cons_zero, List.set_cons_succ])
        apply by_final2
        · intro final
          refine wpAnyH_ready (rs := [8, 12]) (by kernel_rfl) (by simp) ?_
          refine AllReadyH.cons (o := _) rfl ?_ (AllReadyH.cons (o := _) rfl ?_ AllReadyH.nil)
          · intro K9 hK9
            go_simp
            refine hK9.out _ _ (HS _ (hon.alloc _)) (fun hHeld => ?_)
            clear hK9 K9
            (try simp only [Act.put, List.getElem_toArray, List.getElem_cons_succ, List.getElem_cons_zero, List.setIfInBounds_toArray, List.set_cons_zero, List.set_cons_succ])
            obtain ⟨g1, hg⟩ : ∃ g, g = wz.heap.size := ⟨_, rfl⟩
            obtain ⟨wn, hwn⟩ : ∃ x, x = wz.alloc (.cells #[.int .i64 x1, .int .i64 x2] 46 (0, 0)) := ⟨_, rfl⟩
            have k1 : wn.heap[g1]? = some (.cells #[.int .i64 x1, .int .i64 x2] 46 (0, 0)) := by rw [hwn, hg]; exact heap_alloc_new _ _
            have hbn : Below wz.heap.size wz wn := by rw [hwn]; exact (by repeat (first | with_reducible exact Below.refl _ _ | (with_reducible refine Below.drew ?_) | (with_reducible refine below_drewN ?_ _) | (with_reducible refine Below.alloc ?_ ?_ _; rotate_left; (first | omega | (simp <;> omega))) | (with_reducible refine Below.setCell ?_ ?_ _; rotate_left; (first | omega | (simp <;> omega)))))
            have hlg1 : w8.heap.size ≤ g1 := by rw [hg]; exact hon.size
            rw [← hwn, ← hg]
            clear hwn hg hHeld
            replace hon := hon.trans (Only.of_below hbn)
            replace o1 := o1.below hbn
            replace o2 := o2.below hbn
            replace hzw := Nat.le_trans hzw hbn.size
            (try replace k1 := blk_below k1 hbn)
            clear hbn
            obtain ⟨wz, rfl⟩ : ∃ x, x = wn := ⟨_, rfl⟩
            have hHeld := HS _ hon
            refine wpAnyH_ready (rs := [9, 12]) (by kernel_rfl) (by simp) ?_
            refine AllReadyH.cons (o := _) rfl ?_ (AllReadyH.cons (o := _) rfl ?_ AllReadyH.nil)
            · intro K9 hK9
              refine step_app2 rfl (.tmp 45) (.tmp 53) (by rfl) IDE.enc idTD _ _ [⟨x1, x2⟩] qo (.slice A1 m c1) (by rfl) (by rfl) (m := 1) (n := m + 1) rfl hql o1 (blk_slAt IDE.enc (fr := (0, 0)) (e := 46) k1 [⟨x1, x2⟩] rfl) (by omega) (by unfold maxLen; omega) hzw ?_
              intro A1' c1' wn o1n hm1 hst
              have hv1 := own_new hst.2 hon.size
              have hq := hst.own o2 hap
              (try replace k2 := (only_grown hst.1).boxed k2 (fun e => by have := HV1 g2 e; omega))
              replace hzw := Nat.le_trans hzw (grown_size hst.1)
              replace hon := hon.trans' (only_grown hst.1) (fun k _ h => .inl h)
              clear o1 o2 k1 hst
              have o1 := o1n
              have o2 := hq.1
              have hap := hq.2
              clear o1n hq
              refine hK9.out _ _ (HS _ hon) (fun hHeld => ?_)
              clear hK9 K9
              (try simp only [Act.put, List.getElem_toArray, List.getElem_cons_succ, List.getElem_cons_zero, List.setIfInBounds_toArray, List.set_cons_zero, List.set_cons_succ])
              obtain ⟨wz, rfl⟩ : ∃ x, x = wn := ⟨_, rfl⟩
              refine wpAnyH_ready (rs := [12]) (by kernel_rfl) (by simp) ?_
              refine AllReadyH.cons (o := _) rfl ?_ AllReadyH.nil
              intro K9 hK9
              go_simp
              refine hK9.out _ _ (HS _ (hon.alloc _)) (fun hHeld => ?_)
              clear hK9 K9
              (try simp only [Act.put, List.getElem_toArray, List.getElem_cons_succ, List.getElem_cons_zero, List.setIfInBounds_toArray, List.set_cons_zero, List.set_cons_succ])
              obtain ⟨g2, hg⟩ : ∃ g, g = wz.heap.size := ⟨_, rfl⟩
              obtain ⟨wn, hwn⟩ : ∃ x, x = wz.alloc (.cells #[.int .i64 z1, .int .i64 z2] 46 (0, 0)) := ⟨_, rfl⟩
              have k2 : wn.heap[g2]? = some (.cells #[.int .i64 z1, .int .i64 z2] 46 (0, 0)) := by rw [hwn, hg]; exact heap_alloc_new _ _
              have hbn : Below wz.heap.size wz wn := by rw [hwn]; exact (by repeat (first | with_reducible exact Below.refl _ _ | (with_reducible refine Below.drew ?_) | (with_reducible refine below_drewN ?_ _) | (with_reducible refine Below.alloc ?_ ?_ _; rotate_left; (first | omega | (simp <;> omega))) | (with_reducible refine Below.setCell ?_ ?_ _; rotate_left; (first | omega | (simp <;> omega)))))
              have hlg2 : w8.heap.size ≤ g2 := by rw [hg]; exact hon.size
              rw [← hwn, ← hg]
              clear hwn hg hHeld
              replace hon := hon.trans (Only.of_below hbn)
              replace o1 := o1.below hbn
              replace o2 := o2.below hbn
              replace hzw := Nat.le_trans hzw hbn.size
              (try replace k2 := blk_below k2 hbn)
              clear hbn
              obtain ⟨wz, rfl⟩ : ∃ x, x = wn := ⟨_, rfl⟩
              have hHeld := HS _ hon
              refine wpAnyH_ready (rs := [13]) (by kernel_rfl) (by simp) ?_
              refine AllReadyH.cons (o := _) rfl ?_ AllReadyH.nil
              intro K9 hK9
              refine step_app2 rfl (.tmp 55) (.tmp 57) (by rfl) IDE.enc idTD _ _ [⟨z1, z2⟩] zo (.slice A2 m c2) (by rfl) (by rfl) (m := 1) (n := m + 1) rfl hzl o2 (blk_slAt IDE.enc (fr := (0, 0)) (e := 46) k2 [⟨z1, z2⟩] rfl) (by omega) (by unfold maxLen; omega) hzw ?_
              intro A2' c2' wn o2n hm2 hst
              have hv2 := own_new hst.2 hon.size
              have hq := hst.own o1 hap.symm
              replace hzw := Nat.le_trans hzw (grown_size hst.1)
              replace hon := hon.trans' (only_grown hst.1) (fun k _ h => .inr h)
              have hap2 := hq.2.symm
              clear o1 o2 k2 hst hap
              have o1 := hq.1
              have o2 := o2n
              have hap := hap2
              clear hap2
              clear o2n hq
              refine hK9.out _ _ (HS _ hon) (fun hHeld => ?_)
              clear hK9 K9
              (try simp only [Act.put, List.getElem_toArray, List.getElem_cons_succ, List.getElem_cons_zero, List.setIfInBounds_toArray, List.set_cons_zero, List.set_cons_succ])
              obtain ⟨wz, rfl⟩ : ∃ x, x = wn := ⟨_, rfl⟩
              refine wpAnyH_cast (l' := #[true, true, true, true, true, true, true, true, true, true, true, true, true, true, false, false]) (by kernel_rfl) ?_
              clear hHeld hm1 hm2 hlg1 hlg2
              revert hv2
              revert hv1
              revert hzw
              revert hap
              revert o2
              revert o1
              revert hon
              revert wz
              revert c2'
              revert A2'
              revert c1'
              revert A1'
              revert g2
              revert g1
              exact final ()
            · intro K9 hK9
              go_simp
              refine hK9.out _ _ (HS _ (hon.alloc _)) (fun hHeld => ?_)
              clear hK9 K9
              (try simp only [Act.put, List.getElem_toArray, List.getElem_cons_succ, List.getElem_cons_zero, List.setIfInBounds_toArray, List.set_cons_zero, List.set_cons_succ])
              obtain ⟨g2, hg⟩ : ∃ g, g = wz.heap.size := ⟨_, rfl⟩
              obtain ⟨wn, hwn⟩ : ∃ x, x = wz.alloc (.cells #[.int .i64 z1, .int .i64 z2] 46 (0, 0)) := ⟨_, rfl⟩
              have k2 : wn.heap[g2]? = some (.cells #[.int .i64 z1, .int .i64 z2] 46 (0, 0)) := by rw [hwn, hg]; exact heap_alloc_new _ _
              have hbn : Below wz.heap.size wz wn := by rw [hwn]; exact (by repeat (first | with_reducible exact Below.refl _ _ | (with_reducible refine Below.drew ?_) | (with_reducible refine below_drewN ?_ _) | (with_reducible refine Below.alloc ?_ ?_ _; rotate_left; (first | omega | (simp <;> omega))) | (with_reducible refine Below.setCell ?_ ?_ _; rotate_left; (first | omega | (simp <;> omega)))))
              have hlg2 : w8.heap.size ≤ g2 := by rw [hg]; exact hon.size
              rw [← hwn, ← hg]
              clear hwn hg hHeld
              replace hon := hon.trans (Only.of_below hbn)
              replace o1 := o1.below hbn
              replace o2 := o2.below hbn
              replace hzw := Nat.le_trans hzw hbn.size
              (try replace k1 := blk_below k1 hbn)
              clear hbn
              obtain ⟨wz, rfl⟩ : ∃ x, x = wn := ⟨_, rfl⟩
              have hHeld := HS _ hon
              refine wpAnyH_ready (rs := [9]) (by kernel_rfl) (by simp) ?_
              refine AllReadyH.cons (o := _) rfl ?_ AllReadyH.nil
              intro K9 hK9
              refine step_app2 rfl (.tmp 45) (.tmp 53) (by rfl) IDE.enc idTD _ _ [⟨x1, x2⟩] qo (.slice A1 m c1) (by rfl) (by rfl) (m := 1) (n := m + 1) rfl hql o1 (blk_slAt IDE.enc (fr := (0, 0)) (e := 46) k1 [⟨x1, x2⟩] rfl) (by omega) (by unfold maxLen; omega) hzw ?_
              intro A1' c1' wn o1n hm1 hst
              have hv1 := own_new hst.2 hon.size
              have hq := hst.own o2 hap
              (try replace k2 := (only_grown hst.1).boxed k2 (fun e => by have := HV1 g2 e; omega))
              replace hzw := Nat.le_trans hzw (grown_size hst.1)
              replace hon := hon.trans' (only_grown hst.1) (fun k _ h => .inl h)
              clear o1 o2 k1 hst
              have o1 := o1n
              have o2 := hq.1
              have hap := hq.2
              clear o1n hq
              refine hK9.out _ _ (HS _ hon) (fun hHeld => ?_)
              clear hK9 K9
              (try simp only [Act.put, List.getElem_toArray, List.getElem_cons_succ, List.getElem_cons_zero, List.setIfInBounds_toArray, List.set_cons_zero, List.set_cons_succ])
              obtain ⟨wz, rfl⟩ : ∃ x, x = wn := ⟨_, rfl⟩
              refine wpAnyH_ready (rs := [13]) (by kernel_rfl) (by simp) ?_
              refine AllReadyH.cons (o := _) rfl ?_ AllReadyH.nil
              intro K9 hK9
              refine step_app2 rfl (.tmp 55) (.tmp 57) (by rfl) IDE.enc idTD _ _ [⟨z1, z2⟩] zo (.slice A2 m c2) (by rfl) (by rfl) (m := 1) (n := m + 1) rfl hzl o2 (blk_slAt IDE.enc (fr := (0, 0)) (e := 46) k2 [⟨z1, z2⟩] rfl) (by omega) (by unfold maxLen; omega) hzw ?_
              intro A2' c2' wn o2n hm2 hst
              have hv2 := own_new hst.2 hon.size
              have hq := hst.own o1 hap.symm
              replace hzw := Nat.le_trans hzw (grown_size hst.1)
              replace hon := hon.trans' (only_grown hst.1) (fun k _ h => .inr h)
              have hap2 := hq.2.symm
              clear o1 o2 k2 hst hap
              have o1 := hq.1
              have o2 := o2n
              have hap := hap2
              clear hap2
              clear o2n hq
              refine hK9.out _ _ (HS _ hon) (fun hHeld => ?_)
              clear hK9 K9
              (try simp only [Act.put, List.getElem_toArray, List.getElem_cons_succ, List.getElem_cons_zero, List.setIfInBounds_toArray, List.set_cons_zero, List.set_cons_succ])
              obtain ⟨wz, rfl⟩ : ∃ x, x = wn := ⟨_, rfl⟩
              refine wpAnyH_cast (l' := #[true, true, true, true, true, true, true, true, true, true, true, true, true, true, false, false]) (by kernel_rfl) ?_
              clear hHeld hm1 hm2 hlg1 hlg2
              revert hv2
              revert hv1
              revert hzw
              revert hap
              revert o2
              revert o1
              revert hon
              revert wz
              revert c2'
              revert A2'
              revert c1'
              revert A1'
              revert g2
              revert g1
              exact final ()
          · intro K9 hK9
            go_simp
            refine hK9.out _ _ (HS _ (hon.alloc _)) (fun hHeld => ?_)
            clear hK9 K9
            (try simp only [Act.put, List.getElem_toArray, List.getElem_cons_succ, List.getElem_cons_zero, List.setIfInBounds_toArray, List.set_cons_zero, List.set_cons_succ])
            obtain ⟨g2, hg⟩ : ∃ g, g = wz.heap.size := ⟨_, rfl⟩
            obtain ⟨wn, hwn⟩ : ∃ x, x = wz.alloc (.cells #[.int .i64 z1, .int .i64 z2] 46 (0, 0)) := ⟨_, rfl⟩
            have k2 : wn.heap[g2]? = some (.cells #[.int .i64 z1, .int .i64 z2] 46 (0, 0)) := by rw [hwn, hg]; exact heap_alloc_new _ _
            have hbn : Below wz.heap.size wz wn := by rw [hwn]; exact (by repeat (first | with_reducible exact Below.refl _ _ | (with_reducible refine Below.drew ?_) | (with_reducible refine below_drewN ?_ _) | (with_reducible refine Below.alloc ?_ ?_ _; rotate_left; (first | omega | (simp <;> omega))) | (with_reducible refine Below.setCell ?_ ?_ _; rotate_left; (first | omega | (simp <;> omega)))))
            have hlg2 : w8.heap.size ≤ g2 := by rw [hg]; exact hon.size
            rw [← hwn, ← hg]
            clear hwn hg hHeld
            replace hon := hon.trans (Only.of_below hbn)
            replace o1 := o1.below hbn
            replace o2 := o2.below hbn
            replace hzw := Nat.le_trans hzw hbn.size
            (try replace k2 := blk_below k2 hbn)
            clear hbn
            obtain ⟨wz, rfl⟩ : ∃ x, x = wn := ⟨_, rfl⟩
            have hHeld := HS _ hon
            refine wpAnyH_ready (rs := [8]) (by kernel_rfl) (by simp) ?_
            refine AllReadyH.cons (o := _) rfl ?_ AllReadyH.nil
            intro K9 hK9
            go_simp
            refine hK9.out _ _ (HS _ (hon.alloc _)) (fun hHeld => ?_)
            clear hK9 K9
            (try simp only [Act.put, List.getElem_toArray, List.getElem_cons_succ, List.getElem_cons_zero, List.setIfInBounds_toArray, List.set_cons_zero, List.set_cons_succ])
            obtain ⟨g1, hg⟩ : ∃ g, g = wz.heap.size := ⟨_, rfl⟩
            obtain ⟨wn, hwn⟩ : ∃ x, x = wz.alloc (.cells #[.int .i64 x1, .int .i64 x2] 46 (0, 0)) := ⟨_, rfl⟩
            have k1 : wn.heap[g1]? = some (.cells #[.int .i64 x1, .int .i64 x2] 46 (0, 0)) := by rw [hwn, hg]; exact heap_alloc_new _ _
            have hbn : Below wz.heap.size wz wn := by rw [hwn]; exact (by repeat (first | with_reducible exact Below.refl _ _ | (with_reducible refine Below.drew ?_) | (with_reducible refine below_drewN ?_ _) | (with_reducible refine Below.alloc ?_ ?_ _; rotate_left; (first | omega | (simp <;> omega))) | (with_reducible refine Below.setCell ?_ ?_ _; rotate_left; (first | omega | (simp <;> omega)))))
            have hlg1 : w8.heap.size ≤ g1 := by rw [hg]; exact hon.size
            rw [← hwn, ← hg]
            clear hwn hg hHeld
            replace hon := hon.trans (Only.of_below hbn)
            replace o1 := o1.below hbn
            replace o2 := o2.below hbn
            replace hzw := Nat.le_trans hzw hbn.size
            (try replace k2 := blk_below k2 hbn)
            clear hbn
            obtain ⟨wz, rfl⟩ : ∃ x, x = wn := ⟨_, rfl⟩
            have hHeld := HS _ hon
            refine wpAnyH_ready (rs := [9]) (by kernel_rfl) (by simp) ?_
            refine AllReadyH.cons (o := _) rfl ?_ AllReadyH.nil
            intro K9 hK9
            refine step_app2 rfl (.tmp 45) (.tmp 53) (by rfl) IDE.enc idTD _ _ [⟨x1, x2⟩] qo (.slice A1 m c1) (by rfl) (by rfl) (m := 1) (n := m + 1) rfl hql o1 (blk_slAt IDE.enc (fr := (0, 0)) (e := 46) k1 [⟨x1, x2⟩] rfl) (by omega) (by unfold maxLen; omega) hzw ?_
            intro A1' c1' wn o1n hm1 hst
            have hv1 := own_new hst.2 hon.size
            have hq := hst.own o2 hap
            (try replace k2 := (only_grown hst.1).boxed k2 (fun e => by have := HV1 g2 e; omega))
            replace hzw := Nat.le_trans hzw (grown_size hst.1)
            replace hon := hon.trans' (only_grown hst.1) (fun k _ h => .inl h)
            clear o1 o2 k1 hst
            have o1 := o1n
            have o2 := hq.1
            have hap := hq.2
            clear o1n hq
            refine hK9.out _ _ (HS _ hon) (fun hHeld => ?_)
            clear hK9 K9
            (try simp only [Act.put, List.getElem_toArray, List.getElem_cons_succ, List.getElem_cons_zero, List.setIfInBounds_toArray, List.set_cons_zero, List.set_cons_succ])
            obtain ⟨wz, rfl⟩ : ∃ x, x = wn := ⟨_, rfl⟩
            refine wpAnyH_ready (rs := [13]) (by kernel_rfl) (by simp) ?_
            refine AllReadyH.cons (o := _) rfl ?_ AllReadyH.nil
            intro K9 hK9
            refine step_app2 rfl (.tmp 55) (.tmp 57) (by rfl) IDE.enc idTD _ _ [⟨z1, z2⟩] zo (.slice A2 m c2) (by rfl) (by rfl) (m := 1) (n := m + 1) rfl hzl o2 (blk_slAt IDE.enc (fr := (0, 0)) (e := 46) k2 [⟨z1, z2⟩] rfl) (by omega) (by unfold maxLen; omega) hzw ?_
            intro A2' c2' wn o2n hm2 hst
            have hv2 := own_new hst.2 hon.size
            have hq := hst.own o1 hap.symm
            replace hzw := Nat.le_trans hzw (grown_size hst.1)
            replace hon := hon.trans' (only_grown hst.1) (fun k _ h => .inr h)
            have hap2 := hq.2.symm
            clear o1 o2 k2 hst hap
            have o1 := hq.1
            have o2 := o2n
            have hap := hap2
            clear hap2
            clear o2n hq
            refine hK9.out _ _ (HS _ hon) (fun hHeld => ?_)
            clear hK9 K9
            (try simp only [Act.put, List.getElem_toArray, List.getElem_cons_succ, List.getElem_cons_zero, List.setIfInBounds_toArray, List.set_cons_zero, List.set_cons_succ])
            obtain ⟨wz, rfl⟩ : ∃ x, x = wn := ⟨_, rfl⟩
            refine wpAnyH_cast (l' := #[true, true, true, true, true, true, true, true, true, true, true, true, true, true, false, false]) (by kernel_rfl) ?_
            clear hHeld hm1 hm2 hlg1 hlg2
            revert hv2
            revert hv1
            revert hzw
            revert hap
            revert o2
            revert o1
            revert hon
            revert wz
            revert c2'
            revert A2'
            revert c1'
            revert A1'
            revert g2
            revert g1
            exact final ()
        intro g1 g2 A1' c1' A2' c2' wz hon o1 o2 hap hzw hv1 hv2
        have hHeld := HS _ hon
        refine wpAnyH_take (i := 14) (oi := _) (v := ?_) rfl (by kernel_rfl) (by kernel_rfl) (by kernel_rfl) (fun _ _ _ h => h) (Or.inl ⟨by rfl, ?_⟩) (by assumption) ?_
        rotate_left 1
        · (intro wy hSw; (try dsimp only at hSw); go_simp; try with_reducible rfl)
        (try simp only [Act.put, List.getElem_toArray, List.getElem_cons_succ, List.getElem_cons_zero, List.setIfInBounds_toArray, List.set_cons_zero, List.set_cons_succ])
        refine wpAnyH_take (i := 15) (oi := _) (v := ?_) rfl (by kernel_rfl) (by kernel_rfl) (by kernel_rfl) (fun _ _ _ h => h) (Or.inl ⟨by rfl, ?_⟩) (by assumption) ?_
        rotate_left 1
        · (intro wy hSw; (try dsimp only at hSw); go_simp; try with_reducible rfl)
        (try simp only [Act.put, List.getElem_toArray, List.getElem_cons_succ, List.getElem_cons_zero, List.setIfInBounds_toArray, List.set_cons_zero, List.set_cons_succ])
        refine wpAnyH_done (by kernel_rfl) ?_ _
        go_wp2_with fail
        go_roundw
        case rel => exact ⟨m + 1, qo ++ [⟨x1, x2⟩], zo ++ [⟨z1, z2⟩], A1', c1', A2', c2', by omega, by go_num, rfl, rfl, hide ⟨((ordI_succ Hi.out).trans (by rw [← hqz.out.1]; show qo ++ [ids.getD i ⟨0, 0⟩] = _; rw [hxd.out])).symm, ((ordI_succ Hi.out).trans (by rw [← hqz.out.2]; show zo ++ [ids.getD (d i).toNat ⟨0, 0⟩] = _; rw [hzz.out])).symm⟩, o1, o2, hap, hbr.trans ((hb8.mono hbr.size).trans (hon.below (fun k hk => (HVr k hk).1) hB))⟩
        case measure => simp [intOf]; omega
      · have hue : u = ids.length := by omega
        subst hue
        obtain ⟨z1, hz1⟩ : ∃ z : Int, z = 0 := ⟨_, rfl⟩
        obtain ⟨z2, hz2⟩ : ∃ z : Int, z = 0 := ⟨_, rfl⟩
        have hzz := hide (show ids.getD (d i).toNat ⟨0, 0⟩ = ⟨z1, z2⟩ by rw [hzd.out, hz1, hz2, List.getD_eq_getElem?_getD, List.getElem?_eq_none (Nat.le_refl _)]; rfl)
        go_upto_region 10 with fail
        refine wp_name ?_
        intro w8 hw8
        obtain ⟨B11, l8⟩ := box1 hw8
        have hb8 : Below wr.heap.size wr w8 := (l8 wr).below
        have h11 : w8.heap[wr.heap.size]? = some (.cells #[.int .i64 z1, .int .i64 z2] 46 (0, 0)) := by rw [hz1, hz2]; exact (B11 w8).1
        clear hw8 hz1 hz2 B11
        have hc0 := hide h11
        have o1 := ho1.below hb8
        have o2 := ho2.below hb8
        have hB : w4.heap.size ≤ w8.heap.size := Nat.le_trans hbr.size hb8.size
        have HV1 : ∀ k, (Value.slice A1 m c1).ownBlock = some k → k < w8.heap.size := fun k hk => (World.ownsRow.lt o1 k hk).2
        have HVr : ∀ k, ((Value.slice A1 m c1).ownBlock = some k ∨ (Value.slice A2 m c2).ownBlock = some k) → w4.heap.size ≤ k ∧ k < wr.heap.size := fun k hk => hk.elim (fun h => World.ownsRow.lt ho1 k h) (fun h => World.ownsRow.lt ho2 k h)
        have HS : ∀ z, Only (fun k => (Value.slice A1 m c1).ownBlock = some k ∨ (Value.slice A2 m c2).ownBlock = some k) w8 z → (z.cell? ⟨gt, 0, none⟩ = some (.slice (some ⟨b9, o9, none⟩) ids.length iC) ∧ z.cell? ⟨b9, o9 + i * 2, none⟩ = some (.int .i64 x1) ∧ z.cell? ⟨b9, o9 + i * 2 + 1, none⟩ = some (.int .i64 x2) ∧ z.cell? ⟨wr.heap.size, 0, none⟩ = some (.int .i64 z1) ∧ z.cell? ⟨wr.heap.size, 1, none⟩ = some (.int .i64 z2)) := fun z hz => by
          have lz : Later w4 z := ⟨hbr.trans ((hb8.mono hbr.size).trans (hz.below (fun k hk => (HVr k hk).1) hB))⟩
          have a := boxed (hz.boxed hc0.out (fun h => by have := (HVr _ h).2; omega)) z
          refine ⟨?_, C1 z, C2 z, ?_, ?_⟩
          · have := ((XT z).2 0).1; simpa using this
          · simpa using (a.2 0).1
          · simpa using (a.2 1).1
        refine wp_region_held_drew (S := fun z => z.cell? ⟨gt, 0, none⟩ = some (.slice (some ⟨b9, o9, none⟩) ids.length iC) ∧ z.cell? ⟨b9, o9 + i * 2, none⟩ = some (.int .i64 x1) ∧ z.cell? ⟨b9, o9 + i * 2 + 1, none⟩ = some (.int .i64 x2) ∧ z.cell? ⟨wr.heap.size, 0, none⟩ = some (.int .i64 z1) ∧ z.cell? ⟨wr.heap.size, 1, none⟩ = some (.int .i64 z2)) (by kernel_rfl) (HS _ (Only.refl.drew)) (fun hHeld => ?_)
        have hon : Only (fun k => (Value.slice A1 m c1).ownBlock = some k ∨ (Value.slice A2 m c2).ownBlock = some k) w8 w8.drew := Only.refl.drew
        replace o1 := o1.below (show Below w8.heap.size w8 w8.drew from (Below.refl _ _).drew)
        replace o2 := o2.below (show Below w8.heap.size w8 w8.drew from (Below.refl _ _).drew)
        have hzw : w4.heap.size ≤ w8.drew.heap.size := by rw [heap_drew]; exact hB
        obtain ⟨wz, hwz⟩ : ∃ z, z = w8.drew := ⟨_, rfl⟩
        rw [← hwz] at hHeld hon o1 o2 hzw ⊢
        clear hwz h11
        refine wpAnyH_take (i := 0) (oi := _) (v := ?_) rfl (by kernel_rfl) (by kernel_rfl) (by kernel_rfl) (fun _ _ _ h => h) (Or.inl ⟨by rfl, ?_⟩) (by assumption) ?_
        rotate_left 1
        · (intro wy hSw; (try dsimp only at hSw); obtain ⟨s1, s2, s3, s4, s5⟩ := hSw; go_simp; try with_reducible rfl)
        (try simp only [Act.put, List.getElem_toArray, List.getElem_cons_succ, List.getElem_cons_zero, List.setIfInBounds_toArray, List.set_cons_zero, List.set_cons_succ])
        refine wpAnyH_take (i := 1) (oi := _) (v := ?_) rfl (by kernel_rfl) (by kernel_rfl) (by kernel_rfl) (fun _ _ _ h => h) (Or.inl ⟨by rfl, ?_⟩) (by assumption) ?_
        rotate_left 1
        · (intro wy hSw; (try dsimp only at hSw); obtain ⟨s1, s2, s3, s4, s5⟩ := hSw; go_simp; try with_reducible rfl)
        (try simp only [Act.put, List.getElem_toArray, List.getElem_cons_succ, List.getElem_cons_zero, List.setIfInBounds_toArray, List.set_cons_zero, List.set_cons_succ])
        refine wpAnyH_take (i := 2) (oi := _) (v := ?_) rfl (by kernel_rfl) (by kernel_rfl) (by kernel_rfl) (fun _ _ _ h => h) (Or.inl ⟨by rfl, ?_⟩) (by assumption) ?_
        rotate_left 1
        · (intro wy hSw; (try dsimp only at hSw); obtain ⟨s1, s2, s3, s4, s5⟩ := hSw; go_simp; try with_reducible rfl)
        (try simp only [Act.put, List.getElem_toArray, List.getElem_cons_succ, List.getElem_cons_zero, List.setIfInBounds_toArray, List.set_cons_zero, List.set_cons_succ])
        refine wpAnyH_take (i := 3) (oi := _) (v := ?_) rfl (by kernel_rfl) (by kernel_rfl) (by kernel_rfl) (fun _ _ _ h => h) (Or.inl ⟨by rfl, ?_⟩) (by assumption) ?_
        rotate_left 1
        · (intro wy hSw; (try dsimp only at hSw); obtain ⟨s1, s2, s3, s4, s5⟩ := hSw; go_simp; try with_reducible rfl)
        (try simp only [Act.put, List.getElem_toArray, List.getElem_cons_succ, List.getElem_cons_zero, List.setIfInBounds_toArray, List.set_cons_zero, List.set_cons_succ])
        refine wpAnyH_take (i := 4) (oi := _) (v := ?_) rfl (by kernel_rfl) (by kernel_rfl) (by kernel_rfl) (fun _ _ _ h => h) (Or.inl ⟨by rfl, ?_⟩) (by assumption) ?_
        rotate_left 1
        · (intro wy hSw; (try dsimp only at hSw); obtain ⟨s1, s2, s3, s4, s5⟩ := hSw; go_simp; try with_reducible rfl)
        (try simp only [Act.put, List.getElem_toArray, List.getElem_cons_succ, List.getElem_cons_zero, List.setIfInBounds_toArray, List.set_cons_zero, List.set_cons_succ])
        refine wpAnyH_take (i := 5) (oi := _) (v := ?_) rfl (by kernel_rfl) (by kernel_rfl) (by kernel_rfl) (fun _ _ _ h => h) (Or.inl ⟨by rfl, ?_⟩) (by assumption) ?_
        rotate_left 1
        · (intro wy hSw; (try dsimp only at hSw); obtain ⟨s1, s2, s3, s4, s5⟩ := hSw; go_simp; try with_reducible rfl)
        (try simp only [Act.put, List.getElem_toArray, List.getElem_cons_succ, List.getElem_cons_zero, List.setIfInBounds_toArray, List.set_cons_zero, List.set_cons_succ])
        refine wpAnyH_take (i := 6) (oi := _) (v := ?_) rfl (by kernel_rfl) (by kernel_rfl) (by kernel_rfl) (fun _ _ _ h => h) (Or.inl ⟨by rfl, ?_⟩) (by assumption) ?_
        rotate_left 1
        · (intro wy hSw; (try dsimp only at hSw); obtain ⟨s1, s2, s3, s4, s5⟩ := hSw; go_simp; try with_reducible rfl)
        (try simp only [Act.put, List.getElem_toArray, List.getElem_cons_succ, List.getElem_cons_zero, List.setIfInBounds_toArray, List.set_cons_zero, List.set_cons_succ])
        refine wpAnyH_take (i := 7) (oi := _) (v := ?_) rfl (by kernel_rfl) (by kernel_rfl) (by kernel_rfl) (fun _ _ _ h => h) (Or.inl ⟨by rfl, ?_⟩) (by assumption) ?_
        rotate_left 1
        · (intro wy hSw; (try dsimp only at hSw); obtain ⟨s1, s2, s3, s4, s5⟩ := hSw; go_simp; try with_reducible rfl)
        (try simp only [Act.put, List.getElem_toArray, List.getElem_cons_succ, List.getElem_cons_zero, List.setIfInBounds_toArray, List.set_cons_zero, List.set_cons_succ])
        refine wpAnyH_take (i := 10) (oi := _) (v := ?_) rfl (by kernel_rfl) (by kernel_rfl) (by kernel_rfl) (fun _ _ _ h => h) (Or.inl ⟨by rfl, ?_⟩) (by assumption) ?_
        rotate_left 1
        · (intro wy hSw; (try dsimp only at hSw); obtain ⟨s1, s2, s3, s4, s5⟩ := hSw; go_simp; try with_reducible rfl)
        (try simp only [Act.put, List.getElem_toArray, List.getElem_cons_succ, List.getElem_cons_zero, List.setIfInBounds_toArray, List.set_cons_zero, List.set_cons_succ])
        refine wpAnyH_take (i := 11) (oi := _) (v := ?_) rfl (by kernel_rfl) (by kernel_rfl) (by kernel_rfl) (fun _ _ _ h => h) (Or.inl ⟨by rfl, ?_⟩) (by assumption) ?_
        rotate_left 1
        · (intro wy hSw; (try dsimp only at hSw); obtain ⟨s1, s2, s3, s4, s5⟩ := hSw; go_simp; try with_reducible rfl)
        (try simp only [Act.put, List.getElem_toArray, List.getElem_cons_succ, List.getElem_cons_zero, List.setIfInBounds_toArray, List.set_cons_zero, List.set_cons_succ])
        apply by_final2
        · intro final
          refine wpAnyH_ready (rs := [8, 12]) (by kernel_rfl) (by simp) ?_
          refine AllReadyH.cons (o := _) rfl ?_ (AllReadyH.cons (o := _) rfl ?_ AllReadyH.nil)
          · intro K9 hK9
            go_simp
            refine hK9.out _ _ (HS _ (hon.alloc _)) (fun hHeld => ?_)
            clear hK9 K9
            (try simp only [Act.put, List.getElem_toArray, List.getElem_cons_succ, List.getElem_cons_zero, List.setIfInBounds_toArray, List.set_cons_zero, List.set_cons_succ])
            obtain ⟨g1, hg⟩ : ∃ g, g = wz.heap.size := ⟨_, rfl⟩
            obtain ⟨wn, hwn⟩ : ∃ x, x = wz.alloc (.cells #[.int .i64 x1, .int .i64 x2] 46 (0, 0)) := ⟨_, rfl⟩
            have k1 : wn.heap[g1]? = some (.cells #[.int .i64 x1, .int .i64 x2] 46 (0, 0)) := by rw [hwn, hg]; exact heap_alloc_new _ _
            have hbn : Below wz.heap.size wz wn := by rw [hwn]; exact (by repeat (first | with_reducible exact Below.refl _ _ | (with_reducible refine Below.drew ?_) | (with_reducible refine below_drewN ?_ _) | (with_reducible refine Below.alloc ?_ ?_ _; rotate_left; (first | omega | (simp <;> omega))) | (with_reducible refine Below.setCell ?_ ?_ _; rotate_left; (first | omega | (simp <;> omega)))))
            have hlg1 : w8.heap.size ≤ g1 := by rw [hg]; exact hon.size
            rw [← hwn, ← hg]
            clear hwn hg hHeld
            replace hon := hon.trans (Only.of_below hbn)
            replace o1 := o1.below hbn
            replace o2 := o2.below hbn
            replace hzw := Nat.le_trans hzw hbn.size
            (try replace k1 := blk_below k1 hbn)
            clear hbn
            obtain ⟨wz, rfl⟩ : ∃ x, x = wn := ⟨_, rfl⟩
            have hHeld := HS _ hon
            refine wpAnyH_ready (rs := [9, 12]) (by kernel_rfl) (by simp) ?_
            refine AllReadyH.cons (o := _) rfl ?_ (AllReadyH.cons (o := _) rfl ?_ AllReadyH.nil)
            · intro K9 hK9
              refine step_app2 rfl (.tmp 45) (.tmp 53) (by rfl) IDE.enc idTD _ _ [⟨x1, x2⟩] qo (.slice A1 m c1) (by rfl) (by rfl) (m := 1) (n := m + 1) rfl hql o1 (blk_slAt IDE.enc (fr := (0, 0)) (e := 46) k1 [⟨x1, x2⟩] rfl) (by omega) (by unfold maxLen; omega) hzw ?_
              intro A1' c1' wn o1n hm1 hst
              have hv1 := own_new hst.2 hon.size
              have hq := hst.own o2 hap
              (try replace k2 := (only_grown hst.1).boxed k2 (fun e => by have := HV1 g2 e; omega))
              replace hzw := Nat.le_trans hzw (grown_size hst.1)
              replace hon := hon.trans' (only_grown hst.1) (fun k _ h => .inl h)
              clear o1 o2 k1 hst
              have o1 := o1n
              have o2 := hq.1
              have hap := hq.2
              clear o1n hq
              refine hK9.out _ _ (HS _ hon) (fun hHeld => ?_)
              clear hK9 K9
              (try simp only [Act.put, List.getElem_toArray, List.getElem_cons_succ, List.getElem_cons_zero, List.setIfInBounds_toArray, List.set_cons_zero, List.set_cons_succ])
              obtain ⟨wz, rfl⟩ : ∃ x, x = wn := ⟨_, rfl⟩
              refine wpAnyH_ready (rs := [12]) (by kernel_rfl) (by simp) ?_
              refine AllReadyH.cons (o := _) rfl ?_ AllReadyH.nil
              intro K9 hK9
              go_simp
              refine hK9.out _ _ (HS _ (hon.alloc _)) (fun hHeld => ?_)
              clear hK9 K9
              (try simp only [Act.put, List.getElem_toArray, List.getElem_cons_succ, List.getElem_cons_zero, List.setIfInBounds_toArray, List.set_cons_zero, List.set_cons_succ])
              obtain ⟨g2, hg⟩ : ∃ g, g = wz.heap.size := ⟨_, rfl⟩
              obtain ⟨wn, hwn⟩ : ∃ x, x = wz.alloc (.cells #[.int .i64 z1, .int .i64 z2] 46 (0, 0)) := ⟨_, rfl⟩
              have k2 : wn.heap[g2]? = some (.cells #[.int .i64 z1, .int .i64 z2] 46 (0, 0)) := by rw [hwn, hg]; exact heap_alloc_new _ _
              have hbn : Below wz.heap.size wz wn := by rw [hwn]; exact (by repeat (first | with_reducible exact Below.refl _ _ | (with_reducible refine Below.drew ?_) | (with_reducible refine below_drewN ?_ _) | (with_reducible refine Below.alloc ?_ ?_ _; rotate_left; (first | omega | (simp <;> omega))) | (with_reducible refine Below.setCell ?_ ?_ _; rotate_left; (first | omega | (simp <;> omega)))))
              have hlg2 : w8.heap.size ≤ g2 := by rw [hg]; exact hon.size
              rw [← hwn, ← hg]
              clear hwn hg hHeld
              replace hon := hon.trans (Only.of_below hbn)
              replace o1 := o1.below hbn
              replace o2 := o2.below hbn
              replace hzw := Nat.le_trans hzw hbn.size
              (try replace k2 := blk_below k2 hbn)
              clear hbn
              obtain ⟨wz, rfl⟩ : ∃ x, x = wn := ⟨_, rfl⟩
              have hHeld := HS _ hon
              refine wpAnyH_ready (rs := [13]) (by kernel_rfl) (by simp) ?_
              refine AllReadyH.cons (o := _) rfl ?_ AllReadyH.nil
              intro K9 hK9
              refine step_app2 rfl (.tmp 55) (.tmp 57) (by rfl) IDE.enc idTD _ _ [⟨z1, z2⟩] zo (.slice A2 m c2) (by rfl) (by rfl) (m := 1) (n := m + 1) rfl hzl o2 (blk_slAt IDE.enc (fr := (0, 0)) (e := 46) k2 [⟨z1, z2⟩] rfl) (by omega) (by unfold maxLen; omega) hzw ?_
              intro A2' c2' wn o2n hm2 hst
              have hv2 := own_new hst.2 hon.size
              have hq := hst.own o1 hap.symm
              replace hzw := Nat.le_trans hzw (grown_size hst.1)
              replace hon := hon.trans' (only_grown hst.1) (fun k _ h => .inr h)
              have hap2 := hq.2.symm
              clear o1 o2 k2 hst hap
              have o1 := hq.1
              have o2 := o2n
              have hap := hap2
              clear hap2
              clear o2n hq
              refine hK9.out _ _ (HS _ hon) (fun hHeld => ?_)
              clear hK9 K9
              (try simp only [Act.put, List.getElem_toArray, List.getElem_cons_succ, List.getElem_cons_zero, List.setIfInBounds_toArray, List.set_cons_zero, List.set_cons_succ])
              obtain ⟨wz, rfl⟩ : ∃ x, x = wn := ⟨_, rfl⟩
              refine wpAnyH_cast (l' := #[true, true, true, true, true, true, true, true, true, true, true, true, true, true, false, false]) (by kernel_rfl) ?_
              clear hHeld hm1 hm2 hlg1 hlg2
              revert hv2
              revert hv1
              revert hzw
              revert hap
              revert o2
              revert o1
              revert hon
              revert wz
              revert c2'
              revert A2'
              revert c1'
              revert A1'
              revert g2
              revert g1
              exact final ()
            · intro K9 hK9
              go_simp
              refine hK9.out _ _ (HS _ (hon.alloc _)) (fun hHeld => ?_)
              clear hK9 K9
              (try simp only [Act.put, List.getElem_toArray, List.getElem_cons_succ, List.getElem_cons_zero, List.setIfInBounds_toArray, List.set_cons_zero, List.set_cons_succ])
              obtain ⟨g2, hg⟩ : ∃ g, g = wz.heap.size := ⟨_, rfl⟩
              obtain ⟨wn, hwn⟩ : ∃ x, x = wz.alloc (.cells #[.int .i64 z1, .int .i64 z2] 46 (0, 0)) := ⟨_, rfl⟩
              have k2 : wn.heap[g2]? = some (.cells #[.int .i64 z1, .int .i64 z2] 46 (0, 0)) := by rw [hwn, hg]; exact heap_alloc_new _ _
              have hbn : Below wz.heap.size wz wn := by rw [hwn]; exact (by repeat (first | with_reducible exact Below.refl _ _ | (with_reducible refine Below.drew ?_) | (with_reducible refine below_drewN ?_ _) | (with_reducible refine Below.alloc ?_ ?_ _; rotate_left; (first | omega | (simp <;> omega))) | (with_reducible refine Below.setCell ?_ ?_ _; rotate_left; (first | omega | (simp <;> omega)))))
              have hlg2 : w8.heap.size ≤ g2 := by rw [hg]; exact hon.size
              rw [← hwn, ← hg]
              clear hwn hg hHeld
              replace hon := hon.trans (Only.of_below hbn)
              replace o1 := o1.below hbn
              replace o2 := o2.below hbn
              replace hzw := Nat.le_trans hzw hbn.size
              (try replace k1 := blk_below k1 hbn)
              clear hbn
              obtain ⟨wz, rfl⟩ : ∃ x, x = wn := ⟨_, rfl⟩
              have hHeld := HS _ hon
              refine wpAnyH_ready (rs := [9]) (by kernel_rfl) (by simp) ?_
              refine AllReadyH.cons (o := _) rfl ?_ AllReadyH.nil
              intro K9 hK9
              refine step_app2 rfl (.tmp 45) (.tmp 53) (by rfl) IDE.enc idTD _ _ [⟨x1, x2⟩] qo (.slice A1 m c1) (by rfl) (by rfl) (m := 1) (n := m + 1) rfl hql o1 (blk_slAt IDE.enc (fr := (0, 0)) (e := 46) k1 [⟨x1, x2⟩] rfl) (by omega) (by unfold maxLen; omega) hzw ?_
              intro A1' c1' wn o1n hm1 hst
              have hv1 := own_new hst.2 hon.size
              have hq := hst.own o2 hap
              (try replace k2 := (only_grown hst.1).boxed k2 (fun e => by have := HV1 g2 e; omega))
              replace hzw := Nat.le_trans hzw (grown_size hst.1)
              replace hon := hon.trans' (only_grown hst.1) (fun k _ h => .inl h)
              clear o1 o2 k1 hst
              have o1 := o1n
              have o2 := hq.1
              have hap := hq.2
              clear o1n hq
              refine hK9.out _ _ (HS _ hon) (fun hHeld => ?_)
              clear hK9 K9
              (try simp only [Act.put, List.getElem_toArray, List.getElem_cons_succ, List.getElem_cons_zero, List.setIfInBounds_toArray, List.set_cons_zero, List.set_cons_succ])
              obtain ⟨wz, rfl⟩ : ∃ x, x = wn := ⟨_, rfl⟩
              refine wpAnyH_ready (rs := [13]) (by kernel_rfl) (by simp) ?_
              refine AllReadyH.cons (o := _) rfl ?_ AllReadyH.nil
              intro K9 hK9
              refine step_app2 rfl (.tmp 55) (.tmp 57) (by rfl) IDE.enc idTD _ _ [⟨z1, z2⟩] zo (.slice A2 m c2) (by rfl) (by rfl) (m := 1) (n := m + 1) rfl hzl o2 (blk_slAt IDE.enc (fr := (0, 0)) (e := 46) k2 [⟨z1, z2⟩] rfl) (by omega) (by unfold maxLen; omega) hzw ?_
              intro A2' c2' wn o2n hm2 hst
              have hv2 := own_new hst.2 hon.size
              have hq := hst.own o1 hap.symm
              replace hzw := Nat.le_trans hzw (grown_size hst.1)
              replace hon := hon.trans' (only_grown hst.1) (fun k _ h => .inr h)
              have hap2 := hq.2.symm
              clear o1 o2 k2 hst hap
              have o1 := hq.1
              have o2 := o2n
              have hap := hap2
              clear hap2
              clear o2n hq
              refine hK9.out _ _ (HS _ hon) (fun hHeld => ?_)
              clear hK9 K9
              (try simp only [Act.put, List.getElem_toArray, List.getElem_cons_succ, List.getElem_cons_zero, List.setIfInBounds_toArray, List.set_cons_zero, List.set_cons_succ])
              obtain ⟨wz, rfl⟩ : ∃ x, x = wn := ⟨_, rfl⟩
              refine wpAnyH_cast (l' := #[true, true, true, true, true, true, true, true, true, true, true, true, true, true, false, false]) (by kernel_rfl) ?_
              clear hHeld hm1 hm2 hlg1 hlg2
              revert hv2
              revert hv1
              revert hzw
              revert hap
              revert o2
              revert o1
              revert hon
              revert wz
              revert c2'
              revert A2'
              revert c1'
              revert A1'
              revert g2
              revert g1
              exact final ()
          · intro K9 hK9
            go_simp
            refine hK9.out _ _ (HS _ (hon.alloc _)) (fun hHeld => ?_)
            clear hK9 K9
            (try simp only [Act.put, List.getElem_toArray, List.getElem_cons_succ, List.getElem_cons_zero, List.setIfInBounds_toArray, List.set_cons_zero, List.set_cons_succ])
            obtain ⟨g2, hg⟩ : ∃ g, g = wz.heap.size := ⟨_, rfl⟩
            obtain ⟨wn, hwn⟩ : ∃ x, x = wz.alloc (.cells #[.int .i64 z1, .int .i64 z2] 46 (0, 0)) := ⟨_, rfl⟩
            have k2 : wn.heap[g2]? = some (.cells #[.int .i64 z1, .int .i64 z2] 46 (0, 0)) := by rw [hwn, hg]; exact heap_alloc_new _ _
            have hbn : Below wz.heap.size wz wn := by rw [hwn]; exact (by repeat (first | with_reducible exact Below.refl _ _ | (with_reducible refine Below.drew ?_) | (with_reducible refine below_drewN ?_ _) | (with_reducible refine Below.alloc ?_ ?_ _; rotate_left; (first | omega | (simp <;> omega))) | (with_reducible refine Below.setCell ?_ ?_ _; rotate_left; (first | omega | (simp <;> omega)))))
            have hlg2 : w8.heap.size ≤ g2 := by rw [hg]; exact hon.size
            rw [← hwn, ← hg]
            clear hwn hg hHeld
            replace hon := hon.trans (Only.of_below hbn)
            replace o1 := o1.below hbn
            replace o2 := o2.below hbn
            replace hzw := Nat.le_trans hzw hbn.size
            (try replace k2 := blk_below k2 hbn)
            clear hbn
            obtain ⟨wz, rfl⟩ : ∃ x, x = wn := ⟨_, rfl⟩
            have hHeld := HS _ hon
            refine wpAnyH_ready (rs := [8]) (by kernel_rfl) (by simp) ?_
            refine AllReadyH.cons (o := _) rfl ?_ AllReadyH.nil
            intro K9 hK9
            go_simp
            refine hK9.out _ _ (HS _ (hon.alloc _)) (fun hHeld => ?_)
            clear hK9 K9
            (try simp only [Act.put, List.getElem_toArray, List.getElem_cons_succ, List.getElem_cons_zero, List.setIfInBounds_toArray, List.set_cons_zero, List.set_cons_succ])
            obtain ⟨g1, hg⟩ : ∃ g, g = wz.heap.size := ⟨_, rfl⟩
            obtain ⟨wn, hwn⟩ : ∃ x, x = wz.alloc (.cells #[.int .i64 x1, .int .i64 x2] 46 (0, 0)) := ⟨_, rfl⟩
            have k1 : wn.heap[g1]? = some (.cells #[.int .i64 x1, .int .i64 x2] 46 (0, 0)) := by rw [hwn, hg]; exact heap_alloc_new _ _
            have hbn : Below wz.heap.size wz wn := by rw [hwn]; exact (by repeat (first | with_reducible exact Below.refl _ _ | (with_reducible refine Below.drew ?_) | (with_reducible refine below_drewN ?_ _) | (with_reducible refine Below.alloc ?_ ?_ _; rotate_left; (first | omega | (simp <;> omega))) | (with_reducible refine Below.setCell ?_ ?_ _; rotate_left; (first | omega | (simp <;> omega)))))
            have hlg1 : w8.heap.size ≤ g1 := by rw [hg]; exact hon.size
            rw [← hwn, ← hg]
            clear hwn hg hHeld
            replace hon := hon.trans (Only.of_below hbn)
            replace o1 := o1.below hbn
            replace o2 := o2.below hbn
            replace hzw := Nat.le_trans hzw hbn.size
            (try replace k2 := blk_below k2 hbn)
            clear hbn
            obtain ⟨wz, rfl⟩ : ∃ x, x = wn := ⟨_, rfl⟩
            have hHeld := HS _ hon
            refine wpAnyH_ready (rs := [9]) (by kernel_rfl) (by simp) ?_
            refine AllReadyH.cons (o := _) rfl ?_ AllReadyH.nil
            intro K9 hK9
            refine step_app2 rfl (.tmp 45) (.tmp 53) (by rfl) IDE.enc idTD _ _ [⟨x1, x2⟩] qo (.slice A1 m c1) (by rfl) (by rfl) (m := 1) (n := m + 1) rfl hql o1 (blk_slAt IDE.enc (fr := (0, 0)) (e := 46) k1 [⟨x1, x2⟩] rfl) (by omega) (by unfold maxLen; omega) hzw ?_
            intro A1' c1' wn o1n hm1 hst
            have hv1 := own_new hst.2 hon.size
            have hq := hst.own o2 hap
            (try replace k2 := (only_grown hst.1).boxed k2 (fun e => by have := HV1 g2 e; omega))
            replace hzw := Nat.le_trans hzw (grown_size hst.1)
            replace hon := hon.trans' (only_grown hst.1) (fun k _ h => .inl h)
            clear o1 o2 k1 hst
            have o1 := o1n
            have o2 := hq.1
            have hap := hq.2
            clear o1n hq
            refine hK9.out _ _ (HS _ hon) (fun hHeld => ?_)
            clear hK9 K9
            (try simp only [Act.put, List.getElem_toArray, List.getElem_cons_succ, List.getElem_cons_zero, List.setIfInBounds_toArray, List.set_cons_zero, List.set_cons_succ])
            obtain ⟨wz, rfl⟩ : ∃ x, x = wn := ⟨_, rfl⟩
            refine wpAnyH_ready (rs := [13]) (by kernel_rfl) (by simp) ?_
            refine AllReadyH.cons (o := _) rfl ?_ AllReadyH.nil
            intro K9 hK9
            refine step_app2 rfl (.tmp 55) (.tmp 57) (by rfl) IDE.enc idTD _ _ [⟨z1, z2⟩] zo (.slice A2 m c2) (by rfl) (by rfl) (m := 1) (n := m + 1) rfl hzl o2 (blk_slAt IDE.enc (fr := (0, 0)) (e := 46) k2 [⟨z1, z2⟩] rfl) (by omega) (by unfold maxLen; omega) hzw ?_
            intro A2' c2' wn o2n hm2 hst
            have hv2 := own_new hst.2 hon.size
            have hq := hst.own o1 hap.symm
            replace hzw := Nat.le_trans hzw (grown_size hst.1)
            replace hon := hon.trans' (only_grown hst.1) (fun k _ h => .inr h)
            have hap2 := hq.2.symm
            clear o1 o2 k2 hst hap
            have o1 := hq.1
            have o2 := o2n
            have hap := hap2
            clear hap2
            clear o2n hq
            refine hK9.out _ _ (HS _ hon) (fun hHeld => ?_)
            clear hK9 K9
            (try simp only [Act.put, List.getElem_toArray, List.getElem_cons_succ, List.getElem_cons_zero, List.setIfInBounds_toArray, List.set_cons_zero, List.set_cons_succ])
            obtain ⟨wz, rfl⟩ : ∃ x, x = wn := ⟨_, rfl⟩
            refine wpAnyH_cast (l' := #[true, true, true, true, true, true, true, true, true, true, true, true, true, true, false, false]) (by kernel_rfl) ?_
            clear hHeld hm1 hm2 hlg1 hlg2
            revert hv2
            revert hv1
            revert hzw
            revert hap
            revert o2
            revert o1
            revert hon
            revert wz
            revert c2'
            revert A2'
            revert c1'
            revert A1'
            revert g2
            revert g1
            exact final ()
        intro g1 g2 A1' c1' A2' c2' wz hon o1 o2 hap hzw hv1 hv2
        have hHeld := HS _ hon
        refine wpAnyH_take (i := 14) (oi := _) (v := ?_) rfl (by kernel_rfl) (by kernel_rfl) (by kernel_rfl) (fun _ _ _ h => h) (Or.inl ⟨by rfl, ?_⟩) (by assumption) ?_
        rotate_left 1
        · (intro wy hSw; (try dsimp only at hSw); go_simp; try with_reducible rfl)
        (try simp only [Act.put, List.getElem_toArray, List.getElem_cons_succ, List.getElem_cons_zero, List.setIfInBounds_toArray, List.set_cons_zero, List.set_cons_succ])
        refine wpAnyH_take (i := 15) (oi := _) (v := ?_) rfl (by kernel_rfl) (by kernel_rfl) (by kernel_rfl) (fun _ _ _ h => h) (Or.inl ⟨by rfl, ?_⟩) (by assumption) ?_
        rotate_left 1
        · (intro wy hSw; (try dsimp only at hSw); go_simp; try with_reducible rfl)
        (try simp only [Act.put, List.getElem_toArray, List.getElem_cons_succ, List.getElem_cons_zero, List.setIfInBounds_toArray, List.set_cons_zero, List.set_cons_succ])
        refine wpAnyH_done (by kernel_rfl) ?_ _
        go_wp2_with fail
        go_roundw
        case rel => exact ⟨m + 1, qo ++ [⟨x1, x2⟩], zo ++ [⟨z1, z2⟩], A1', c1', A2', c2', by omega, by go_num, rfl, rfl, hide ⟨((ordI_succ Hi.out).trans (by rw [← hqz.out.1]; show qo ++ [ids.getD i ⟨0, 0⟩] = _; rw [hxd.out])).symm, ((ordI_succ Hi.out).trans (by rw [← hqz.out.2]; show zo ++ [ids.getD (d i).toNat ⟨0, 0⟩] = _; rw [hzz.out])).symm⟩, o1, o2, hap, hbr.trans ((hb8.mono hbr.size).trans (hon.below (fun k hk => (HVr k hk).1) hB))⟩
        case measure => simp [intOf]; omega
    · have hmm : m = ids.length := by omega
      subst hmm
      have e1 : qo = q.map fun i => ids.getD i ⟨0, 0⟩ := by rw [hqz.out.1, ← ordI_all, hql'.out]
      have e2 : zo = q.map fun i => ids.getD (d i).toNat ⟨0, 0⟩ := by rw [hqz.out.2, ← ordI_all, hql'.out]
      have e3 := hide (show ids.length = qo.length by rw [e1, List.length_map, hql'.out])
      have hbw : Below w.heap.size w w4 := below_of
      go_wp2_with fail
      refine bodyPost_ret (v := .tuple #[.slice A1 ids.length c1, .slice A2 ids.length c2]) (by simp [results, Try.results12, go_sem]) rfl ?_
      rw [e3.out] at ho1 ho2 ⊢
      exact ⟨qo, zo, A1, c1, A2, c2, rfl, hide ⟨by rw [e1]; exact hT.out.reachL hq.out, by rw [e1, e2]; exact hT.out.domsL hq.out, ids, d, hT.out⟩, ho1.mono hbw.size, ho2.mono hbw.size, hbw.trans (hbr.mono hbw.size)⟩
end Go.Proofs.Ytffnogjgnpbjlaa
