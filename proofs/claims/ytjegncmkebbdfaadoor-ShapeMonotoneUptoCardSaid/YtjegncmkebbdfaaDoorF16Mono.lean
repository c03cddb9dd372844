/-
  Contracts of the functions of this seat that each theorem names: what a call returns, and that it writes nothing that was there before. The conditions stand in each theorem.
-/
import Derived.Test.YtjegncmkebbdfaaDoorF16Closed
import Derived.Test.YtjegncmkebbdfaaDoorF16Restr
import Derived.Test.YtjegncmkebbdfaaDoorF16UIDs
set_option linter.unusedSimpArgs false
set_option linter.unusedVariables false
namespace Go.Proofs.YtjegncmkebbdfaaDoor
open Go.RowKit
attribute [local go_sem] Oper.semAt_some
attribute [local simp] heap_drew
theorem reachL_exists (L : List NodeC) (roots : List IDE) : ∃ q, ReachL L roots q := by
  classical
  refine ⟨setI ((ids L).filter fun x => decide (Reach L roots x)), setI_sorted _, fun x => ?_⟩
  rw [setI_mem, List.mem_filter, decide_eq_true_iff]
  exact ⟨fun h => h.2, fun h => ⟨firstN_ids.1 h.node, h⟩⟩
theorem reachL_len {L : List NodeC} {roots q : List IDE} (h : ReachL L roots q) : q.length ≤ L.length := reach_len h.1.nodup fun x hx => firstN_ids.1 ((h.2 x).1 hx).node
theorem conL_len (l : List NodeE) : (conL l).length = l.length := by unfold conL; rw [List.length_map]
/-- Reachable, its answer named. -/
theorem reachQ_any {A : Option Addr} {c : Nat} {l : List NodeE} {RA : Option Addr} {rc : Nat} {roots q : List IDE} {w : World} (hq : ReachL (conL l) roots q) (H : NodesAt w A l) (hs : SlAt IDE.cells 2 w RA roots) (hl : l.length ≤ 10000) (hf : ∀ n ∈ l, n.fields.length ≤ 10000) (hr : roots.length ≤ 10000) :
    Calls Tryd.prog 11 #[.agg #[.slice A l.length c], .slice RA roots.length rc] w fun r w' => ∃ QA QC, r = .returned (.slice QA q.length QC) ∧ SlAt IDE.cells 2 w' QA q ∧ Below w.heap.size w w' := by
  refine (reach_any A c l RA rc roots w H hs hl hf hr).mono ?_
  rintro r w' ⟨q', QA, QC, hq', rfl, ho, hb⟩
  obtain rfl := hq'.unique hq
  exact ⟨QA, QC, rfl, (ho.at_ IDE.enc).2.2, hb⟩
theorem sameT_any {a b : List IDE} {A B : Option Addr} {c d : Nat} {u : World} (ha : SlAt IDE.cells 2 u A a) (hb : SlAt IDE.cells 2 u B b) (h : a = b) (hl : a.length ≤ 1000000) : Calls Tryd.prog 19 #[.slice A a.length c, .slice B b.length d] u fun r u' => r = .returned (.bool true) ∧ Below u.heap.size u u' := by
  refine (sameIDs_any A c a B d b u ha hb (by omega) (by rw [← h]; omega)).mono ?_
  rintro r u' ⟨q, rfl, hq, hb⟩
  exact ⟨by rw [hq.2 h], hb⟩
set_option maxRecDepth 100000 in
set_option maxHeartbeats 16000000 in
theorem lawMono_any (A : Option Addr) (c : Nat) (l : List NodeE) (XA : Option Addr) (xc : Nat) (xs : List IDE) (YA : Option Addr) (yc : Nat) (ys : List IDE) (w : World) (h : Tab10 w) (H : NodesAt w A l) (hX : SlAt IDE.cells 2 w XA xs) (hY : SlAt IDE.cells 2 w YA ys) (ht : cntG l ≤ 1000000000) (hxl : xs.length ≤ 1000000000) (hyl : ys.length ≤ 1000000000) :
    Calls Tryd.prog 5 #[.agg #[.slice A l.length c], .slice XA xs.length xc, .slice YA ys.length yc] w fun r w' => r = .returned (.bool true) ∧ Below w.heap.size w w' := by
  have HN := H.later
  have HT := h.later
  have HA : ∀ u [Later w u], Calls Tryd.prog 10 #[] u fun r w' => r = .returned (.bool true) ∧ Below u.heap.size u w' := fun u i => awake_any u (HT u)
  have HF : ∀ u [Later w u], Calls Tryd.prog 8 #[.slice (some ⟨u.heap.size, 0, none⟩) 1 1] (u.alloc (.cells #[.slice A l.length c] 24 (0, 0))) fun r w' => r = .returned (.bool (decide (cntG l ≤ 200))) ∧ Below (u.alloc (.cells #[.slice A l.length c] 24 (0, 0))).heap.size (u.alloc (.cells #[.slice A l.length c] 24 (0, 0))) w' := fun u i => few_one A c l _ _ (heap_alloc_new _ _) (HN _) ht
  have HV : True := trivial
  cases hfw : decide (cntG l ≤ 200) with
  | false =>
    simp only [hfw] at HF
    clear hfw
    go_enter Tryd.func5, Tryd.ntmps5
    go_upto_region 1 with fail
    refine wp_name ?_
    intro w1 hw1
    obtain ⟨B0, l1⟩ := box1 hw1
    have l11 : Later w1 w1 := Later.refl
    clear hw1
    go_wp2_with (first | (go_at_call 8; refine (HF _).mono ?_; rintro r w2 ⟨rfl, hb2⟩; have l2 := later hb2) | (go_at_call 10; refine (HA _).mono ?_; rintro r w3 ⟨rfl, hb3⟩; have l3 := later hb3) | (go_at_call 9; refine (HV _).mono ?_; rintro r w4 ⟨rfl, hb4⟩; have l4 := later hb4))
    go_ret
    exact ⟨rfl, below_of⟩
  | true =>
    simp only [hfw] at HF
    obtain ⟨hl2, hf2⟩ := cnt_bounds (of_decide_eq_true hfw)
    clear hfw
    by_cases hx20 : 20 < xs.length
    · have hxi : (20 : Int) < (xs.length : Int) := by omega
      go_enter Tryd.func5, Tryd.ntmps5
      go_upto_region 1 with fail
      refine wp_name ?_
      intro w1 hw1
      obtain ⟨B0, l1⟩ := box1 hw1
      have l11 : Later w1 w1 := Later.refl
      clear hw1
      go_wp2_with (first | (go_at_call 8; refine (HF _).mono ?_; rintro r w2 ⟨rfl, hb2⟩; have l2 := later hb2) | (go_at_call 10; refine (HA _).mono ?_; rintro r w3 ⟨rfl, hb3⟩; have l3 := later hb3) | (go_at_call 9; refine (HV _).mono ?_; rintro r w4 ⟨rfl, hb4⟩; have l4 := later hb4))
      go_ret
      exact ⟨rfl, below_of⟩
    have hxi : ¬ (20 : Int) < (xs.length : Int) := by omega
    by_cases hy20 : 20 < ys.length
    · have hyi : (20 : Int) < (ys.length : Int) := by omega
      go_enter Tryd.func5, Tryd.ntmps5
      go_upto_region 1 with fail
      refine wp_name ?_
      intro w1 hw1
      obtain ⟨B0, l1⟩ := box1 hw1
      have l11 : Later w1 w1 := Later.refl
      clear hw1
      go_wp2_with (first | (go_at_call 8; refine (HF _).mono ?_; rintro r w2 ⟨rfl, hb2⟩; have l2 := later hb2) | (go_at_call 10; refine (HA _).mono ?_; rintro r w3 ⟨rfl, hb3⟩; have l3 := later hb3) | (go_at_call 9; refine (HV _).mono ?_; rintro r w4 ⟨rfl, hb4⟩; have l4 := later hb4))
      go_ret
      exact ⟨rfl, below_of⟩
    have hyi : ¬ (20 : Int) < (ys.length : Int) := by omega
    clear HV
    have HV : ∀ u [Later w u], Calls Tryd.prog 9 #[.agg #[.slice A l.length c]] u fun r w' => r = .returned (.bool (valid16B (conL l))) ∧ Below u.heap.size u w' := fun u i => valid16_any A c l u (HN u) (by omega) (fun n hn => by have := hf2 n hn; omega)
    cases hv : valid16B (conL l) with
    | false =>
      simp only [hv] at HV
      go_enter Tryd.func5, Tryd.ntmps5
      go_upto_region 1 with fail
      refine wp_name ?_
      intro w1 hw1
      obtain ⟨B0, l1⟩ := box1 hw1
      have l11 : Later w1 w1 := Later.refl
      clear hw1
      go_wp2_with (first | (go_at_call 8; refine (HF _).mono ?_; rintro r w2 ⟨rfl, hb2⟩; have l2 := later hb2) | (go_at_call 10; refine (HA _).mono ?_; rintro r w3 ⟨rfl, hb3⟩; have l3 := later hb3) | (go_at_call 9; refine (HV _).mono ?_; rintro r w4 ⟨rfl, hb4⟩; have l4 := later hb4))
      go_ret
      exact ⟨rfl, below_of⟩
    | true =>
      simp only [hv] at HV
      have hf3 : ∀ n ∈ l, n.fields.length ≤ 10000 := fun n hn => by have := hf2 n hn; omega
      obtain ⟨qx, hqx⟩ := reachL_exists (conL l) xs
      obtain ⟨qy, hqy⟩ := reachL_exists (conL l) ys
      obtain ⟨qb, hqb⟩ := reachL_exists (conL l) (xs ++ ys)
      have lx := reachL_len hqx
      have ly := reachL_len hqy
      have lb := reachL_len hqb
      rw [conL_len] at lx ly lb
      have eb := hide (show qb = unionI qx qy from sortedI_unique hqb.1 (unionI_spec qx qy).1 fun x => by rw [hqb.2, reach_app, (unionI_spec qx qy).2, hqx.2, hqy.2])
      have ex := hide (show ReachL (restr (conL l) qb) xs qx from ⟨hqx.1, fun x => by rw [reach_restr (fun y hy => (hqb.2 y).2 (reach_app.2 (.inl hy))), hqx.2]⟩)
      have ey := hide (show ReachL (restr (conL l) qb) ys qy from ⟨hqy.1, fun x => by rw [reach_restr (fun y hy => (hqb.2 y).2 (reach_app.2 (.inr hy))), hqy.2]⟩)
      have QX : ∀ u, Later w u → Calls Tryd.prog 11 #[.agg #[.slice A l.length c], .slice XA xs.length xc] u fun r w' => ∃ QA QC, r = .returned (.slice QA qx.length QC) ∧ SlAt IDE.cells 2 w' QA qx ∧ Below u.heap.size u w' := fun u i => reachQ_any hqx (HN u) (hX.below i.below) (by omega) hf3 (by omega)
      have QY : ∀ u, Later w u → Calls Tryd.prog 11 #[.agg #[.slice A l.length c], .slice YA ys.length yc] u fun r w' => ∃ QA QC, r = .returned (.slice QA qy.length QC) ∧ SlAt IDE.cells 2 w' QA qy ∧ Below u.heap.size u w' := fun u i => reachQ_any hqy (HN u) (hY.below i.below) (by omega) hf3 (by omega)
      go_enter Tryd.func5, Tryd.ntmps5
      go_upto_region 1 with fail
      refine wp_name ?_
      intro w1 hw1
      obtain ⟨B0, l1⟩ := box1 hw1
      have l11 : Later w1 w1 := Later.refl
      clear hw1
      go_upto_region 3 with (first | (go_at_call 8; refine (HF _).mono ?_; rintro r w2 ⟨rfl, hb2⟩; have l2 := later hb2) | (go_at_call 9; refine (HV _).mono ?_; rintro r w4 ⟨rfl, hb4⟩; have l4 := later hb4))
      have hbw4 : Below w.heap.size w w4 := below_of
      have HG : ∀ u, Later w4.drew u → u.cell? ⟨w.heap.size, 0, none⟩ = some (.slice A l.length c) := fun u lu => by
        have i1 : Later w1 w4 := inferInstance
        have := blk_cell (blk_below (B0 w1).1 (i1.trans ((show Later w4 w4.drew from inferInstance).trans lu)).below) 0
        simpa using this
      have lw4 : Later w w4 := ⟨hbw4⟩
      have HW : ∀ u, Later w4.drew u → Later w u := fun u lu => lw4.trans ((show Later w4 w4.drew from inferInstance).trans lu)
      have l44 : Later w4 w4 := Later.refl
      refine wp_region_inv (last := 8) (R := specR [.is (.agg #[.slice A l.length c]), .is (.slice XA xs.length xc), .sl IDE.cells 2 qx, .is (.agg #[.slice A l.length c]), .is (.slice YA ys.length yc), .sl IDE.cells 2 qy, .sl IDE.cells 2 qx, .sl IDE.cells 2 qy]) (by kernel_rfl) (specR_mono _) (by kernel_rfl) (by kernel_rfl) (steps_all ?_) ?_ ?_
      · refine ⟨?_, ?_, ?_, ?_, ?_, ?_, ?_, ?_, trivial⟩
        · intro hne a u lu hN hO K hK
          (try simp only [Nat.zero_add, Nat.reduceAdd] at hN hK)
          have e0 : a.tmps.getD 3 undef = .pointer (some ⟨w.heap.size, 0, none⟩) := (hO 3 (out_get (by kernel_rfl))).trans rfl
          simp only [Array.getD_eq_getD_getElem?] at e0
          have cG := HG u lu
          rw [if_pos (by rfl)]
          go_simp
          exact hK _ _ Later.refl rfl
        · intro hne a u lu hN hO K hK
          (try simp only [Nat.zero_add, Nat.reduceAdd] at hN hK)
          have e0 : a.tmps.getD 1 undef = .slice XA xs.length xc := (hO 1 (out_get (by kernel_rfl))).trans rfl
          simp only [Array.getD_eq_getD_getElem?] at e0
          rw [if_pos (by rfl)]
          go_simp
          exact hK _ _ Later.refl rfl
        · intro hne a u lu hN hO K hK
          (try simp only [Nat.zero_add, Nat.reduceAdd] at hN hK)
          have e0 : a.tmps.getD 31 undef = .agg #[.slice A l.length c] := hN 0 (needs_get (by kernel_rfl))
          simp only [Array.getD_eq_getD_getElem?] at e0
          have e1 : a.tmps.getD 32 undef = .slice XA xs.length xc := hN 1 (needs_get (by kernel_rfl))
          simp only [Array.getD_eq_getD_getElem?] at e1
          rw [if_pos (by rfl)]
          go_simp
          refine (QX u (HW u lu)).mono ?_
          rintro r u' ⟨QA, QC, rfl, hs, hb⟩
          exact hK _ _ ⟨hb⟩ ⟨QA, QC, rfl, hs⟩
        · intro hne a u lu hN hO K hK
          (try simp only [Nat.zero_add, Nat.reduceAdd] at hN hK)
          have e0 : a.tmps.getD 3 undef = .pointer (some ⟨w.heap.size, 0, none⟩) := (hO 3 (out_get (by kernel_rfl))).trans rfl
          simp only [Array.getD_eq_getD_getElem?] at e0
          have cG := HG u lu
          rw [if_pos (by rfl)]
          go_simp
          exact hK _ _ Later.refl rfl
        · intro hne a u lu hN hO K hK
          (try simp only [Nat.zero_add, Nat.reduceAdd] at hN hK)
          have e0 : a.tmps.getD 2 undef = .slice YA ys.length yc := (hO 2 (out_get (by kernel_rfl))).trans rfl
          simp only [Array.getD_eq_getD_getElem?] at e0
          rw [if_pos (by rfl)]
          go_simp
          exact hK _ _ Later.refl rfl
        · intro hne a u lu hN hO K hK
          (try simp only [Nat.zero_add, Nat.reduceAdd] at hN hK)
          have e0 : a.tmps.getD 34 undef = .agg #[.slice A l.length c] := hN 3 (needs_get (by kernel_rfl))
          simp only [Array.getD_eq_getD_getElem?] at e0
          have e1 : a.tmps.getD 35 undef = .slice YA ys.length yc := hN 4 (needs_get (by kernel_rfl))
          simp only [Array.getD_eq_getD_getElem?] at e1
          rw [if_pos (by rfl)]
          go_simp
          refine (QY u (HW u lu)).mono ?_
          rintro r u' ⟨QA, QC, rfl, hs, hb⟩
          exact hK _ _ ⟨hb⟩ ⟨QA, QC, rfl, hs⟩
        · intro hne a u lu hN hO K hK
          (try simp only [Nat.zero_add, Nat.reduceAdd] at hN hK)
          obtain ⟨Ax, cx, ex, Sx⟩ : ∃ A c, a.tmps.getD 33 undef = .slice A qx.length c ∧ SlAt IDE.cells 2 u A qx := hN 2 (needs_get (by kernel_rfl))
          simp only [Array.getD_eq_getD_getElem?] at ex
          rw [if_pos (by rfl)]
          go_simp
          exact hK _ _ Later.refl ⟨Ax, cx, rfl, Sx⟩
        · intro hne a u lu hN hO K hK
          (try simp only [Nat.zero_add, Nat.reduceAdd] at hN hK)
          obtain ⟨Ax, cx, ex, Sx⟩ : ∃ A c, a.tmps.getD 36 undef = .slice A qy.length c ∧ SlAt IDE.cells 2 u A qy := hN 5 (needs_get (by kernel_rfl))
          simp only [Array.getD_eq_getD_getElem?] at ex
          rw [if_pos (by rfl)]
          go_simp
          exact hK _ _ Later.refl ⟨Ax, cx, rfl, Sx⟩
      · intro o ho; cases ho
      · intro _ a7 w7 hI7
        obtain ⟨A7, c7, e7, S7⟩ : ∃ A c, a7.tmps.getD 7 undef = .slice A qx.length c ∧ SlAt IDE.cells 2 w7 A qx := hI7.got 6 (by decide) rfl
        obtain ⟨A8, c8, e8, S8⟩ : ∃ A c, a7.tmps.getD 8 undef = .slice A qy.length c ∧ SlAt IDE.cells 2 w7 A qy := hI7.got 7 (by decide) rfl
        have hdf : a7.defers = [] := hI7.defers.trans rfl
        have l47 : Later w4 w7 := (show Later w4 w4.drew from inferInstance).trans hI7.later
        have hTm := tmps_of (L := [31, 32, 33, 34, 35, 36, 7, 8]) hI7.size (fun t ht => hI7.out t (fun hm => ht hm))
        clear hI7
        obtain ⟨atm, adf⟩ := a7
        dsimp only at hTm hdf e7 e8
        subst hdf
        simp only [List.foldl_cons, List.foldl_nil, List.setIfInBounds_toArray, List.set_cons_succ, List.set_cons_zero] at hTm
        rw [e7, e8] at hTm
        clear e7 e8
        generalize atm.getD 31 undef = v1 at hTm
        generalize atm.getD 32 undef = v2 at hTm
        generalize atm.getD 33 undef = v3 at hTm
        generalize atm.getD 34 undef = v4 at hTm
        generalize atm.getD 35 undef = v5 at hTm
        generalize atm.getD 36 undef = v6 at hTm
        subst hTm
        have l7 : ∀ b [Later b w4], Later b w7 := fun b i => i.trans l47
        have l77 : Later w7 w7 := Later.refl
        have HXs : ∀ u [Later w7 u], SlAt IDE.cells 2 u XA xs := fun u i => hX.below ((lw4.trans l47).trans i).below
        have HYs : ∀ u [Later w7 u], SlAt IDE.cells 2 u YA ys := fun u i => hY.below ((lw4.trans l47).trans i).below
        have QB : ∀ (A2 : Option Addr) (c2 : Nat) (u : World), Later w7 u → SlAt IDE.cells 2 u A2 (xs ++ ys) → Calls Tryd.prog 11 #[.agg #[.slice A l.length c], .slice A2 (xs.length + ys.length) c2] u fun r w' => ∃ QA QC, r = .returned (.slice QA qb.length QC) ∧ SlAt IDE.cells 2 w' QA qb ∧ Below u.heap.size u w' := fun A2 c2 u i hs => by
          have hN : NodesAt u A l := by haveI := (lw4.trans l47).trans i; exact HN u
          have := reachQ_any (A := A) (c := c) (RA := A2) (rc := c2) hqb hN hs (by omega) hf3 (by rw [List.length_append]; omega)
          rw [List.length_append] at this
          exact this
        have HR : ∀ u [Later w7 u] (QA : Option Addr) (QC : Nat), SlAt IDE.cells 2 u QA qb → Calls Tryd.prog 18 #[.agg #[.slice A l.length c], .slice QA qb.length QC] u (RestrSPost l qb u) := fun u i QA QC hs => by
          haveI := (lw4.trans l47).trans i
          exact restrictS_any A c l QA QC qb u (HN u) hs (by omega) (by omega) (fun n hn => by have := hf2 n hn; omega)
        have l1w7 : Later w1 w7 := (inferInstance : Later w1 w4).trans l47
        clear HG HW QX QY
        go_upto_region 4 with fail
        go_region_held3 (fun w' => ∀ b [Later b w7], Later b w') ((intro b _; infer_instance))
          ((first
            | (go_at_call 11; refine (QB _ _ _ inferInstance (ho8.at_ IDE.enc).2.2).mono ?_; rintro r w9 ⟨QA, QC, rfl, hSb, hb9⟩; have l9 := later hb9)
            | (have ho2 := ho1
               refine step_app (P := Tryd.prog) rfl (.tmp 40) (.tmp 41) (by rfl) IDE.enc idT YA _ ys xs (.slice A1 xs.length c1) (by rfl) (by rfl) (m := ys.length) (n := xs.length + ys.length) rfl rfl (ho1.later _) (HYs _) (by omega) (by simp [maxLen]; omega) (by first | (simp; done) | (simp; omega) | omega) ?_
               intro A2 c2 w8 ho8' hm8 hb8 hg8
               have l8 := later_base (W := w7) hb8
               have ho8 : Own IDE.cells 2 31 w7.heap.size w8 (.slice A2 (xs.length + ys.length) c2) (xs ++ ys) := ho8')
            | (refine step_app rfl (.tmp 38) (.tmp 39) (by rfl) IDE.enc idT _ _ xs ([] : List IDE) (.slice (some ⟨_, 0, none⟩) 0 0) (by rfl) (by rfl) rfl (Nat.zero_add _) (Own.empty_blk (base := w7.heap.size) (by first | (simp; done) | (simp; omega) | omega) (by (simp only [heap_drew, heap_alloc_if, World.size_alloc]); (repeat (first | rw [if_pos rfl] | rw [if_neg (by omega)] | rw [if_pos (by omega)])); try rfl)) (HXs _) (by omega) (by simp [maxLen]; omega) (by first | (simp; done) | (simp; omega) | omega) ?_
               intro A1 c1 w71 ho1 hm1 hb1 hg1
               have l71 := later_base (W := w7) hb1
               have hz1 : w7.heap.size ≤ w71.heap.size := (l71 w7).below.size)
            | fail))
        have l99 : Later w9 w9 := Later.refl
        have l79 : Later w7 w9 := inferInstance
        clear hg8 hm8 hb8 ho8 ho8' hg1 hm1 hb1 ho1
        go_upto_region 6 with (go_at_call 18; refine (HR _ QA QC hSb).mono ?_; intro r w10 hh; obtain ⟨o, OA, OC, ho, rfl, hog, hb10⟩ := hh; have l10 := later hb10)
        refine wp_name ?_
        intro w11 hw11
        have hO11 : w11.heap[w10.heap.size]? = some (.cells #[.slice OA o.length OC] 24 (0, 0)) := (by rw [← hw11]; simp only [heap_alloc_if, World.size_alloc]; repeat (first | rw [if_pos trivial] | rw [if_neg (by omega)] | rw [if_pos (by omega)]); try rfl)
        have hb11 : Below w10.heap.size w10 w11 := by rw [← hw11]; exact (by repeat (first | with_reducible exact Below.refl _ _ | (with_reducible refine Below.drew ?_) | (with_reducible refine below_drewN ?_ _) | (with_reducible refine Below.alloc ?_ ?_ _; rotate_left; (first | omega | (simp <;> omega))) | (with_reducible refine Below.setCell ?_ ?_ _; rotate_left; (first | omega | (simp <;> omega)))))
        clear hw11
        have l11' := later hb11
        have l1111 : Later w11 w11 := Later.refl
        have BO := boxed hO11
        have l7b : Later w7 w11 := inferInstance
        have l9b : Later w9 w11 := inferInstance
        have lwb : Later w w11 := (lw4.trans l47).trans l7b
        have hol : o.length ≤ 200 := by
          have h1 : (conL o).length ≤ (conL l).length := by rw [ho.out]; exact List.length_filter_le _ _
          rw [conL_len, conL_len] at h1
          omega
        have hof : ∀ n ∈ o, n.fields.length ≤ 10000 := fun n hn => by
          have h1 : n.con ∈ restr (conL l) qb := by rw [← ho.out]; exact List.mem_map.2 ⟨n, hn, rfl⟩
          obtain ⟨m, hm, e⟩ := List.mem_map.1 (List.mem_filter.1 h1).1
          have h2 := hf3 m hm
          have h3 : m.con.fields.length = n.con.fields.length := by rw [e]
          have h4 : m.con.fields.length = m.fields.length := rfl
          have h5 : n.con.fields.length = n.fields.length := rfl
          omega
        have hNo : ∀ u [Later w11 u], NodesAt u OA o := fun u i => (hog.below (l11' w10 |>.trans i).below).nodes
        have hex : ReachL (conL o) xs qx := by rw [ho.out]; exact ex.out
        have hey : ReachL (conL o) ys qy := by rw [ho.out]; exact ey.out
        have SX7 : ∀ u [Later w11 u], SlAt IDE.cells 2 u A7 qx := fun u i => S7.below (l7b.trans i).below
        have SY8 : ∀ u [Later w11 u], SlAt IDE.cells 2 u A8 qy := fun u i => S8.below (l7b.trans i).below
        have SB9 : ∀ u [Later w11 u], SlAt IDE.cells 2 u QA qb := fun u i => hSb.below (l9b.trans i).below
        have CU : ∀ u [Later w11 u], Calls Tryd.prog 20 #[.slice A7 qx.length c7, .slice A8 qy.length c8] u fun r w' => ∃ UA UC, r = .returned (.slice UA qb.length UC) ∧ SlAt IDE.cells 2 w' UA qb ∧ Below u.heap.size u w' := fun u i => by
          refine (unionIDs_any A7 c7 qx A8 c8 qy u (SX7 u) (SY8 u) (by omega) (by omega)).mono ?_
          rintro r w' ⟨q', UA, UC, hq', rfl, ho', hb'⟩
          have e : q' = qb := by rw [hq'.out, eb.out]
          subst e
          exact ⟨UA, UC, rfl, (ho'.at_ IDE.enc).2.2, hb'⟩
        have CX : ∀ u [Later w11 u], Calls Tryd.prog 11 #[.agg #[.slice OA o.length OC], .slice XA xs.length xc] u fun r w' => ∃ UA UC, r = .returned (.slice UA qx.length UC) ∧ SlAt IDE.cells 2 w' UA qx ∧ Below u.heap.size u w' := fun u i => reachQ_any hex (hNo u) (hX.below (lwb.trans i).below) (by omega) hof (by omega)
        have CY : ∀ u [Later w11 u], Calls Tryd.prog 11 #[.agg #[.slice OA o.length OC], .slice YA ys.length yc] u fun r w' => ∃ UA UC, r = .returned (.slice UA qy.length UC) ∧ SlAt IDE.cells 2 w' UA qy ∧ Below u.heap.size u w' := fun u i => reachQ_any hey (hNo u) (hY.below (lwb.trans i).below) (by omega) hof (by omega)
        clear hex hey hNo hog hO11 QB HR HXs HYs S7 S8 hSb eb ex ey ho
        go_wp2_with (first
          | (go_at_call 20; refine (CU _).mono ?_; rintro r w12 ⟨UA, UC, rfl, hSu, hb12⟩; have l12 := later hb12; have l1212 : Later w12 w12 := Later.refl)
          | (go_at_call_has 19 (Value.slice QA qb.length QC); refine (sameT_any (SB9 _) (hSu.below (inferInstance : Later w12 _).below) rfl (by omega)).mono ?_; rintro r w13 ⟨rfl, hb13⟩; have l13 := later hb13)
          | (go_at_call_has 11 (Value.slice XA xs.length xc); refine (CX _).mono ?_; rintro r w14 ⟨VA, VC, rfl, hSv, hb14⟩; have l14 := later hb14; have l1414 : Later w14 w14 := Later.refl)
          | (go_at_call_has 19 (Value.slice A7 qx.length c7); refine (sameT_any (hSv.below (inferInstance : Later w14 _).below) (SX7 _) rfl (by omega)).mono ?_; rintro r w15 ⟨rfl, hb15⟩; have l15 := later hb15)
          | (go_at_call_has 11 (Value.slice YA ys.length yc); refine (CY _).mono ?_; rintro r w16 ⟨TA, TC, rfl, hSt, hb16⟩; have l16 := later hb16; have l1616 : Later w16 w16 := Later.refl)
          | (go_at_call_has 19 (Value.slice A8 qy.length c8); refine (sameT_any (hSt.below (inferInstance : Later w16 _).below) (SY8 _) rfl (by omega)).mono ?_; rintro r w17 ⟨rfl, hb17⟩; have l17 := later hb17)
          | (go_at_call 10; refine (HA _).mono ?_; rintro r w18 ⟨rfl, hb18⟩; have l18 := later hb18))
        go_ret
        exact ⟨rfl, below_of⟩
end Go.Proofs.YtjegncmkebbdfaaDoor
