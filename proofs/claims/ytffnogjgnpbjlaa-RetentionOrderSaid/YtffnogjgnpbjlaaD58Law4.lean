/-
  The law RetentionRoots; nameless. Conditions stand in each theorem.
-/
import Derived.Test.YtffnogjgnpbjlaaD58Law0
set_option linter.unusedSimpArgs false
set_option linter.unusedVariables false
namespace Go.Proofs.Ytffnogjgnpbjlaa
open Go.RowKit
attribute [local go_sem] Oper.semAt_some
attribute [local simp] heap_drew
theorem idT4 : ElemT Try.prog 25 46 2 16 := ElemT.mk' (z := .agg #[.int .i64 0, .int .i64 0]) Try.underlying25 (by kernel_rfl) rfl
set_option maxRecDepth 100000 in
set_option maxHeartbeats 2000000 in
theorem nameless_any (A : Option Addr) (c : Nat) (l : List NodeE) (w : World) (H : NodesAt w A l) (hl : l.length ≤ 1000000) :
    Calls Try.prog 22 #[.agg #[.slice A l.length c]] w fun r w' => r = .returned (.bool (firstE l ⟨0, 0⟩).isSome) ∧ Below w.heap.size w w' := by
  have HF : ∀ u [Later w u], Calls Try.prog 30 #[.agg #[.slice A l.length c], .agg #[.int .i64 0, .int .i64 0]] u (Find16Post l ⟨0, 0⟩ u) := fun u j => find16_any A c l ⟨0, 0⟩ u (H.below j.below) (by omega)
  unfold Find16Post at HF
  generalize (firstE l ⟨0, 0⟩).getD zeroN = mm at HF
  generalize (firstE l ⟨0, 0⟩).isSome = ok at HF
  obtain ⟨m1, m2, mk, mc, mA, mp, mf⟩ := mm
  dsimp only [NodeE.v] at HF
  go_enter Try.func22, Try.ntmps22
  go_upto_region 1 with fail
  refine wp_name ?_
  intro w1 hw1
  obtain ⟨B0, l1⟩ := box1 hw1
  clear hw1
  go_wp2_with (go_at_call 30; refine (HF _).mono ?_; rintro r w2 ⟨rfl, hb2⟩; have l2 := later hb2)
  go_ret
  exact ⟨rfl, below_of⟩
theorem has_b {q : List IDE} {x1 x2 : Int} {b : Bool} {QA : Option Addr} {QC : Nat} {u : World} (hb : (⟨x1, x2⟩ : IDE) ∈ q ↔ b = true) (hs : SlAt IDE.cells 2 u QA q) (hl : q.length ≤ 1000000) : Calls Try.prog 24 #[.slice QA q.length QC, .agg #[.int .i64 x1, .int .i64 x2]] u fun r w' => r = .returned (.bool b) ∧ Below u.heap.size u w' := by
  have h := has21_any QA QC q ⟨x1, x2⟩ u hs (by omega)
  have e : decide ((⟨x1, x2⟩ : IDE) ∈ q) = b := by
    rw [Bool.eq_iff_iff, decide_eq_true_iff]; exact hb
  rw [e] at h
  exact h
set_option maxRecDepth 100000 in
theorem same_one {p : List IDE} {x1 x2 : Int} {PA : Option Addr} {PC g : Nat} {u : World} {t : TypeId} {fr : Nat × Nat} (hs : SlAt IDE.cells 2 u PA p) (hg : u.heap[g]? = some (.cells #[.int .i64 x1, .int .i64 x2] t fr)) (hp : p = [⟨x1, x2⟩]) : Calls Try.prog 14 #[.slice PA p.length PC, .slice (some ⟨g, 0, none⟩) 1 1] u fun r w' => r = .returned (.bool true) ∧ Below u.heap.size u w' := by
  have hb : SlAt IDE.cells 2 u (some ⟨g, 0, none⟩) [(⟨x1, x2⟩ : IDE)] := blk_slAt IDE.enc (fr := fr) (e := t) hg [⟨x1, x2⟩] rfl
  have h1 : p.length = 1 := by rw [hp]; rfl
  have h := same21_true (aC := PC) (bC := 1) hs hb (by omega) hp
  exact h
theorem con_ids (l : List NodeE) : nodeIds (conL l) = l.map NodeE.id := by
  unfold nodeIds Go.Proofs.Ytffnogjgnpbjlaa.ids conL
  rw [List.map_map]
  rfl
set_option maxRecDepth 100000 in
set_option maxHeartbeats 4000000 in
theorem lawRoots_any (A : Option Addr) (c : Nat) (l : List NodeE) (x : IDE) (RA : Option Addr) (rc : Nat) (roots : List IDE) (w : World) (H : GraphIn w A c l) (hR : SlAt IDE.cells 2 w RA roots) :
    Calls Try.prog 9 #[.agg #[.slice A l.length c], x.v, .slice RA roots.length rc] w fun r w' => r = .returned (.bool true) ∧ Below w.heap.size w w' := by
  have HG : ∀ u [Later w u], Calls Try.prog 11 #[.agg #[.slice A l.length c], .slice RA roots.length rc] u fun r w' => r = .returned (.bool (lrgB l roots)) ∧ Below u.heap.size u w' := fun u i => large_any A c l RA rc roots u ⟨H.at_.below i.below, H.len, H.fields⟩
  obtain ⟨xx, hxx⟩ : ∃ xx, xx = x := ⟨_, rfl⟩
  have Hxx := hide hxx
  obtain ⟨x1, x2⟩ := x
  cases hlg : lrgB l roots with
  | true =>
    clear hxx
    simp only [hlg] at HG
    dsimp only [IDE.v]
    go_enter Try.func9, Try.ntmps9
    go_upto_region 1 with fail
    refine wp_name ?_
    intro w1 hw1
    obtain ⟨B0, B1, l1⟩ := box2 hw1
    clear hw1
    go_wp2_with (first | (go_at_call 10; refine (awake_any _).mono ?_; rintro r w2 ⟨rfl, hb2⟩; have l2 := later hb2) | (go_at_call 11; refine (HG _).mono ?_; rintro r w3 ⟨rfl, hb3⟩; have l3 := later hb3))
    go_ret
    exact ⟨rfl, below_of⟩
  | false =>
    simp only [hlg] at HG
    obtain ⟨hl, hf, hr⟩ := lrgB_no hlg
    have HA1 : ∀ u [Later w u], Calls Try.prog 27 #[.agg #[.slice A l.length c], .slice RA roots.length rc] u (ReachPost (conL l) roots u) := fun u i => reach_any A c l RA rc roots u (H.at_.below i.below) (hR.below i.below) (by omega) hf (by omega)
    have HRt : ∀ u [Later w u], Calls Try.prog 23 #[.agg #[.slice A l.length c], xx.v, .slice RA roots.length rc] u (RetPP (conL l) roots xx u) := fun u i => ret_any A c l xx RA rc roots u (H.at_.below i.below) (hR.below i.below) (by omega) hf (by omega)
    have HRe : ∀ (s : List IDE) (KA : Option Addr) (KC : Nat) (u : World) [Later w u], SlAt IDE.cells 2 u KA s → s.length ≤ 1000 → Calls Try.prog 23 #[.agg #[.slice A l.length c], xx.v, .slice KA s.length KC] u (RetPP (conL l) s xx u) := fun s KA KC u i h1 h2 => ret_any A c l xx KA KC s u (H.at_.below i.below) h1 (by omega) hf (by omega)
    have HDe : ∀ (s : List IDE) (KA : Option Addr) (KC : Nat) (u : World) [Later w u], SlAt IDE.cells 2 u KA s → s.length ≤ 1000 → Calls Try.prog 12 #[.agg #[.slice A l.length c], .slice KA s.length KC] u (DomP (conL l) s u) := fun s KA KC u i h1 h2 => doms_any A c l KA KC s u (H.at_.below i.below) h1 (by omega) hf (by omega)
    have HF : ∀ u [Later w u], Calls Try.prog 30 #[.agg #[.slice A l.length c], xx.v] u (Find16Post l xx u) := fun u j => find16_any A c l xx u (H.at_.below j.below) (by omega)
    have hxv : xx.v = .agg #[.int .i64 x1, .int .i64 x2] := by rw [hxx]
    rw [hxv] at HRt
    simp only [hxv] at HF HRe
    obtain ⟨b, hb⟩ : ∃ b : Bool, Reach (conL l) roots xx ↔ b = true := by
      by_cases h : Reach (conL l) roots xx
      · exact ⟨true, by simp [h]⟩
      · exact ⟨false, by simp [h]⟩
    have Hb := hide hb
    clear hlg hxx hxv hb
    dsimp only [IDE.v]
    go_enter Try.func9, Try.ntmps9
    go_upto_region 1 with fail
    refine wp_name ?_
    intro w1 hw1
    obtain ⟨B0, B1, l1⟩ := box2 hw1
    clear hw1
    go_upto_region 5 with (first | (go_at_call 10; refine (awake_any _).mono ?_; rintro r w2 ⟨rfl, hb2⟩; have l2 := later hb2) | (go_at_call 11; refine (HG _).mono ?_; rintro r w3 ⟨rfl, hb3⟩; have l3 := later hb3))
    have l33 : Later w3 w3 := Later.refl
    go_region_held3 (fun w' => ∀ b [Later b w3], Later b w') ((intro b _; infer_instance))
      ((first
        | (go_at_call 27; refine (HA1 _).mono ?_; rintro r w4 ⟨q, QA, QC, hq0, rfl, hoq, hb4⟩; have hq := hide hq0; clear hq0; have l4 := later hb4; have l44 : Later w4 w4 := Later.refl)
        | (go_at_call 24; refine (has_b (x1 := x1) (x2 := x2) (b := b) (by rw [← Hxx.out, ← Hb.out]; exact hq.out.2 xx) (hoq.below (show Later w4 _ from inferInstance).below |>.at_ IDE.enc).2.2 (by have := reachL_len hq.out hl; omega)).mono ?_; rintro r w5 ⟨rfl, hb5⟩; have l5 := later hb5)))
    clear HA1
    go_upto_region 7 with (go_at_call 23; refine (HRt _).mono ?_; rintro r w6 ⟨t, TA, TC, rfl, ht, hot, hb6⟩; have l6 := later hb6)
    have l66 : Later w6 w6 := Later.refl
    have htl : t.length ≤ 100 := by
      have := nodup_len ht.out.1.nodup (fun z hz => (hq.out.2 z).2 ((ht.out.2 z).1 hz).1)
      have := reachL_len hq.out hl
      omega
    have HHt : ∀ u [Later w6 u], Calls Try.prog 24 #[.slice TA t.length TC, .agg #[.int .i64 x1, .int .i64 x2]] u fun r w' => r = .returned (.bool b) ∧ Below u.heap.size u w' := fun u i => has_b (by rw [← Hxx.out, ← Hb.out]; exact ret_has ht.out) ((hot.below i.below).at_ IDE.enc).2.2 (by omega)
    have ht0 := hide (show b = false → t = [] from fun h => ret_none ht.out (fun h' => by rw [Hb.out, h] at h'; cases h'))
    clear HRt hot hoq hq ht Hb
    cases b
    · have ht1 := ht0.out rfl
      subst ht1
      go_upto_region 9 with (go_at_call 24; refine (HHt _).mono ?_; rintro r w7 ⟨rfl, hb7⟩; have l7 := later hb7)
      have l77 : Later w7 w7 := Later.refl
      clear HHt ht0
      go_upto_region 10 with fail
      refine wp_name ?_
      intro w8 hw8
      have hk8 : Own IDE.cells 2 46 w7.heap.size w8 (.slice (some ⟨w7.heap.size, 0, none⟩) 0 0) ([] : List IDE) := Own.empty_blk (Nat.le_refl _) (by rw [← hw8]; exact heap_alloc_new _ _)
      have hb8 : Below w7.heap.size w7 w8 := by rw [← hw8]; exact (by repeat (first | with_reducible exact Below.refl _ _ | (with_reducible refine Below.drew ?_) | (with_reducible refine below_drewN ?_ _) | (with_reducible refine Below.alloc ?_ ?_ _; rotate_left; (first | omega | (simp <;> omega))) | (with_reducible refine Below.setCell ?_ ?_ _; rotate_left; (first | omega | (simp <;> omega)))))
      clear hw8
      go_wp2_with fail
      go_loopw [9, 10] (fun ev iv wr => ∃ (k : Nat) (s : List IDE) (KA : Option Addr) (KC : Nat), k ≤ l.length ∧ iv = .int .i64 k ∧ ev = .slice KA k KC ∧ Hid (s = (l.take k).map NodeE.id) ∧ Own IDE.cells 2 46 w7.heap.size wr (.slice KA k KC) s ∧ Below w7.heap.size w7 wr) (fun _ iv _ => l.length - (intOf iv).toNat)
      case atStart => exact ⟨0, [], _, _, by omega, rfl, rfl, hide rfl, hk8, hb8⟩
      case round =>
        obtain ⟨k, s, KA, KC, hk, rfl, rfl, hs, hok, hbr⟩ := hrel
        have lr := later hbr
        have lrr : Later wr wr := Later.refl
        have hzr := hbr.size
        by_cases hlt : k < l.length
        · have hki : (k : Int) < (l.length : Int) := by omega
          obtain ⟨mm, hmm⟩ : ∃ y, l[k]? = some y := ⟨_, List.getElem?_eq_getElem hlt⟩
          obtain ⟨b9, o9, rfl, C⟩ := node_at (H.at_.s) hmm
          have hsl := hide (show s.length = k by rw [hs.out, List.length_map, List.length_take]; omega)
          have hsn := hide (show (l.take (k + 1)).map NodeE.id = s ++ [mm.id] by rw [take_snoc_get hmm, List.map_append, hs.out]; rfl)
          obtain ⟨m1, m2, mk, mc, mA, mp, mf⟩ := mm
          have C0 := C 0 _ rfl
          have C1 := C 1 _ rfl
          rw [Nat.add_zero] at C0
          dsimp only [NodeE.id] at hsn
          clear C hmm
          obtain rfl := hsl.out
          go_upto_region 12 with (at_builtin; refine wpList_app1 rfl (.tmp 52) (.tmp 59) rfl IDE.enc idT4 ⟨m1, m2⟩ rfl rfl rfl (hok.later _) (by rfl) (by omega) (by unfold maxLen; omega) (Nat.le_trans hzr (show Below wr.heap.size wr _ from below_of).size) ?_; intro A5 c5 w9 ho5 hm5 hb5 hg5 hat5)
          go_wp2_with fail
          go_roundw
          case rel => exact ⟨s.length + 1, s ++ [⟨m1, m2⟩], A5, c5, by omega, by go_num, rfl, hide hsn.out.symm, ho5, (hbr.trans ((show Below wr.heap.size wr _ from below_of).mono hzr)).trans hb5⟩
          case measure => simp [intOf]; omega
        · have hkk : k = l.length := by omega
          have hse := hide (show s = nodeIds (conL l) by rw [hs.out, con_ids, hkk, List.take_length])
          have hks : k = s.length := by rw [hs.out, List.length_map, List.length_take]; omega
          clear hs
          subst hks
          have hki : ¬ (s.length : Int) < (l.length : Int) := by omega
          have hsc : s.length ≤ 100 := by omega
          clear hkk hlt hk
          have lw : Later w wr := by infer_instance
          have HS : ∀ u [Later wr u], SlAt IDE.cells 2 u KA s := fun u i => ((hok.below i.below).at_ IDE.enc).2.2
          have HDs : ∀ u [Later wr u], Calls Try.prog 12 #[.agg #[.slice A l.length c], .slice KA s.length KC] u (DomP (conL l) s u) := fun u i => by haveI := lw.trans i; exact HDe s KA KC u (HS u) (by omega)
          have HRs : ∀ u [Later wr u], Calls Try.prog 23 #[.agg #[.slice A l.length c], .agg #[.int .i64 x1, .int .i64 x2], .slice KA s.length KC] u (RetPP (conL l) s xx u) := fun u i => by haveI := lw.trans i; exact HRe s KA KC u (HS u) (by omega)
          have HSet : ∀ u [Later wr u], Calls Try.prog 29 #[.slice KA s.length KC] u (SetIPost s u) := fun u i => set21_any KA KC s u (HS u) (by omega)
          clear HDe HRe hok
          go_upto_region 15 with (go_at_call 12; refine (HDs _).mono ?_; intro r w10 hh; obtain ⟨q, z, QA, QC, ZA, ZC, rfl, hq, hoq, hoz, hb10⟩ := hh; have l10 := later hb10)
          have l1010 : Later w10 w10 := Later.refl
          have hqs := hide (show q = setI s by have h := hq.out.1; rw [hse.out] at h ⊢; exact every_reachL h)
          have hql := reachL_len hq.out.1 hl
          have hz0 := hide (show ∀ k, k < q.length → z[k]? = some ⟨0, 0⟩ from fun k hk => by
            obtain ⟨z', h1, h2⟩ := hq.out.2.1.2 k _ (List.getElem?_eq_getElem hk)
            rw [hse.out] at h2
            rw [h1, every_idom h2])
          have hzq : z.length = q.length := hq.out.2.1.1
          have HZ : ∀ u [Later w10 u], SlAt IDE.cells 2 u ZA z := fun u i => by
            rw [← hzq] at hoz
            exact ((hoz.below i.below).at_ IDE.enc).2.2
          clear hzq HDs hq
          go_upto_region 17 with (first | (go_at_call 29; refine (HSet _).mono ?_; rintro r w11 ⟨p, PA, PC, hp, rfl, hop, hb11⟩; have l11 := later hb11; have l1111 : Later w11 w11 := Later.refl) | (go_at_call 14; refine (same21_true ((hoq.below (show Later w10 _ from inferInstance).below).at_ IDE.enc).2.2 ((hop.below (show Later w11 _ from inferInstance).below).at_ IDE.enc).2.2 (by omega) (hqs.out.trans hp.out.symm)).mono ?_; rintro r w12 ⟨rfl, hb12⟩; have l12 := later hb12))
          have l1212 : Later w12 w12 := Later.refl
          clear HSet hqs hop hoq hp hoz
          go_wp2_with fail
          go_loopw [13] (fun iv wq => ∃ k : Nat, k ≤ q.length ∧ iv = .int .i64 k ∧ Below w12.heap.size w12 wq) (fun iv _ => q.length - (intOf iv).toNat)
          case atStart => exact ⟨0, by omega, rfl, Below.refl _ _⟩
          case round =>
            obtain ⟨k, hk, rfl, hbr2⟩ := hrel
            have lr2 := later hbr2
            by_cases hlt : k < q.length
            · have hki2 : (k : Int) < (q.length : Int) := by omega
              obtain ⟨b8, o8, rfl, C1, C2⟩ := id_at (HZ w12) (hz0.out k hlt)
              dsimp only at C1 C2
              go_wp2_with fail
              go_roundw
              case rel => exact ⟨k + 1, by omega, by go_num, below_of⟩
              case measure => simp [intOf]; omega
            · have hk' : k = q.length := by omega
              subst hk'
              unfold Find16Post at HF
              generalize (firstE l xx).getD zeroN = mm at HF
              obtain ⟨m1, m2, mk, mc, mA, mp, mf⟩ := mm
              dsimp only [NodeE.v] at HF
              cases hfx : (firstE l xx).isSome with
              | false =>
                simp only [hfx] at HF
                clear hfx
                go_upto_region 23 with (go_at_call 30; refine (HF _).mono ?_; rintro r w13 ⟨rfl, hb13⟩; have l13 := later hb13)
                refine wp_name ?_
                intro w14 hw14
                have l14 : ∀ b [Later b w13], Later b w14 := fun b _ => by rw [← hw14]; infer_instance
                have l1414 : Later w14 w14 := Later.refl
                clear hw14
                refine wp_region_held_drew (S := fun w' => ∀ b [Later b w14], Later b w') (by kernel_rfl) (fun b _ => inferInstance) (fun hHeld => ?_)
                have hdr : ∀ b [Later b w14], Later b w14.drew := fun b _ => inferInstance
                obtain ⟨wz, hwz⟩ : ∃ z, z = w14.drew := ⟨_, rfl⟩
                rw [← hwz] at hHeld hdr ⊢
                clear hwz
                have lz := hdr w14
                refine wpAnyH_take (i := 0) (oi := _) (v := ?_) rfl (by kernel_rfl) (by kernel_rfl) (by kernel_rfl) (fun _ _ _ h => h) (Or.inl ⟨by rfl, ?_⟩) (by assumption) ?_
                rotate_left 1
                · (intro wy hSw; (try dsimp only at hSw); go_simp; try with_reducible rfl)
                (try simp only [Act.put, List.getElem_toArray, List.getElem_cons_succ, List.getElem_cons_zero, List.setIfInBounds_toArray, List.set_cons_zero, List.set_cons_succ])
                refine wpAnyH_take (i := 1) (oi := _) (v := ?_) rfl (by kernel_rfl) (by kernel_rfl) (by kernel_rfl) (fun _ _ _ h => h) (Or.inl ⟨by rfl, ?_⟩) (by assumption) ?_
                rotate_left 1
                · (intro wy hSw; (try dsimp only at hSw); go_simp; try with_reducible rfl)
                (try simp only [Act.put, List.getElem_toArray, List.getElem_cons_succ, List.getElem_cons_zero, List.setIfInBounds_toArray, List.set_cons_zero, List.set_cons_succ])
                refine wpAnyH_take (i := 2) (oi := _) (v := ?_) rfl (by kernel_rfl) (by kernel_rfl) (by kernel_rfl) (fun _ _ _ h => h) (Or.inl ⟨by rfl, ?_⟩) (by assumption) ?_
                rotate_left 1
                · (intro wy hSw; (try dsimp only at hSw); go_simp; try with_reducible rfl)
                (try simp only [Act.put, List.getElem_toArray, List.getElem_cons_succ, List.getElem_cons_zero, List.setIfInBounds_toArray, List.set_cons_zero, List.set_cons_succ])
                refine wpAnyH_take (i := 3) (oi := _) (v := undef) rfl (by kernel_rfl) (by kernel_rfl) (by kernel_rfl) (fun _ _ _ h => h) (Or.inr ⟨by rfl, rfl⟩) (by assumption) ?_
                (try simp only [Act.put, List.getElem_toArray, List.getElem_cons_succ, List.getElem_cons_zero, List.setIfInBounds_toArray, List.set_cons_zero, List.set_cons_succ])
                refine wpAnyH_take (i := 4) (oi := _) (v := undef) rfl (by kernel_rfl) (by kernel_rfl) (by kernel_rfl) (fun _ _ _ h => h) (Or.inr ⟨by rfl, rfl⟩) (by assumption) ?_
                (try simp only [Act.put, List.getElem_toArray, List.getElem_cons_succ, List.getElem_cons_zero, List.setIfInBounds_toArray, List.set_cons_zero, List.set_cons_succ])
                refine wpAnyH_take (i := 5) (oi := _) (v := undef) rfl (by kernel_rfl) (by kernel_rfl) (by kernel_rfl) (fun _ _ _ h => h) (Or.inr ⟨by rfl, rfl⟩) (by assumption) ?_
                (try simp only [Act.put, List.getElem_toArray, List.getElem_cons_succ, List.getElem_cons_zero, List.setIfInBounds_toArray, List.set_cons_zero, List.set_cons_succ])
                refine wpAnyH_take (i := 7) (oi := _) (v := undef) rfl (by kernel_rfl) (by kernel_rfl) (by kernel_rfl) (fun _ _ _ h => h) (Or.inr ⟨by rfl, rfl⟩) (by assumption) ?_
                (try simp only [Act.put, List.getElem_toArray, List.getElem_cons_succ, List.getElem_cons_zero, List.setIfInBounds_toArray, List.set_cons_zero, List.set_cons_succ])
                refine wpAnyH_ready (rs := [6, 8]) (by kernel_rfl) (by simp) ?_
                refine AllReadyH.cons (o := _) rfl ?_ (AllReadyH.cons (o := _) rfl ?_ AllReadyH.nil)
                · intro K9 hK9
                  go_simp
                  (try dsimp only)
                  refine hK9.out _ _ (fun b _ => inferInstance) (fun hHeld2 => ?_)
                  clear hK9 K9 hHeld
                  have hHeld := hHeld2
                  clear hHeld2
                  (try simp only [Act.put, List.getElem_toArray, List.getElem_cons_succ, List.getElem_cons_zero, List.setIfInBounds_toArray, List.set_cons_zero, List.set_cons_succ])
                  refine wpAnyH_ready (rs := [8]) (by kernel_rfl) (by simp) ?_
                  refine AllReadyH.cons (o := _) rfl ?_ AllReadyH.nil
                  intro K9 hK9
                  go_simp
                  (try dsimp only)
                  refine hK9.out _ _ (fun b _ => inferInstance) (fun hHeld2 => ?_)
                  clear hK9 K9 hHeld
                  have hHeld := hHeld2
                  clear hHeld2
                  (try simp only [Act.put, List.getElem_toArray, List.getElem_cons_succ, List.getElem_cons_zero, List.setIfInBounds_toArray, List.set_cons_zero, List.set_cons_succ])
                  refine wpAnyH_ready (rs := [9]) (by kernel_rfl) (by simp) ?_
                  refine AllReadyH.cons (o := _) rfl ?_ AllReadyH.nil
                  intro K9 hK9
                  go_simp
                  (try dsimp only)
                  refine hK9.out _ _ (fun b _ => inferInstance) (fun hHeld2 => ?_)
                  clear hK9 K9 hHeld
                  have hHeld := hHeld2
                  clear hHeld2
                  (try simp only [Act.put, List.getElem_toArray, List.getElem_cons_succ, List.getElem_cons_zero, List.setIfInBounds_toArray, List.set_cons_zero, List.set_cons_succ])
                  refine wpAnyH_take (i := 10) (oi := _) (v := ?_) rfl (by kernel_rfl) (by kernel_rfl) (by kernel_rfl) (fun _ _ _ h => h) (Or.inl ⟨by rfl, ?_⟩) (by assumption) ?_
                  rotate_left 1
                  · (intro wy hSw; (try dsimp only at hSw); go_simp; try with_reducible rfl)
                  (try simp only [Act.put, List.getElem_toArray, List.getElem_cons_succ, List.getElem_cons_zero, List.setIfInBounds_toArray, List.set_cons_zero, List.set_cons_succ])
                  refine wpAnyH_take (i := 11) (oi := _) (v := ?_) rfl (by kernel_rfl) (by kernel_rfl) (by kernel_rfl) (fun _ _ _ h => h) (Or.inl ⟨by rfl, ?_⟩) (by assumption) ?_
                  rotate_left 1
                  · (intro wy hSw; (try dsimp only at hSw); go_simp; try with_reducible rfl)
                  (try simp only [Act.put, List.getElem_toArray, List.getElem_cons_succ, List.getElem_cons_zero, List.setIfInBounds_toArray, List.set_cons_zero, List.set_cons_succ])
                  refine wpAnyH_done (by kernel_rfl) ?_ _
                  clear hHeld
                  go_wp2_with fail
                  go_ret
                  exact ⟨rfl, below_of⟩
                · intro K9 hK9
                  go_simp
                  (try dsimp only)
                  refine hK9.out _ _ (fun b _ => inferInstance) (fun hHeld2 => ?_)
                  clear hK9 K9 hHeld
                  have hHeld := hHeld2
                  clear hHeld2
                  (try simp only [Act.put, List.getElem_toArray, List.getElem_cons_succ, List.getElem_cons_zero, List.setIfInBounds_toArray, List.set_cons_zero, List.set_cons_succ])
                  refine wpAnyH_ready (rs := [6]) (by kernel_rfl) (by simp) ?_
                  refine AllReadyH.cons (o := _) rfl ?_ AllReadyH.nil
                  intro K9 hK9
                  go_simp
                  (try dsimp only)
                  refine hK9.out _ _ (fun b _ => inferInstance) (fun hHeld2 => ?_)
                  clear hK9 K9 hHeld
                  have hHeld := hHeld2
                  clear hHeld2
                  (try simp only [Act.put, List.getElem_toArray, List.getElem_cons_succ, List.getElem_cons_zero, List.setIfInBounds_toArray, List.set_cons_zero, List.set_cons_succ])
                  refine wpAnyH_ready (rs := [9]) (by kernel_rfl) (by simp) ?_
                  refine AllReadyH.cons (o := _) rfl ?_ AllReadyH.nil
                  intro K9 hK9
                  go_simp
                  (try dsimp only)
                  refine hK9.out _ _ (fun b _ => inferInstance) (fun hHeld2 => ?_)
                  clear hK9 K9 hHeld
                  have hHeld := hHeld2
                  clear hHeld2
                  (try simp only [Act.put, List.getElem_toArray, List.getElem_cons_succ, List.getElem_cons_zero, List.setIfInBounds_toArray, List.set_cons_zero, List.set_cons_succ])
                  refine wpAnyH_take (i := 10) (oi := _) (v := ?_) rfl (by kernel_rfl) (by kernel_rfl) (by kernel_rfl) (fun _ _ _ h => h) (Or.inl ⟨by rfl, ?_⟩) (by assumption) ?_
                  rotate_left 1
                  · (intro wy hSw; (try dsimp only at hSw); go_simp; try with_reducible rfl)
                  (try simp only [Act.put, List.getElem_toArray, List.getElem_cons_succ, List.getElem_cons_zero, List.setIfInBounds_toArray, List.set_cons_zero, List.set_cons_succ])
                  refine wpAnyH_take (i := 11) (oi := _) (v := ?_) rfl (by kernel_rfl) (by kernel_rfl) (by kernel_rfl) (fun _ _ _ h => h) (Or.inl ⟨by rfl, ?_⟩) (by assumption) ?_
                  rotate_left 1
                  · (intro wy hSw; (try dsimp only at hSw); go_simp; try with_reducible rfl)
                  (try simp only [Act.put, List.getElem_toArray, List.getElem_cons_succ, List.getElem_cons_zero, List.setIfInBounds_toArray, List.set_cons_zero, List.set_cons_succ])
                  refine wpAnyH_done (by kernel_rfl) ?_ _
                  clear hHeld
                  go_wp2_with fail
                  go_ret
                  exact ⟨rfl, below_of⟩
              | true =>
                have hfn : (firstN (conL l) xx).isSome := by rw [firstE_N, Option.isSome_map]; exact hfx
                have Hfn := hide hfn
                simp only [hfx] at HF
                clear hfx hfn
                go_upto_region 23 with (go_at_call 30; refine (HF _).mono ?_; rintro r w13 ⟨rfl, hb13⟩; have l13 := later hb13)
                refine wp_name ?_
                intro w14 hw14
                have l14 : ∀ b [Later b w13], Later b w14 := fun b _ => by rw [← hw14]; infer_instance
                have l1414 : Later w14 w14 := Later.refl
                clear hw14
                go_region_held3 (fun w' => ∀ b [Later b w14], Later b w') ((intro b _; infer_instance))
                  ((first
                    | (go_at_call 23; refine (HRs _).mono ?_; rintro r w15 ⟨p, PA, PC, rfl, hp, hop, hb15⟩; have l15 := later hb15; have l1515 : Later w15 w15 := Later.refl; try (have kg : w15.heap[w14.heap.size]? = some (.cells #[.int .i64 x1, .int .i64 x2] 46 (0, 0)) := (hb15.block _ (by simp [heap_drew])).trans (heap_alloc_new w14 _)))
                    | (go_at_call 14; refine (same_one ((hop.below (show Later w15 _ from inferInstance).below).at_ IDE.enc).2.2 (by first | exact heap_alloc_new _ _ | exact kg) (by have h := hp.out; rw [hse.out] at h; rw [every_retL h Hfn.out, Hxx.out])).mono ?_; rintro r w16 ⟨rfl, hb16⟩; have l16 := later hb16)))
                all_goals go_wp2_with fail
                all_goals go_ret
                all_goals exact ⟨by first | rfl | simp, below_of⟩
    · go_upto_region 9 with (go_at_call 24; refine (HHt _).mono ?_; rintro r w7 ⟨rfl, hb7⟩; have l7 := later hb7)
      have l77 : Later w7 w7 := Later.refl
      clear HHt ht0
      go_upto_region 10 with fail
      refine wp_name ?_
      intro w8 hw8
      have hk8 : Own IDE.cells 2 46 w7.heap.size w8 (.slice (some ⟨w7.heap.size, 0, none⟩) 0 0) ([] : List IDE) := Own.empty_blk (Nat.le_refl _) (by rw [← hw8]; exact heap_alloc_new _ _)
      have hb8 : Below w7.heap.size w7 w8 := by rw [← hw8]; exact (by repeat (first | with_reducible exact Below.refl _ _ | (with_reducible refine Below.drew ?_) | (with_reducible refine below_drewN ?_ _) | (with_reducible refine Below.alloc ?_ ?_ _; rotate_left; (first | omega | (simp <;> omega))) | (with_reducible refine Below.setCell ?_ ?_ _; rotate_left; (first | omega | (simp <;> omega)))))
      clear hw8
      go_wp2_with fail
      go_loopw [9, 10] (fun ev iv wr => ∃ (k : Nat) (s : List IDE) (KA : Option Addr) (KC : Nat), k ≤ l.length ∧ iv = .int .i64 k ∧ ev = .slice KA k KC ∧ Hid (s = (l.take k).map NodeE.id) ∧ Own IDE.cells 2 46 w7.heap.size wr (.slice KA k KC) s ∧ Below w7.heap.size w7 wr) (fun _ iv _ => l.length - (intOf iv).toNat)
      case atStart => exact ⟨0, [], _, _, by omega, rfl, rfl, hide rfl, hk8, hb8⟩
      case round =>
        obtain ⟨k, s, KA, KC, hk, rfl, rfl, hs, hok, hbr⟩ := hrel
        have lr := later hbr
        have lrr : Later wr wr := Later.refl
        have hzr := hbr.size
        by_cases hlt : k < l.length
        · have hki : (k : Int) < (l.length : Int) := by omega
          obtain ⟨mm, hmm⟩ : ∃ y, l[k]? = some y := ⟨_, List.getElem?_eq_getElem hlt⟩
          obtain ⟨b9, o9, rfl, C⟩ := node_at (H.at_.s) hmm
          have hsl := hide (show s.length = k by rw [hs.out, List.length_map, List.length_take]; omega)
          have hsn := hide (show (l.take (k + 1)).map NodeE.id = s ++ [mm.id] by rw [take_snoc_get hmm, List.map_append, hs.out]; rfl)
          obtain ⟨m1, m2, mk, mc, mA, mp, mf⟩ := mm
          have C0 := C 0 _ rfl
          have C1 := C 1 _ rfl
          rw [Nat.add_zero] at C0
          dsimp only [NodeE.id] at hsn
          clear C hmm
          obtain rfl := hsl.out
          go_upto_region 12 with (at_builtin; refine wpList_app1 rfl (.tmp 52) (.tmp 59) rfl IDE.enc idT4 ⟨m1, m2⟩ rfl rfl rfl (hok.later _) (by rfl) (by omega) (by unfold maxLen; omega) (Nat.le_trans hzr (show Below wr.heap.size wr _ from below_of).size) ?_; intro A5 c5 w9 ho5 hm5 hb5 hg5 hat5)
          go_wp2_with fail
          go_roundw
          case rel => exact ⟨s.length + 1, s ++ [⟨m1, m2⟩], A5, c5, by omega, by go_num, rfl, hide hsn.out.symm, ho5, (hbr.trans ((show Below wr.heap.size wr _ from below_of).mono hzr)).trans hb5⟩
          case measure => simp [intOf]; omega
        · have hkk : k = l.length := by omega
          have hse := hide (show s = nodeIds (conL l) by rw [hs.out, con_ids, hkk, List.take_length])
          have hks : k = s.length := by rw [hs.out, List.length_map, List.length_take]; omega
          clear hs
          subst hks
          have hki : ¬ (s.length : Int) < (l.length : Int) := by omega
          have hsc : s.length ≤ 100 := by omega
          clear hkk hlt hk
          have lw : Later w wr := by infer_instance
          have HS : ∀ u [Later wr u], SlAt IDE.cells 2 u KA s := fun u i => ((hok.below i.below).at_ IDE.enc).2.2
          have HDs : ∀ u [Later wr u], Calls Try.prog 12 #[.agg #[.slice A l.length c], .slice KA s.length KC] u (DomP (conL l) s u) := fun u i => by haveI := lw.trans i; exact HDe s KA KC u (HS u) (by omega)
          have HRs : ∀ u [Later wr u], Calls Try.prog 23 #[.agg #[.slice A l.length c], .agg #[.int .i64 x1, .int .i64 x2], .slice KA s.length KC] u (RetPP (conL l) s xx u) := fun u i => by haveI := lw.trans i; exact HRe s KA KC u (HS u) (by omega)
          have HSet : ∀ u [Later wr u], Calls Try.prog 29 #[.slice KA s.length KC] u (SetIPost s u) := fun u i => set21_any KA KC s u (HS u) (by omega)
          clear HDe HRe hok
          go_upto_region 15 with (go_at_call 12; refine (HDs _).mono ?_; intro r w10 hh; obtain ⟨q, z, QA, QC, ZA, ZC, rfl, hq, hoq, hoz, hb10⟩ := hh; have l10 := later hb10)
          have l1010 : Later w10 w10 := Later.refl
          have hqs := hide (show q = setI s by have h := hq.out.1; rw [hse.out] at h ⊢; exact every_reachL h)
          have hql := reachL_len hq.out.1 hl
          have hz0 := hide (show ∀ k, k < q.length → z[k]? = some ⟨0, 0⟩ from fun k hk => by
            obtain ⟨z', h1, h2⟩ := hq.out.2.1.2 k _ (List.getElem?_eq_getElem hk)
            rw [hse.out] at h2
            rw [h1, every_idom h2])
          have hzq : z.length = q.length := hq.out.2.1.1
          have HZ : ∀ u [Later w10 u], SlAt IDE.cells 2 u ZA z := fun u i => by
            rw [← hzq] at hoz
            exact ((hoz.below i.below).at_ IDE.enc).2.2
          clear hzq HDs hq
          go_upto_region 17 with (first | (go_at_call 29; refine (HSet _).mono ?_; rintro r w11 ⟨p, PA, PC, hp, rfl, hop, hb11⟩; have l11 := later hb11; have l1111 : Later w11 w11 := Later.refl) | (go_at_call 14; refine (same21_true ((hoq.below (show Later w10 _ from inferInstance).below).at_ IDE.enc).2.2 ((hop.below (show Later w11 _ from inferInstance).below).at_ IDE.enc).2.2 (by omega) (hqs.out.trans hp.out.symm)).mono ?_; rintro r w12 ⟨rfl, hb12⟩; have l12 := later hb12))
          have l1212 : Later w12 w12 := Later.refl
          clear HSet hqs hop hoq hp hoz
          go_wp2_with fail
          go_loopw [13] (fun iv wq => ∃ k : Nat, k ≤ q.length ∧ iv = .int .i64 k ∧ Below w12.heap.size w12 wq) (fun iv _ => q.length - (intOf iv).toNat)
          case atStart => exact ⟨0, by omega, rfl, Below.refl _ _⟩
          case round =>
            obtain ⟨k, hk, rfl, hbr2⟩ := hrel
            have lr2 := later hbr2
            by_cases hlt : k < q.length
            · have hki2 : (k : Int) < (q.length : Int) := by omega
              obtain ⟨b8, o8, rfl, C1, C2⟩ := id_at (HZ w12) (hz0.out k hlt)
              dsimp only at C1 C2
              go_wp2_with fail
              go_roundw
              case rel => exact ⟨k + 1, by omega, by go_num, below_of⟩
              case measure => simp [intOf]; omega
            · have hk' : k = q.length := by omega
              subst hk'
              unfold Find16Post at HF
              generalize (firstE l xx).getD zeroN = mm at HF
              obtain ⟨m1, m2, mk, mc, mA, mp, mf⟩ := mm
              dsimp only [NodeE.v] at HF
              cases hfx : (firstE l xx).isSome with
              | false =>
                simp only [hfx] at HF
                clear hfx
                go_upto_region 23 with (go_at_call 30; refine (HF _).mono ?_; rintro r w13 ⟨rfl, hb13⟩; have l13 := later hb13)
                refine wp_name ?_
                intro w14 hw14
                have l14 : ∀ b [Later b w13], Later b w14 := fun b _ => by rw [← hw14]; infer_instance
                have l1414 : Later w14 w14 := Later.refl
                clear hw14
                refine wp_region_held_drew (S := fun w' => ∀ b [Later b w14], Later b w') (by kernel_rfl) (fun b _ => inferInstance) (fun hHeld => ?_)
                have hdr : ∀ b [Later b w14], Later b w14.drew := fun b _ => inferInstance
                obtain ⟨wz, hwz⟩ : ∃ z, z = w14.drew := ⟨_, rfl⟩
                rw [← hwz] at hHeld hdr ⊢
                clear hwz
                have lz := hdr w14
                refine wpAnyH_take (i := 0) (oi := _) (v := ?_) rfl (by kernel_rfl) (by kernel_rfl) (by kernel_rfl) (fun _ _ _ h => h) (Or.inl ⟨by rfl, ?_⟩) (by assumption) ?_
                rotate_left 1
                · (intro wy hSw; (try dsimp only at hSw); go_simp; try with_reducible rfl)
                (try simp only [Act.put, List.getElem_toArray, List.getElem_cons_succ, List.getElem_cons_zero, List.setIfInBounds_toArray, List.set_cons_zero, List.set_cons_succ])
                refine wpAnyH_take (i := 1) (oi := _) (v := ?_) rfl (by kernel_rfl) (by kernel_rfl) (by kernel_rfl) (fun _ _ _ h => h) (Or.inl ⟨by rfl, ?_⟩) (by assumption) ?_
                rotate_left 1
                · (intro wy hSw; (try dsimp only at hSw); go_simp; try with_reducible rfl)
                (try simp only [Act.put, List.getElem_toArray, List.getElem_cons_succ, List.getElem_cons_zero, List.setIfInBounds_toArray, List.set_cons_zero, List.set_cons_succ])
                refine wpAnyH_take (i := 2) (oi := _) (v := ?_) rfl (by kernel_rfl) (by kernel_rfl) (by kernel_rfl) (fun _ _ _ h => h) (Or.inl ⟨by rfl, ?_⟩) (by assumption) ?_
                rotate_left 1
                · (intro wy hSw; (try dsimp only at hSw); go_simp; try with_reducible rfl)
                (try simp only [Act.put, List.getElem_toArray, List.getElem_cons_succ, List.getElem_cons_zero, List.setIfInBounds_toArray, List.set_cons_zero, List.set_cons_succ])
                refine wpAnyH_take (i := 3) (oi := _) (v := undef) rfl (by kernel_rfl) (by kernel_rfl) (by kernel_rfl) (fun _ _ _ h => h) (Or.inr ⟨by rfl, rfl⟩) (by assumption) ?_
                (try simp only [Act.put, List.getElem_toArray, List.getElem_cons_succ, List.getElem_cons_zero, List.setIfInBounds_toArray, List.set_cons_zero, List.set_cons_succ])
                refine wpAnyH_take (i := 4) (oi := _) (v := undef) rfl (by kernel_rfl) (by kernel_rfl) (by kernel_rfl) (fun _ _ _ h => h) (Or.inr ⟨by rfl, rfl⟩) (by assumption) ?_
                (try simp only [Act.put, List.getElem_toArray, List.getElem_cons_succ, List.getElem_cons_zero, List.setIfInBounds_toArray, List.set_cons_zero, List.set_cons_succ])
                refine wpAnyH_take (i := 5) (oi := _) (v := undef) rfl (by kernel_rfl) (by kernel_rfl) (by kernel_rfl) (fun _ _ _ h => h) (Or.inr ⟨by rfl, rfl⟩) (by assumption) ?_
                (try simp only [Act.put, List.getElem_toArray, List.getElem_cons_succ, List.getElem_cons_zero, List.setIfInBounds_toArray, List.set_cons_zero, List.set_cons_succ])
                refine wpAnyH_take (i := 7) (oi := _) (v := undef) rfl (by kernel_rfl) (by kernel_rfl) (by kernel_rfl) (fun _ _ _ h => h) (Or.inr ⟨by rfl, rfl⟩) (by assumption) ?_
                (try simp only [Act.put, List.getElem_toArray, List.getElem_cons_succ, List.getElem_cons_zero, List.setIfInBounds_toArray, List.set_cons_zero, List.set_cons_succ])
                refine wpAnyH_ready (rs := [6, 8]) (by kernel_rfl) (by simp) ?_
                refine AllReadyH.cons (o := _) rfl ?_ (AllReadyH.cons (o := _) rfl ?_ AllReadyH.nil)
                · intro K9 hK9
                  go_simp
                  (try dsimp only)
                  refine hK9.out _ _ (fun b _ => inferInstance) (fun hHeld2 => ?_)
                  clear hK9 K9 hHeld
                  have hHeld := hHeld2
                  clear hHeld2
                  (try simp only [Act.put, List.getElem_toArray, List.getElem_cons_succ, List.getElem_cons_zero, List.setIfInBounds_toArray, List.set_cons_zero, List.set_cons_succ])
                  refine wpAnyH_ready (rs := [8]) (by kernel_rfl) (by simp) ?_
                  refine AllReadyH.cons (o := _) rfl ?_ AllReadyH.nil
                  intro K9 hK9
                  go_simp
                  (try dsimp only)
                  refine hK9.out _ _ (fun b _ => inferInstance) (fun hHeld2 => ?_)
                  clear hK9 K9 hHeld
                  have hHeld := hHeld2
                  clear hHeld2
                  (try simp only [Act.put, List.getElem_toArray, List.getElem_cons_succ, List.getElem_cons_zero, List.setIfInBounds_toArray, List.set_cons_zero, List.set_cons_succ])
                  refine wpAnyH_ready (rs := [9]) (by kernel_rfl) (by simp) ?_
                  refine AllReadyH.cons (o := _) rfl ?_ AllReadyH.nil
                  intro K9 hK9
                  go_simp
                  (try dsimp only)
                  refine hK9.out _ _ (fun b _ => inferInstance) (fun hHeld2 => ?_)
                  clear hK9 K9 hHeld
                  have hHeld := hHeld2
                  clear hHeld2
                  (try simp only [Act.put, List.getElem_toArray, List.getElem_cons_succ, List.getElem_cons_zero, List.setIfInBounds_toArray, List.set_cons_zero, List.set_cons_succ])
                  refine wpAnyH_take (i := 10) (oi := _) (v := ?_) rfl (by kernel_rfl) (by kernel_rfl) (by kernel_rfl) (fun _ _ _ h => h) (Or.inl ⟨by rfl, ?_⟩) (by assumption) ?_
                  rotate_left 1
                  · (intro wy hSw; (try dsimp only at hSw); go_simp; try with_reducible rfl)
                  (try simp only [Act.put, List.getElem_toArray, List.getElem_cons_succ, List.getElem_cons_zero, List.setIfInBounds_toArray, List.set_cons_zero, List.set_cons_succ])
                  refine wpAnyH_take (i := 11) (oi := _) (v := ?_) rfl (by kernel_rfl) (by kernel_rfl) (by kernel_rfl) (fun _ _ _ h => h) (Or.inl ⟨by rfl, ?_⟩) (by assumption) ?_
                  rotate_left 1
                  · (intro wy hSw; (try dsimp only at hSw); go_simp; try with_reducible rfl)
                  (try simp only [Act.put, List.getElem_toArray, List.getElem_cons_succ, List.getElem_cons_zero, List.setIfInBounds_toArray, List.set_cons_zero, List.set_cons_succ])
                  refine wpAnyH_done (by kernel_rfl) ?_ _
                  clear hHeld
                  go_wp2_with fail
                  go_ret
                  exact ⟨rfl, below_of⟩
                · intro K9 hK9
                  go_simp
                  (try dsimp only)
                  refine hK9.out _ _ (fun b _ => inferInstance) (fun hHeld2 => ?_)
                  clear hK9 K9 hHeld
                  have hHeld := hHeld2
                  clear hHeld2
                  (try simp only [Act.put, List.getElem_toArray, List.getElem_cons_succ, List.getElem_cons_zero, List.setIfInBounds_toArray, List.set_cons_zero, List.set_cons_succ])
                  refine wpAnyH_ready (rs := [6]) (by kernel_rfl) (by simp) ?_
                  refine AllReadyH.cons (o := _) rfl ?_ AllReadyH.nil
                  intro K9 hK9
                  go_simp
                  (try dsimp only)
                  refine hK9.out _ _ (fun b _ => inferInstance) (fun hHeld2 => ?_)
                  clear hK9 K9 hHeld
                  have hHeld := hHeld2
                  clear hHeld2
                  (try simp only [Act.put, List.getElem_toArray, List.getElem_cons_succ, List.getElem_cons_zero, List.setIfInBounds_toArray, List.set_cons_zero, List.set_cons_succ])
                  refine wpAnyH_ready (rs := [9]) (by kernel_rfl) (by simp) ?_
                  refine AllReadyH.cons (o := _) rfl ?_ AllReadyH.nil
                  intro K9 hK9
                  go_simp
                  (try dsimp only)
                  refine hK9.out _ _ (fun b _ => inferInstance) (fun hHeld2 => ?_)
                  clear hK9 K9 hHeld
                  have hHeld := hHeld2
                  clear hHeld2
                  (try simp only [Act.put, List.getElem_toArray, List.getElem_cons_succ, List.getElem_cons_zero, List.setIfInBounds_toArray, List.set_cons_zero, List.set_cons_succ])
                  refine wpAnyH_take (i := 10) (oi := _) (v := ?_) rfl (by kernel_rfl) (by kernel_rfl) (by kernel_rfl) (fun _ _ _ h => h) (Or.inl ⟨by rfl, ?_⟩) (by assumption) ?_
                  rotate_left 1
                  · (intro wy hSw; (try dsimp only at hSw); go_simp; try with_reducible rfl)
                  (try simp only [Act.put, List.getElem_toArray, List.getElem_cons_succ, List.getElem_cons_zero, List.setIfInBounds_toArray, List.set_cons_zero, List.set_cons_succ])
                  refine wpAnyH_take (i := 11) (oi := _) (v := ?_) rfl (by kernel_rfl) (by kernel_rfl) (by kernel_rfl) (fun _ _ _ h => h) (Or.inl ⟨by rfl, ?_⟩) (by assumption) ?_
                  rotate_left 1
                  · (intro wy hSw; (try dsimp only at hSw); go_simp; try with_reducible rfl)
                  (try simp only [Act.put, List.getElem_toArray, List.getElem_cons_succ, List.getElem_cons_zero, List.setIfInBounds_toArray, List.set_cons_zero, List.set_cons_succ])
                  refine wpAnyH_done (by kernel_rfl) ?_ _
                  clear hHeld
                  go_wp2_with fail
                  go_ret
                  exact ⟨rfl, below_of⟩
              | true =>
                have hfn : (firstN (conL l) xx).isSome := by rw [firstE_N, Option.isSome_map]; exact hfx
                have Hfn := hide hfn
                simp only [hfx] at HF
                clear hfx hfn
                go_upto_region 23 with (go_at_call 30; refine (HF _).mono ?_; rintro r w13 ⟨rfl, hb13⟩; have l13 := later hb13)
                refine wp_name ?_
                intro w14 hw14
                have l14 : ∀ b [Later b w13], Later b w14 := fun b _ => by rw [← hw14]; infer_instance
                have l1414 : Later w14 w14 := Later.refl
                clear hw14
                go_region_held3 (fun w' => ∀ b [Later b w14], Later b w') ((intro b _; infer_instance))
                  ((first
                    | (go_at_call 23; refine (HRs _).mono ?_; rintro r w15 ⟨p, PA, PC, rfl, hp, hop, hb15⟩; have l15 := later hb15; have l1515 : Later w15 w15 := Later.refl; try (have kg : w15.heap[w14.heap.size]? = some (.cells #[.int .i64 x1, .int .i64 x2] 46 (0, 0)) := (hb15.block _ (by simp [heap_drew])).trans (heap_alloc_new w14 _)))
                    | (go_at_call 14; refine (same_one ((hop.below (show Later w15 _ from inferInstance).below).at_ IDE.enc).2.2 (by first | exact heap_alloc_new _ _ | exact kg) (by have h := hp.out; rw [hse.out] at h; rw [every_retL h Hfn.out, Hxx.out])).mono ?_; rintro r w16 ⟨rfl, hb16⟩; have l16 := later hb16)))
                all_goals go_wp2_with fail
                all_goals go_ret
                all_goals exact ⟨by first | rfl | simp, below_of⟩
end Go.Proofs.Ytffnogjgnpbjlaa
