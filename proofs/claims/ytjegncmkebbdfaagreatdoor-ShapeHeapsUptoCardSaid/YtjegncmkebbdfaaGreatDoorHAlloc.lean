/-
  Contracts of the functions of this seat that each theorem names: what a call returns, and that it writes nothing that was there before. The conditions stand in each theorem.
-/
import Derived.Test.YtjegncmkebbdfaaGreatDoorGrp51
import Derived.Test.YtjegncmkebbdfaaGreatDoorHClear
set_option linter.unusedSimpArgs false
set_option linter.unusedVariables false
namespace Go.Proofs.YtjegncmkebbdfaaGreatDoor
open Go.RowKit
attribute [local simp] heap_drew
/-- The words of an object with a header. -/
def HdE.sz (h : HdE) : Nat := 2 + max h.fields.toNat 2
def objW (h : HdE) (x : IDE) : List Int := tailZ h.sz h.enc (encI x)
theorem objW_len (h : HdE) (x : IDE) : (objW h x).length = h.sz := tailZ_len (by unfold HdE.sz; omega) _ _
theorem zero_u64 (w : World) : (zeroValue 34).run Tryz.prog w = .ok (.int .u64 0) w := by kernel_rfl
structure AlPost (base : Nat) (w : World) (g : Nat) (b lim : Int) (A : Option Addr) (ws : List Int) (h : HdE) (x : IDE) (r : Ending) (w' : World) : Prop where
  out : ∃ A' c', r = .returned (.tuple #[.int .i64 (b + ws.length), .int .i64 0]) ∧ SpAt w' g b lim (.slice A' (ws ++ objW h x).length c') ∧ WsAt base w' A' c' (ws ++ objW h x) ∧ (A' = A ∨ ∃ j, A' = some ⟨j, 0, none⟩ ∧ w.heap.size ≤ j) ∧ Only (fun j => j = g ∨ A = some ⟨j, 0, none⟩) w w'
set_option maxRecDepth 100000 in
set_option maxHeartbeats 8000000 in
theorem spAlloc_any {base g c : Nat} {b lim : Int} {A : Option Addr} {ws : List Int} (h : HdE) (x : IDE) (w : World) (hsp : SpAt w g b lim (.slice A ws.length c)) (hn : SpIn b ws.length) (hs : WsAt base w A c ws) (H : HdOk h) (hx : validIDB x = true) (hroom : b + ws.length + h.sz ≤ lim) (hlim : lim ≤ 100000000) (hbase : base ≤ w.heap.size) :
    Calls Tryz.prog 72 #[spP g, h.v, x.v] w (AlPost base w g b lim A ws h x) := by
  have HE := fun u : World => hencode_any h u H
  have HI : ∀ u : World, Calls Tryz.prog 71 #[x.v] u fun r w' => r = .returned (.tuple #[.int .u64 (encI x), .int .i64 0]) ∧ Below u.heap.size u w' := fun u => by
    have := encodeID_any x u
    rw [hx] at this
    exact this
  have HT : ∀ u [Later w u], Calls Tryz.prog 121 #[spP g] u fun r w' => r = .returned (.int .i64 (b + ws.length)) ∧ Below u.heap.size u w' := fun u i => top_any (hsp.below i.below) hn
  have hf := H.f
  obtain ⟨kk, hkk⟩ : ∃ kk, kk = h.sz := ⟨_, rfl⟩
  have hki : (2 : Int) + max h.fields 2 = (kk : Int) := by rw [hkk]; unfold HdE.sz; omega
  have hk34 : 2 < kk ∧ kk ≤ 32 := by rw [hkk]; unfold HdE.sz; omega
  have HW : ∀ u : World, Calls Tryz.prog 122 #[h.v] u fun r w' => r = .returned (.int .i64 (kk : Int)) ∧ Below u.heap.size u w' := fun u => by
    have := words_any5 h u H
    rw [hki] at this
    exact this
  have hL : objW h x = tailZ kk h.enc (encI x) := by rw [hkk]; rfl
  have hLl : (objW h x).length = kk := by rw [hkk]; exact objW_len h x
  rw [← hkk] at hroom
  clear hkk hki hf H hx
  obtain ⟨eh, heh⟩ : ∃ y, y = h.enc := ⟨_, rfl⟩
  obtain ⟨ei, hei⟩ : ∃ y, y = encI x := ⟨_, rfl⟩
  rw [← heh, ← hei] at hL
  simp only [← heh] at HE
  simp only [← hei] at HI
  clear heh hei
  have HL := hide hL
  have HLl := hide hLl
  clear hL hLl
  obtain ⟨n, hn'⟩ : ∃ n, n = ws.length := ⟨_, rfl⟩
  have hb0 := hn.b0
  have hb1 := hn.b1
  have hnn := hn.n1
  rw [← hn'] at hsp hnn hroom
  simp only [← hn'] at HT
  have Hn := hide hn'
  have HG : ∀ u [Later w u], Calls Tryz.prog 123 #[.slice A n c, .int .i64 (kk : Int)] u fun r w' => ∃ A' c', r = .returned (.slice A' n c') ∧ WsAt base w' A' c' ws ∧ n + kk ≤ c' ∧ Below u.heap.size u w' ∧ ((A' = A ∧ c' = c) ∨ ∃ j, A' = some ⟨j, 0, none⟩ ∧ u.heap.size ≤ j) := fun u i => by
    have := grow_any (hs.below i.below) kk (by omega) (by omega) (Nat.le_trans hbase i.below.size)
    rw [← hn'] at this
    exact this
  clear hn' hn
  have B := boxed hsp
  have lww : Later w w := Later.refl
  have hw1 : IntKind.i64.wrap (lim - (b + n)) = lim - (b + n) := by rw [IntKind.wrap_i64]; omega
  have hw2 : IntKind.i64.wrap ((n : Int) + (kk : Int)) = (n : Int) + (kk : Int) := by rw [IntKind.wrap_i64]; omega
  have hw3 : b + (n : Int) - b = (n : Int) := by omega
  have hw4 : IntKind.i64.wrap (n : Int) = (n : Int) := by rw [IntKind.wrap_i64]; omega
  have hgt : ¬ lim - (b + (n : Int)) < (kk : Int) := by omega
  clear hsp
  go_enter Tryz.func72, Tryz.ntmps72
  go_upto_region 1 with fail
  refine wp_name ?_
  intro w0 hw0
  obtain ⟨B0, B1, l0⟩ := box2 hw0
  have lw0 : Later w w0 := l0 w
  have l00 : Later w0 w0 := Later.refl
  clear hw0
  go_upto_region 4 with (go_at_call 120; refine (HE _).mono ?_; rintro r w1 ⟨rfl, hb1⟩; have l1 := later hb1)
  go_upto_region 7 with (go_at_call 71; refine (HI _).mono ?_; rintro r w2 ⟨rfl, hb2⟩; have l2 := later hb2)
  have lw2 : Later w w2 := ⟨below_of⟩
  have l22 : Later w2 w2 := Later.refl
  (refine wp_region_after (by kernel_rfl) (by kernel_rfl) ?_
   repeat (any_goals (first | go_big_quiet_skip | (go_big_quiet_want; go_big_quiet_op; first | go_big_quiet_on | go_big_quiet_call ((first | (go_at_call 121; exact Calls.after (HT _)) | (go_at_call 122; exact Calls.after (HW _))))) | quiet_step ((first | (go_at_call 121; exact Calls.after (HT _)) | (go_at_call 122; exact Calls.after (HW _)))) | (refine wpQuiet_step (fun K hK => ?_); go_simp; split <;> (refine hK _ ?_; clear hK K))))
   all_goals (refine wpQuiet_nil ?_; intro _ hw'; obtain ⟨u', hw''⟩ := hw'; subst hw''; obtain ⟨wd, hbd⟩ := u'; simp only [After.val_mk]))
  have ld := later hbd
  have lwd : Later w wd := ⟨below_of⟩
  have ldd : Later wd wd := Later.refl
  go_upto_region 10 with fail
  obtain ⟨w8, hw8⟩ : ∃ y, y = wd := ⟨_, rfl⟩
  subst hw8
  refine wp_region_held_drew (S := fun _ => True) (by kernel_rfl) (by trivial) (fun hHeld => ?_)
  refine wpAnyH_take (i := 0) (oi := _) (v := ?_) rfl (by kernel_rfl) (by kernel_rfl) (by kernel_rfl) (fun _ _ _ h => h) (Or.inl ⟨by rfl, ?_⟩) (by assumption) ?_
  rotate_left 1
  · (intro wy hSw; (try dsimp only at hSw); go_simp; try with_reducible rfl)
  (try simp only [Act.put])
  refine wpAnyH_take (i := 1) (oi := _) (v := ?_) rfl (by kernel_rfl) (by kernel_rfl) (by kernel_rfl) (fun _ _ _ h => h) (Or.inl ⟨by rfl, ?_⟩) (by assumption) ?_
  rotate_left 1
  · (intro wy hSw; (try dsimp only at hSw); go_simp; try with_reducible rfl)
  (try simp only [Act.put])
  refine wpAnyH_take (i := 2) (oi := _) (v := ?_) rfl (by kernel_rfl) (by kernel_rfl) (by kernel_rfl) (fun _ _ _ h => h) (Or.inl ⟨by rfl, ?_⟩) (by assumption) ?_
  rotate_left 1
  · (intro wy hSw; (try dsimp only at hSw); go_simp; try with_reducible rfl)
  (try simp only [Act.put])
  refine wpAnyH_take (i := 3) (oi := _) (v := ?_) rfl (by kernel_rfl) (by kernel_rfl) (by kernel_rfl) (fun _ _ _ h => h) (Or.inl ⟨by rfl, ?_⟩) (by assumption) ?_
  rotate_left 1
  · (intro wy hSw; (try dsimp only at hSw); go_simp; try with_reducible rfl)
  (try simp only [Act.put])
  refine wpAnyH_take (i := 5) (oi := _) (v := ?_) rfl (by kernel_rfl) (by kernel_rfl) (by kernel_rfl) (fun _ _ _ h => h) (Or.inl ⟨by rfl, ?_⟩) (by assumption) ?_
  rotate_left 1
  · (intro wy hSw; (try dsimp only at hSw); go_simp; try with_reducible rfl)
  (try simp only [Act.put])
  refine wpAnyH_take (i := 7) (oi := _) (v := ?_) rfl (by kernel_rfl) (by kernel_rfl) (by kernel_rfl) (fun _ _ _ h => h) (Or.inl ⟨by rfl, ?_⟩) (by assumption) ?_
  rotate_left 1
  · (intro wy hSw; (try dsimp only at hSw); go_simp; try with_reducible rfl)
  (try simp only [Act.put])
  refine wpAnyH_take (i := 8) (oi := _) (v := ?_) rfl (by kernel_rfl) (by kernel_rfl) (by kernel_rfl) (fun _ _ _ h => h) (Or.inl ⟨by rfl, ?_⟩) (by assumption) ?_
  rotate_left 1
  · (intro wy hSw; (try dsimp only at hSw); go_simp; try with_reducible rfl)
  (try simp only [Act.put])
  refine wpAnyH_take (i := 9) (oi := _) (v := ?_) rfl (by kernel_rfl) (by kernel_rfl) (by kernel_rfl) (fun _ _ _ h => h) (Or.inl ⟨by rfl, ?_⟩) (by assumption) ?_
  rotate_left 1
  · (intro wy hSw; (try dsimp only at hSw); go_simp; try with_reducible rfl)
  (try simp only [Act.put])
  refine wpAnyH_take (i := 12) (oi := _) (v := ?_) rfl (by kernel_rfl) (by kernel_rfl) (by kernel_rfl) (fun _ _ _ h => h) (Or.inl ⟨by rfl, ?_⟩) (by assumption) ?_
  rotate_left 1
  · (intro wy hSw; (try dsimp only at hSw); go_simp; try with_reducible rfl)
  (try simp only [Act.put])
  refine wpAnyH_ready (rs := [4, 10]) (by kernel_rfl) (by simp) ?_
  refine AllReadyH.cons (o := _) rfl ?_ (AllReadyH.cons (o := _) rfl ?_ AllReadyH.nil)
  · intro K9 hK9
    go_simp
    refine hK9.out _ _ (by trivial) (fun hHeld => ?_)
    clear hK9 K9
    (try simp only [Act.put])
    refine wpAnyH_ready (rs := [6, 10]) (by kernel_rfl) (by simp) ?_
    refine AllReadyH.cons (o := _) rfl ?_ (AllReadyH.cons (o := _) rfl ?_ AllReadyH.nil)
    · intro K9 hK9
      go_simp
      refine (HG _).mono ?_
      rintro r w10 ⟨A', c', rfl, hW', hge, hb10, hA⟩
      (try dsimp only)
      have l10 := later hb10
      have hA2 : A' = A ∨ ∃ j, A' = some ⟨j, 0, none⟩ ∧ w.heap.size ≤ j := hA.imp And.left (fun ⟨j, e, hj⟩ => ⟨j, e, Nat.le_trans (show Below w.heap.size w _ from below_of).size hj⟩)
      clear hA
      refine hK9.out _ _ (by trivial) (fun hHeld => ?_)
      clear hK9 K9
      (try simp only [Act.put])
      refine wpAnyH_ready (rs := [10]) (by kernel_rfl) (by simp) ?_
      refine AllReadyH.cons (o := _) rfl ?_ AllReadyH.nil
      intro K9 hK9
      go_simp
      refine hK9.out _ _ (by trivial) (fun hHeld => ?_)
      clear hK9 K9
      (try simp only [Act.put])
      refine wpAnyH_take (i := 11) (oi := _) (v := ?_) rfl (by kernel_rfl) (by kernel_rfl) (by kernel_rfl) (fun _ _ _ h => h) (Or.inl ⟨by rfl, ?_⟩) (by assumption) ?_
      rotate_left 1
      · (intro wy hSw; (try dsimp only at hSw); go_simp; try with_reducible rfl)
      (try simp only [Act.put])
      refine wpAnyH_take (i := 13) (oi := _) (v := ?_) rfl (by kernel_rfl) (by kernel_rfl) (by kernel_rfl) (fun _ _ _ h => h) (Or.inl ⟨by rfl, ?_⟩) (by assumption) ?_
      rotate_left 1
      · (intro wy hSw; (try dsimp only at hSw); go_simp; try with_reducible rfl)
      (try simp only [Act.put])
      obtain ⟨g2, rfl⟩ := hW'.own.isSome (by intro e; have h9 := congrArg List.length e; simp only [List.length_append, List.length_replicate, List.length_nil] at h9; have := Hn.out; omega)
      have q1 : (n : Int) + (kk : Int) ≤ (c' : Int) := by omega
      have q0 : (0 : Int) ≤ (n : Int) + (kk : Int) := by omega
      have q2 : ((n : Int) + (kk : Int)).toNat = n + kk := by omega
      have l8a : Later w8 w10 := ⟨below_of⟩
      have hne : g2 ≠ g := fun e => own_off hW'.own (B w10).1 (by decide) (by rw [e]; rfl)
      have hle := hW'.le
      refine wpAnyH_take (i := 14) (oi := _) (v := ?_) rfl (by kernel_rfl) (by kernel_rfl) (by kernel_rfl) (fun _ _ _ h => h) (Or.inl ⟨by rfl, ?_⟩) (by assumption) ?_
      rotate_left 1
      · (intro wy hSw; (try dsimp only at hSw); go_simp; try with_reducible rfl)
      (try simp only [Act.put])
      refine wpAnyH_take (i := 15) (oi := _) (v := ?_) rfl (by kernel_rfl) (by kernel_rfl) (by kernel_rfl) (fun _ _ _ h => h) (Or.inl ⟨by rfl, ?_⟩) (by assumption) ?_
      rotate_left 1
      · (intro wy hSw; (try dsimp only at hSw); go_simp; try with_reducible rfl)
      (try simp only [Act.put])
      refine wpAnyH_take (i := 16) (oi := _) (v := ?_) rfl (by kernel_rfl) (by kernel_rfl) (by kernel_rfl) (fun _ _ _ h => h) (Or.inl ⟨by rfl, ?_⟩) (by assumption) ?_
      rotate_left 1
      · (intro wy hSw; (try dsimp only at hSw); go_simp; try with_reducible rfl)
      (try simp only [Act.put])
      refine wpAnyH_ready (rs := [17]) (by kernel_rfl) (by simp) ?_
      refine AllReadyH.cons (o := _) rfl ?_ AllReadyH.nil
      intro K9 hK9
      go_simp
      refine hK9.out _ _ (by trivial) (fun hHeld => ?_)
      clear hK9 K9
      (try simp only [Act.put])
      refine wpAnyH_done (by kernel_rfl) ?_ _
      go_upto_region 11 with fail
      refine wp_name ?_
      intro w11 hw11
      have lwa : Later w w10 := lwd.trans l8a
      have B11 := boxed_set B hw11
      have hsG : (g2 = g ∨ A = some ⟨g2, 0, none⟩) ∨ w.heap.size ≤ g2 := by
        rcases hA2 with e | ⟨j, e, hj⟩
        · exact .inl (.inr e.symm)
        · injection e with e; injection e with e; exact .inr (by omega)
      have o2 : Only (fun j => j = g ∨ A = some ⟨j, 0, none⟩) w w11 := by
        rw [← hw11]
        exact (Only.of_below lwa.below).setCell (p := ⟨g, 2, none⟩) (.inl (.inl rfl)) _
      have hW11 : WsAt base w11 (some ⟨g2, 0, none⟩) c' ws := ⟨hle, by rw [← hw11]; exact hW'.own.far (p := ⟨g, 2, none⟩) (fun e => hne (by injection e)) _⟩
      clear hw11 hW'
      have l11 : Later w11 w11 := Later.refl
      have q3 : (n : Int) ≤ (n : Int) + (kk : Int) := by omega
      (refine wp_region_after (by kernel_rfl) (by kernel_rfl) ?_
       repeat (any_goals (first | go_big_quiet_skip | (go_big_quiet_want; go_big_quiet_op; first | go_big_quiet_on | go_big_quiet_call (fail)) | quiet_step (fail) | (refine wpQuiet_step (fun K hK => ?_); go_simp; split <;> (refine hK _ ?_; clear hK K))))
       all_goals (refine wpQuiet_nil ?_; intro _ hw'; obtain ⟨u', hw''⟩ := hw'; subst hw''; obtain ⟨wd, hbd⟩ := u'; simp only [After.val_mk]))
      have le := later hbd
      have o3 := o2.trans (Only.of_below hbd)
      have hWd := hW11.below hbd
      have B12 : wd.heap[g]? = _ := (B11 wd).1
      have h0 : ∀ j, j < kk → (ws ++ List.replicate (c' - ws.length) (0 : Int))[n + j]? = some 0 := fun j hj => by
        rw [List.getElem?_append_right (by have := Hn.out; omega), List.getElem?_replicate, if_pos (by have := Hn.out; omega)]
      obtain ⟨w12, hrun, ho12, hg12, hz12⟩ := run_clear_zero (P := Tryz.prog) (t := 38) (ty := 0) (d := c' - n) under_u64s zero_u64 hWd.own (by rw [List.length_append, List.length_replicate]; omega) (n := n) (k := kk) (by omega) (by omega) h0
      have B12' : w12.heap[g]? = _ := (hg12.block g (blk_lt B12) (fun e => by first | exact hne (Option.some.inj e) | exact hne (Option.some.inj e).symm)).trans B12
      have o4 : Only (fun j => j = g ∨ A = some ⟨j, 0, none⟩) w w12 := o3.trans' (s' := fun j => j = g2) ⟨hg12.os, hg12.tape, hg12.output, hg12.size, fun k hk hne => hg12.block k hk (fun e => by first | exact hne (Option.some.inj e) | exact hne (Option.some.inj e).symm)⟩ (fun k hk e => by
        rw [e] at hk ⊢
        rcases hsG with h1 | h1
        · exact h1
        · omega)
      clear hg12 hz12 o3 o2 hWd hW11 B12 hle
      have z0 := h0 0 (by omega)
      have z1 := h0 1 (by omega)
      rw [Nat.add_zero] at z0
      have k0 := ho12.cell W64.enc z0 (j := 0) rfl
      have k1 := ho12.cell W64.enc z1 (j := 0) rfl
      have f0 := ho12.free (n * 1 + 0)
      have f1 := ho12.free ((n + 1) * 1 + 0)
      simp only [Nat.mul_one, Nat.add_zero] at k0 k1 f0 f1
      go_upto_region 14 with fail
      refine wp_name ?_
      intro w13 hw13
      have o5 : Only (fun j => j = g ∨ A = some ⟨j, 0, none⟩) w w13 := by
        rw [← hw13]
        exact (o4.setCell (p := ⟨g2, n, none⟩) hsG _).setCell (p := ⟨g2, n + 1, none⟩) hsG _
      have B13' := (show w13.heap[g]? = w12.heap[g]? by
        rw [← hw13]
        exact (blk_far (p := ⟨g2, n + 1, none⟩) (fun e => hne e.symm) _).trans (blk_far (p := ⟨g2, n, none⟩) (fun e => hne e.symm) _)).trans B12'
      have s1 := ho12.store W64.enc (k := n) (j := 0) (x' := eh) (u := .int .u64 eh) z0 (by decide) rfl
      have s2 := s1.store W64.enc (k := n + 1) (j := 0) (x := 0) (x' := ei) (u := .int .u64 ei) (by rw [List.getElem?_set, if_neg (by omega)]; exact z1) (by decide) rfl
      simp only [Nat.mul_one, Nat.add_zero] at s2
      rw [hw13] at s2
      have hlen : (ws ++ objW h x).length = n + kk := by rw [List.length_append, HLl.out, Hn.out]
      have hpt : (((ws ++ List.replicate (c' - ws.length) 0).set n eh).set (n + 1) ei) = (ws ++ objW h x) ++ List.replicate (c' - (ws ++ objW h x).length) 0 := by
        have := put_tail (ws := ws) (m := c' - ws.length) (k := kk) (by omega) (by have := Hn.out; omega) eh ei
        rw [← Hn.out] at this
        rw [HL.out, List.length_append, tailZ_len (by omega), ← Hn.out, this, Nat.sub_sub]
      rw [hpt] at s2
      have hW13 : WsAt base w13 (some ⟨g2, 0, none⟩) c' (ws ++ objW h x) := ⟨by rw [hlen]; exact hge, s2⟩
      have hsp13 : SpAt w13 g b lim (.slice (some ⟨g2, 0, none⟩) (ws ++ objW h x).length c') := by rw [hlen]; exact B13'
      clear hw13 hlen hpt s1 ho12 B12' o4 B11 k0 k1 f0 f1 h0 z0 z1 hrun s2
      go_wp2_with fail
      exact bodyPost_ret (results_tmp2 rfl _ _ _) rfl ⟨some ⟨g2, 0, none⟩, c', by rw [← Hn.out]; rfl, hsp13, hW13, hA2, o5⟩
    · intro K9 hK9
      go_simp
      refine hK9.out _ _ (by trivial) (fun hHeld => ?_)
      clear hK9 K9
      (try simp only [Act.put])
      refine wpAnyH_take (i := 11) (oi := _) (v := ?_) rfl (by kernel_rfl) (by kernel_rfl) (by kernel_rfl) (fun _ _ _ h => h) (Or.inl ⟨by rfl, ?_⟩) (by assumption) ?_
      rotate_left 1
      · (intro wy hSw; (try dsimp only at hSw); go_simp; try with_reducible rfl)
      (try simp only [Act.put])
      refine wpAnyH_take (i := 13) (oi := _) (v := ?_) rfl (by kernel_rfl) (by kernel_rfl) (by kernel_rfl) (fun _ _ _ h => h) (Or.inl ⟨by rfl, ?_⟩) (by assumption) ?_
      rotate_left 1
      · (intro wy hSw; (try dsimp only at hSw); go_simp; try with_reducible rfl)
      (try simp only [Act.put])
      refine wpAnyH_ready (rs := [6]) (by kernel_rfl) (by simp) ?_
      refine AllReadyH.cons (o := _) rfl ?_ AllReadyH.nil
      intro K9 hK9
      go_simp
      refine (HG _).mono ?_
      rintro r w10 ⟨A', c', rfl, hW', hge, hb10, hA⟩
      (try dsimp only)
      have l10 := later hb10
      have hA2 : A' = A ∨ ∃ j, A' = some ⟨j, 0, none⟩ ∧ w.heap.size ≤ j := hA.imp And.left (fun ⟨j, e, hj⟩ => ⟨j, e, Nat.le_trans (show Below w.heap.size w _ from below_of).size hj⟩)
      clear hA
      refine hK9.out _ _ (by trivial) (fun hHeld => ?_)
      clear hK9 K9
      (try simp only [Act.put])
      obtain ⟨g2, rfl⟩ := hW'.own.isSome (by intro e; have h9 := congrArg List.length e; simp only [List.length_append, List.length_replicate, List.length_nil] at h9; have := Hn.out; omega)
      have q1 : (n : Int) + (kk : Int) ≤ (c' : Int) := by omega
      have q0 : (0 : Int) ≤ (n : Int) + (kk : Int) := by omega
      have q2 : ((n : Int) + (kk : Int)).toNat = n + kk := by omega
      have l8a : Later w8 w10 := ⟨below_of⟩
      have hne : g2 ≠ g := fun e => own_off hW'.own (B w10).1 (by decide) (by rw [e]; rfl)
      have hle := hW'.le
      refine wpAnyH_take (i := 14) (oi := _) (v := ?_) rfl (by kernel_rfl) (by kernel_rfl) (by kernel_rfl) (fun _ _ _ h => h) (Or.inl ⟨by rfl, ?_⟩) (by assumption) ?_
      rotate_left 1
      · (intro wy hSw; (try dsimp only at hSw); go_simp; try with_reducible rfl)
      (try simp only [Act.put])
      refine wpAnyH_take (i := 15) (oi := _) (v := ?_) rfl (by kernel_rfl) (by kernel_rfl) (by kernel_rfl) (fun _ _ _ h => h) (Or.inl ⟨by rfl, ?_⟩) (by assumption) ?_
      rotate_left 1
      · (intro wy hSw; (try dsimp only at hSw); go_simp; try with_reducible rfl)
      (try simp only [Act.put])
      refine wpAnyH_take (i := 16) (oi := _) (v := ?_) rfl (by kernel_rfl) (by kernel_rfl) (by kernel_rfl) (fun _ _ _ h => h) (Or.inl ⟨by rfl, ?_⟩) (by assumption) ?_
      rotate_left 1
      · (intro wy hSw; (try dsimp only at hSw); go_simp; try with_reducible rfl)
      (try simp only [Act.put])
      refine wpAnyH_ready (rs := [17]) (by kernel_rfl) (by simp) ?_
      refine AllReadyH.cons (o := _) rfl ?_ AllReadyH.nil
      intro K9 hK9
      go_simp
      refine hK9.out _ _ (by trivial) (fun hHeld => ?_)
      clear hK9 K9
      (try simp only [Act.put])
      refine wpAnyH_done (by kernel_rfl) ?_ _
      go_upto_region 11 with fail
      refine wp_name ?_
      intro w11 hw11
      have lwa : Later w w10 := lwd.trans l8a
      have B11 := boxed_set B hw11
      have hsG : (g2 = g ∨ A = some ⟨g2, 0, none⟩) ∨ w.heap.size ≤ g2 := by
        rcases hA2 with e | ⟨j, e, hj⟩
        · exact .inl (.inr e.symm)
        · injection e with e; injection e with e; exact .inr (by omega)
      have o2 : Only (fun j => j = g ∨ A = some ⟨j, 0, none⟩) w w11 := by
        rw [← hw11]
        exact (Only.of_below lwa.below).setCell (p := ⟨g, 2, none⟩) (.inl (.inl rfl)) _
      have hW11 : WsAt base w11 (some ⟨g2, 0, none⟩) c' ws := ⟨hle, by rw [← hw11]; exact hW'.own.far (p := ⟨g, 2, none⟩) (fun e => hne (by injection e)) _⟩
      clear hw11 hW'
      have l11 : Later w11 w11 := Later.refl
      have q3 : (n : Int) ≤ (n : Int) + (kk : Int) := by omega
      (refine wp_region_after (by kernel_rfl) (by kernel_rfl) ?_
       repeat (any_goals (first | go_big_quiet_skip | (go_big_quiet_want; go_big_quiet_op; first | go_big_quiet_on | go_big_quiet_call (fail)) | quiet_step (fail) | (refine wpQuiet_step (fun K hK => ?_); go_simp; split <;> (refine hK _ ?_; clear hK K))))
       all_goals (refine wpQuiet_nil ?_; intro _ hw'; obtain ⟨u', hw''⟩ := hw'; subst hw''; obtain ⟨wd, hbd⟩ := u'; simp only [After.val_mk]))
      have le := later hbd
      have o3 := o2.trans (Only.of_below hbd)
      have hWd := hW11.below hbd
      have B12 : wd.heap[g]? = _ := (B11 wd).1
      have h0 : ∀ j, j < kk → (ws ++ List.replicate (c' - ws.length) (0 : Int))[n + j]? = some 0 := fun j hj => by
        rw [List.getElem?_append_right (by have := Hn.out; omega), List.getElem?_replicate, if_pos (by have := Hn.out; omega)]
      obtain ⟨w12, hrun, ho12, hg12, hz12⟩ := run_clear_zero (P := Tryz.prog) (t := 38) (ty := 0) (d := c' - n) under_u64s zero_u64 hWd.own (by rw [List.length_append, List.length_replicate]; omega) (n := n) (k := kk) (by omega) (by omega) h0
      have B12' : w12.heap[g]? = _ := (hg12.block g (blk_lt B12) (fun e => by first | exact hne (Option.some.inj e) | exact hne (Option.some.inj e).symm)).trans B12
      have o4 : Only (fun j => j = g ∨ A = some ⟨j, 0, none⟩) w w12 := o3.trans' (s' := fun j => j = g2) ⟨hg12.os, hg12.tape, hg12.output, hg12.size, fun k hk hne => hg12.block k hk (fun e => by first | exact hne (Option.some.inj e) | exact hne (Option.some.inj e).symm)⟩ (fun k hk e => by
        rw [e] at hk ⊢
        rcases hsG with h1 | h1
        · exact h1
        · omega)
      clear hg12 hz12 o3 o2 hWd hW11 B12 hle
      have z0 := h0 0 (by omega)
      have z1 := h0 1 (by omega)
      rw [Nat.add_zero] at z0
      have k0 := ho12.cell W64.enc z0 (j := 0) rfl
      have k1 := ho12.cell W64.enc z1 (j := 0) rfl
      have f0 := ho12.free (n * 1 + 0)
      have f1 := ho12.free ((n + 1) * 1 + 0)
      simp only [Nat.mul_one, Nat.add_zero] at k0 k1 f0 f1
      go_upto_region 14 with fail
      refine wp_name ?_
      intro w13 hw13
      have o5 : Only (fun j => j = g ∨ A = some ⟨j, 0, none⟩) w w13 := by
        rw [← hw13]
        exact (o4.setCell (p := ⟨g2, n, none⟩) hsG _).setCell (p := ⟨g2, n + 1, none⟩) hsG _
      have B13' := (show w13.heap[g]? = w12.heap[g]? by
        rw [← hw13]
        exact (blk_far (p := ⟨g2, n + 1, none⟩) (fun e => hne e.symm) _).trans (blk_far (p := ⟨g2, n, none⟩) (fun e => hne e.symm) _)).trans B12'
      have s1 := ho12.store W64.enc (k := n) (j := 0) (x' := eh) (u := .int .u64 eh) z0 (by decide) rfl
      have s2 := s1.store W64.enc (k := n + 1) (j := 0) (x := 0) (x' := ei) (u := .int .u64 ei) (by rw [List.getElem?_set, if_neg (by omega)]; exact z1) (by decide) rfl
      simp only [Nat.mul_one, Nat.add_zero] at s2
      rw [hw13] at s2
      have hlen : (ws ++ objW h x).length = n + kk := by rw [List.length_append, HLl.out, Hn.out]
      have hpt : (((ws ++ List.replicate (c' - ws.length) 0).set n eh).set (n + 1) ei) = (ws ++ objW h x) ++ List.replicate (c' - (ws ++ objW h x).length) 0 := by
        have := put_tail (ws := ws) (m := c' - ws.length) (k := kk) (by omega) (by have := Hn.out; omega) eh ei
        rw [← Hn.out] at this
        rw [HL.out, List.length_append, tailZ_len (by omega), ← Hn.out, this, Nat.sub_sub]
      rw [hpt] at s2
      have hW13 : WsAt base w13 (some ⟨g2, 0, none⟩) c' (ws ++ objW h x) := ⟨by rw [hlen]; exact hge, s2⟩
      have hsp13 : SpAt w13 g b lim (.slice (some ⟨g2, 0, none⟩) (ws ++ objW h x).length c') := by rw [hlen]; exact B13'
      clear hw13 hlen hpt s1 ho12 B12' o4 B11 k0 k1 f0 f1 h0 z0 z1 hrun s2
      go_wp2_with fail
      exact bodyPost_ret (results_tmp2 rfl _ _ _) rfl ⟨some ⟨g2, 0, none⟩, c', by rw [← Hn.out]; rfl, hsp13, hW13, hA2, o5⟩
  · intro K9 hK9
    go_simp
    refine hK9.out _ _ (by trivial) (fun hHeld => ?_)
    clear hK9 K9
    (try simp only [Act.put])
    refine wpAnyH_take (i := 11) (oi := _) (v := ?_) rfl (by kernel_rfl) (by kernel_rfl) (by kernel_rfl) (fun _ _ _ h => h) (Or.inl ⟨by rfl, ?_⟩) (by assumption) ?_
    rotate_left 1
    · (intro wy hSw; (try dsimp only at hSw); go_simp; try with_reducible rfl)
    (try simp only [Act.put])
    refine wpAnyH_take (i := 13) (oi := _) (v := ?_) rfl (by kernel_rfl) (by kernel_rfl) (by kernel_rfl) (fun _ _ _ h => h) (Or.inl ⟨by rfl, ?_⟩) (by assumption) ?_
    rotate_left 1
    · (intro wy hSw; (try dsimp only at hSw); go_simp; try with_reducible rfl)
    (try simp only [Act.put])
    refine wpAnyH_ready (rs := [4]) (by kernel_rfl) (by simp) ?_
    refine AllReadyH.cons (o := _) rfl ?_ AllReadyH.nil
    intro K9 hK9
    go_simp
    refine hK9.out _ _ (by trivial) (fun hHeld => ?_)
    clear hK9 K9
    (try simp only [Act.put])
    refine wpAnyH_ready (rs := [6]) (by kernel_rfl) (by simp) ?_
    refine AllReadyH.cons (o := _) rfl ?_ AllReadyH.nil
    intro K9 hK9
    go_simp
    refine (HG _).mono ?_
    rintro r w10 ⟨A', c', rfl, hW', hge, hb10, hA⟩
    (try dsimp only)
    have l10 := later hb10
    have hA2 : A' = A ∨ ∃ j, A' = some ⟨j, 0, none⟩ ∧ w.heap.size ≤ j := hA.imp And.left (fun ⟨j, e, hj⟩ => ⟨j, e, Nat.le_trans (show Below w.heap.size w _ from below_of).size hj⟩)
    clear hA
    refine hK9.out _ _ (by trivial) (fun hHeld => ?_)
    clear hK9 K9
    (try simp only [Act.put])
    obtain ⟨g2, rfl⟩ := hW'.own.isSome (by intro e; have h9 := congrArg List.length e; simp only [List.length_append, List.length_replicate, List.length_nil] at h9; have := Hn.out; omega)
    have q1 : (n : Int) + (kk : Int) ≤ (c' : Int) := by omega
    have q0 : (0 : Int) ≤ (n : Int) + (kk : Int) := by omega
    have q2 : ((n : Int) + (kk : Int)).toNat = n + kk := by omega
    have l8a : Later w8 w10 := ⟨below_of⟩
    have hne : g2 ≠ g := fun e => own_off hW'.own (B w10).1 (by decide) (by rw [e]; rfl)
    have hle := hW'.le
    refine wpAnyH_take (i := 14) (oi := _) (v := ?_) rfl (by kernel_rfl) (by kernel_rfl) (by kernel_rfl) (fun _ _ _ h => h) (Or.inl ⟨by rfl, ?_⟩) (by assumption) ?_
    rotate_left 1
    · (intro wy hSw; (try dsimp only at hSw); go_simp; try with_reducible rfl)
    (try simp only [Act.put])
    refine wpAnyH_take (i := 15) (oi := _) (v := ?_) rfl (by kernel_rfl) (by kernel_rfl) (by kernel_rfl) (fun _ _ _ h => h) (Or.inl ⟨by rfl, ?_⟩) (by assumption) ?_
    rotate_left 1
    · (intro wy hSw; (try dsimp only at hSw); go_simp; try with_reducible rfl)
    (try simp only [Act.put])
    refine wpAnyH_take (i := 16) (oi := _) (v := ?_) rfl (by kernel_rfl) (by kernel_rfl) (by kernel_rfl) (fun _ _ _ h => h) (Or.inl ⟨by rfl, ?_⟩) (by assumption) ?_
    rotate_left 1
    · (intro wy hSw; (try dsimp only at hSw); go_simp; try with_reducible rfl)
    (try simp only [Act.put])
    refine wpAnyH_ready (rs := [17]) (by kernel_rfl) (by simp) ?_
    refine AllReadyH.cons (o := _) rfl ?_ AllReadyH.nil
    intro K9 hK9
    go_simp
    refine hK9.out _ _ (by trivial) (fun hHeld => ?_)
    clear hK9 K9
    (try simp only [Act.put])
    refine wpAnyH_done (by kernel_rfl) ?_ _
    go_upto_region 11 with fail
    refine wp_name ?_
    intro w11 hw11
    have lwa : Later w w10 := lwd.trans l8a
    have B11 := boxed_set B hw11
    have hsG : (g2 = g ∨ A = some ⟨g2, 0, none⟩) ∨ w.heap.size ≤ g2 := by
      rcases hA2 with e | ⟨j, e, hj⟩
      · exact .inl (.inr e.symm)
      · injection e with e; injection e with e; exact .inr (by omega)
    have o2 : Only (fun j => j = g ∨ A = some ⟨j, 0, none⟩) w w11 := by
      rw [← hw11]
      exact (Only.of_below lwa.below).setCell (p := ⟨g, 2, none⟩) (.inl (.inl rfl)) _
    have hW11 : WsAt base w11 (some ⟨g2, 0, none⟩) c' ws := ⟨hle, by rw [← hw11]; exact hW'.own.far (p := ⟨g, 2, none⟩) (fun e => hne (by injection e)) _⟩
    clear hw11 hW'
    have l11 : Later w11 w11 := Later.refl
    have q3 : (n : Int) ≤ (n : Int) + (kk : Int) := by omega
    (refine wp_region_after (by kernel_rfl) (by kernel_rfl) ?_
     repeat (any_goals (first | go_big_quiet_skip | (go_big_quiet_want; go_big_quiet_op; first | go_big_quiet_on | go_big_quiet_call (fail)) | quiet_step (fail) | (refine wpQuiet_step (fun K hK => ?_); go_simp; split <;> (refine hK _ ?_; clear hK K))))
     all_goals (refine wpQuiet_nil ?_; intro _ hw'; obtain ⟨u', hw''⟩ := hw'; subst hw''; obtain ⟨wd, hbd⟩ := u'; simp only [After.val_mk]))
    have le := later hbd
    have o3 := o2.trans (Only.of_below hbd)
    have hWd := hW11.below hbd
    have B12 : wd.heap[g]? = _ := (B11 wd).1
    have h0 : ∀ j, j < kk → (ws ++ List.replicate (c' - ws.length) (0 : Int))[n + j]? = some 0 := fun j hj => by
      rw [List.getElem?_append_right (by have := Hn.out; omega), List.getElem?_replicate, if_pos (by have := Hn.out; omega)]
    obtain ⟨w12, hrun, ho12, hg12, hz12⟩ := run_clear_zero (P := Tryz.prog) (t := 38) (ty := 0) (d := c' - n) under_u64s zero_u64 hWd.own (by rw [List.length_append, List.length_replicate]; omega) (n := n) (k := kk) (by omega) (by omega) h0
    have B12' : w12.heap[g]? = _ := (hg12.block g (blk_lt B12) (fun e => by first | exact hne (Option.some.inj e) | exact hne (Option.some.inj e).symm)).trans B12
    have o4 : Only (fun j => j = g ∨ A = some ⟨j, 0, none⟩) w w12 := o3.trans' (s' := fun j => j = g2) ⟨hg12.os, hg12.tape, hg12.output, hg12.size, fun k hk hne => hg12.block k hk (fun e => by first | exact hne (Option.some.inj e) | exact hne (Option.some.inj e).symm)⟩ (fun k hk e => by
      rw [e] at hk ⊢
      rcases hsG with h1 | h1
      · exact h1
      · omega)
    clear hg12 hz12 o3 o2 hWd hW11 B12 hle
    have z0 := h0 0 (by omega)
    have z1 := h0 1 (by omega)
    rw [Nat.add_zero] at z0
    have k0 := ho12.cell W64.enc z0 (j := 0) rfl
    have k1 := ho12.cell W64.enc z1 (j := 0) rfl
    have f0 := ho12.free (n * 1 + 0)
    have f1 := ho12.free ((n + 1) * 1 + 0)
    simp only [Nat.mul_one, Nat.add_zero] at k0 k1 f0 f1
    go_upto_region 14 with fail
    refine wp_name ?_
    intro w13 hw13
    have o5 : Only (fun j => j = g ∨ A = some ⟨j, 0, none⟩) w w13 := by
      rw [← hw13]
      exact (o4.setCell (p := ⟨g2, n, none⟩) hsG _).setCell (p := ⟨g2, n + 1, none⟩) hsG _
    have B13' := (show w13.heap[g]? = w12.heap[g]? by
      rw [← hw13]
      exact (blk_far (p := ⟨g2, n + 1, none⟩) (fun e => hne e.symm) _).trans (blk_far (p := ⟨g2, n, none⟩) (fun e => hne e.symm) _)).trans B12'
    have s1 := ho12.store W64.enc (k := n) (j := 0) (x' := eh) (u := .int .u64 eh) z0 (by decide) rfl
    have s2 := s1.store W64.enc (k := n + 1) (j := 0) (x := 0) (x' := ei) (u := .int .u64 ei) (by rw [List.getElem?_set, if_neg (by omega)]; exact z1) (by decide) rfl
    simp only [Nat.mul_one, Nat.add_zero] at s2
    rw [hw13] at s2
    have hlen : (ws ++ objW h x).length = n + kk := by rw [List.length_append, HLl.out, Hn.out]
    have hpt : (((ws ++ List.replicate (c' - ws.length) 0).set n eh).set (n + 1) ei) = (ws ++ objW h x) ++ List.replicate (c' - (ws ++ objW h x).length) 0 := by
      have := put_tail (ws := ws) (m := c' - ws.length) (k := kk) (by omega) (by have := Hn.out; omega) eh ei
      rw [← Hn.out] at this
      rw [HL.out, List.length_append, tailZ_len (by omega), ← Hn.out, this, Nat.sub_sub]
    rw [hpt] at s2
    have hW13 : WsAt base w13 (some ⟨g2, 0, none⟩) c' (ws ++ objW h x) := ⟨by rw [hlen]; exact hge, s2⟩
    have hsp13 : SpAt w13 g b lim (.slice (some ⟨g2, 0, none⟩) (ws ++ objW h x).length c') := by rw [hlen]; exact B13'
    clear hw13 hlen hpt s1 ho12 B12' o4 B11 k0 k1 f0 f1 h0 z0 z1 hrun s2
    go_wp2_with fail
    exact bodyPost_ret (results_tmp2 rfl _ _ _) rfl ⟨some ⟨g2, 0, none⟩, c', by rw [← Hn.out]; rfl, hsp13, hW13, hA2, o5⟩
end Go.Proofs.YtjegncmkebbdfaaGreatDoor
