/-
  Contracts of the functions of this seat that each theorem names: what a call returns, and that it writes nothing that was there before. The conditions stand in each theorem.
-/
import Derived.Test.YtgddapgdeaeggaaC23Cod
namespace Go.Proofs.Ytgddapgdeaeggaa
open Go.RowKit
theorem slAt_gro' {α : Type} {f : α → List Value} {s g : Nat} (he : Enc f s) {w w' : World} {A : Option Addr} {l : List α} (h : SlAt f s w A l) {p : Nat} {L : List StubE} (hT : TabAt w p g L) (hw : w.grownBy w' (some g)) : SlAt f s w' A l := fun hl => by
  obtain ⟨_, es, c, hg, _⟩ := hT
  obtain ⟨b, off, e, hlt, hc⟩ := h hl
  have hne : b ≠ g := by
    rintro rfl
    obtain ⟨x, l', rfl⟩ := List.exists_cons_of_ne_nil hl
    have h0 : 0 < (f x).length := by rw [he.len]; exact he.pos
    have := hc 0 x rfl 0 _ (List.getElem?_eq_getElem h0)
    simp [World.cell?, hg] at this
  have hb : w'.heap[b]? = w.heap[b]? := hw.block b hlt (by intro e; injection e with e; exact hne e)
  refine ⟨b, off, e, Nat.lt_of_lt_of_le hlt hw.size, fun k x hk j u hu => ?_⟩
  rw [← hc k x hk j u hu]
  simp [World.cell?, hb]
theorem TabAt.gro {w w' : World} {p g g' : Nat} {l : List StubE} (h : TabAt w p g l) (hw : w.grownBy w' (some g')) (h1 : p ≠ g') (h2 : g ≠ g') : TabAt w' p g l :=
  h.of_heap (hw.block p (blk_lt h.1) (by intro e; injection e with e; omega)) (hw.block g h.2.lt (by intro e; injection e with e; omega))
theorem slAt_cell {α : Type} {f : α → List Value} {s : Nat} {w : World} {b o : Nat} {l : List α} (h : SlAt f s w (some ⟨b, o, none⟩) l) {k : Nat} {x : α} (hx : l[k]? = some x) {j : Nat} {u : Value} (hu : (f x)[j]? = some u) : w.cell? ⟨b, o + k * s + j, none⟩ = some u := by
  obtain ⟨b', o', e, _, hc⟩ := h (by rintro rfl; simp at hx)
  injection e with e
  injection e with e1 e2
  subst e1 e2
  exact hc k x hx j u hu
/-- Three tables, the list, the bytes. -/
structure Mem (p g pu gu pv gv : Nat) (B : Option Addr) (q : List StubE) (A : Option Addr) (b : List Int) (L Lu Lv : List StubE) (w : World) : Prop where
  t : TabAt w p g L
  u : TabAt w pu gu Lu
  v : TabAt w pv gv Lv
  q : SlAt StubE.cells 12 w B q
  b : SlAt U8.cells 1 w A b
section
variable {p g pu gu pv gv : Nat} {B A : Option Addr} {q L Lu Lv Lu' Lv' : List StubE} {b : List Int} {w w' : World}
theorem Mem.below (h : Mem p g pu gu pv gv B q A b L Lu Lv w) (hb : Below w.heap.size w w') : Mem p g pu gu pv gv B q A b L Lu Lv w' := ⟨h.t.below hb, h.u.below hb, h.v.below hb, h.q.below hb, h.b.below hb⟩
theorem Mem.setV (h : Mem p g pu gu pv gv B q A b L Lu Lv w) (hw : w.grownBy w' (some gv)) (h' : TabAt w' pv gv Lv') (h1 : p ≠ gv) (h2 : g ≠ gv) (h3 : pu ≠ gv) (h4 : gu ≠ gv) : Mem p g pu gu pv gv B q A b L Lu Lv' w' :=
  ⟨h.t.gro hw h1 h2, h.u.gro hw h3 h4, h', slAt_gro' StubE.enc h.q h.v hw, slAt_gro' U8.enc h.b h.v hw⟩
theorem Mem.setU (h : Mem p g pu gu pv gv B q A b L Lu Lv w) (hw : w.grownBy w' (some gu)) (h' : TabAt w' pu gu Lu') (h1 : p ≠ gu) (h2 : g ≠ gu) (h3 : pv ≠ gu) (h4 : gv ≠ gu) : Mem p g pu gu pv gv B q A b L Lu' Lv w' :=
  ⟨h.t.gro hw h1 h2, h', h.v.gro hw h3 h4, slAt_gro' StubE.enc h.q h.u hw, slAt_gro' U8.enc h.b h.u hw⟩
end
theorem drop_rev {q : List StubE} {j : Nat} {e : StubE} (h : q[j]? = some e) : (q.drop (j + 1)).reverse ++ [e] = (q.drop j).reverse := by
  obtain ⟨hj, he⟩ := List.getElem?_eq_some_iff.1 h
  rw [List.drop_eq_getElem_cons hj, he, List.reverse_cons]
theorem rev_add {q : List StubE} (h : Inv q) {j : Nat} {e : StubE} (hx : q[j]? = some e) : addErr (q.drop (j + 1)).reverse e = 0 ∧ addT (q.drop (j + 1)).reverse e = (q.drop j).reverse := by
  have hi : Inv ((q.drop (j + 1)).reverse ++ [e]) := by
    rw [drop_rev hx]
    exact (h.sub (List.drop_sublist j q)).perm (List.reverse_perm _)
  have h0 := inv_mid hi
  exact ⟨h0, by rw [add_cases (hi.sub (List.sublist_append_left _ _)) h0, drop_rev hx]⟩
theorem drop_rem {q : List StubE} (h : Inv q) {j : Nat} {e : StubE} (hx : q[j]? = some e) : chErr (q.drop j) (keyE e) = 0 ∧ remK keyE (q.drop j) (keyE e) = q.drop (j + 1) := by
  obtain ⟨hj, he⟩ := List.getElem?_eq_some_iff.1 hx
  have hd := List.drop_eq_getElem_cons hj
  rw [he] at hd
  have hk := (h.sub (List.drop_sublist j q)).keys
  rw [hd] at hk ⊢
  rw [List.map_cons, List.nodup_cons] at hk
  constructor
  · unfold chErr hasK findK
    simp
  · unfold remK
    rw [List.filter_cons_of_neg (by simp)]
    refine List.filter_eq_self.2 fun y hy => ?_
    have : keyE y ≠ keyE e := fun he => hk.1 (he ▸ List.mem_map_of_mem hy)
    simpa using this
set_option maxRecDepth 100000 in
set_option maxHeartbeats 8000000 in
theorem codec_any (A : Option Addr) (C : Nat) (cs : List CallE) (w : World) (hs : SlAt CallE.cells 14 w A cs) (hl : cs.length ≤ 9223372036854775807) (hcr : ∀ c ∈ cs, RngC c) : Calls Try.prog 9 #[.slice A cs.length C] w fun r w' => r = .returned (.bool true) ∧ Below w.heap.size w w' := by
  have HS : ∀ u [Later w u], SlAt CallE.cells 14 u A cs := fun u i => hs.below i.below
  have hrng := hide (rng_run cs hcr)
  clear hcr
  go_enter Try.func9, Try.ntmps9
  by_cases hlen : (30 : Int) < (cs.length : Int)
  · go_wp2_with (go_at_call 10; refine (awake_any _).mono ?_; rintro r w1 ⟨rfl, hb1⟩; have l1 := later hb1)
    go_ret
    exact ⟨rfl, below_of⟩
  have hcl : cs.length ≤ 30 := by omega
  go_wp2_with (go_at_call 10; refine (awake_any _).mono ?_; rintro r w1 ⟨rfl, hb1⟩; have l1 := later hb1)
  go_wp2_with (go_at_call 16; refine (run_any A C cs _ (HS _) (by omega)).mono ?_; rintro r w2 ⟨p, g, rfl, hp, hg, hT0, hb2⟩; have l2 := later hb2)
  obtain ⟨L, hL⟩ : ∃ L, L = runT cs := ⟨_, rfl⟩
  have hLi : Inv L := by rw [hL]; exact inv_run cs
  have hLl : L.length ≤ 30 := by have := run_len cs; rw [hL]; omega
  have hLr := hide (show ∀ e ∈ L, RngE e by rw [hL]; exact hrng.out)
  rw [← hL] at hT0
  clear hL hrng
  have hve := hide (fun e (he : e ∈ L) => And.intro (hLi.valid e he) (hLr.out e he))
  go_upto_region 9 with (go_at_call 12; refine (list_any p g L _ (hT0.later _) (by omega)).mono ?_; rintro r w3 ⟨q, B, D, hq, rfl, ho3, hb3⟩; have l3 := later hb3)
  have hq3 := (ho3.at_ StubE.enc).2.2
  have hql : q.length ≤ 30 := by rw [hq.out.1.length_eq]; exact hLl
  have hqi := hide (hLi.perm hq.out.1)
  have hqr := hide (fun e (he : e ∈ q) => hLr.out e (hq.out.1.mem_iff.1 he))
  go_upto_region 10 with (go_at_call 26; refine (encode_any p g L _ (hT0.later _) (by omega) hve.out).mono ?_; rintro r w4 ⟨q0, b, Ab, cb, hq4, rfl, hcb, hmb, hs4, hb4⟩; have l4 := later hb4)
  have hbe := hide (show b = encS q by rw [hq4.out.2.2, sortedS_unique hq4.out.2.1 hq.out.2 (hq4.out.1.trans hq.out.1.symm)])
  have hblen : b.length ≤ 3000 := by rw [hbe.out]; have := encS_len hqi.out hqr.out hql; omega
  have hbby := hide (show Bytes b by rw [hbe.out]; exact bytes_encS hqi.out hqr.out hql)
  clear hq4 hLi hve
  go_upto_region 11 with (go_at_call 25; refine (decode_any Ab cb b _ (hs4.later _) hblen hbby.out).mono ?_)
  rintro r w5 ⟨⟨pu, gu, Lu, rfl, hpu, hgu, hTu, hd⟩ | ⟨rfl, hd⟩, hb5⟩
  rotate_left
  · exact absurd (by rw [hbe.out]; exact decOk_enc hqi.out hq.out.2 hqr.out (by omega)) hd.out
  have l5 := later hb5
  obtain rfl : q = Lu := by
    obtain ⟨st, hst⟩ := hd.out.2.2.2.1
    rw [hbe.out, decR_enc hqi.out hqr.out (by omega)] at hst
    injection hst with hst
    injection hst with hst _
  have hT5 := hT0.later w5
  have hz4 : p < w4.heap.size ∧ g < w4.heap.size := ⟨blk_lt (hT0.later w4).1, (hT0.later w4).2.lt⟩
  go_wp2_with (first
    | (go_at_call 12; refine (list_any pu gu q _ (hTu.later _) (by omega)).mono ?_; rintro r w6 ⟨q6, B6, D6, hq6, rfl, ho6, hb6⟩; have l6 := later hb6; obtain rfl : q = q6 := (sortedS_unique hq6.out.2 hq.out.2 hq6.out.1).symm)
    | (go_at_call 15; refine (sameTrue_any B6 D6 B D _ _ ((ho6.later _).at_ StubE.enc).2.2 (hq3.later _) (by omega)).mono ?_; rintro r w7 ⟨rfl, hb7⟩; have l7 := later hb7)
    | (go_at_call 11; refine (new_any _).mono ?_; rintro r w8 ⟨pv, gv, rfl, hpv, hgv, hTv, hb8⟩; have l8 := later hb8))
  have hzu : pu < w5.heap.size ∧ gu < w5.heap.size := ⟨blk_lt hTu.1, hTu.2.lt⟩
  have hz57 : w5.heap.size ≤ w7.heap.size := (show Below w5.heap.size w5 w7 from below_of).size
  have hzv : pv < w8.heap.size ∧ gv < w8.heap.size := ⟨blk_lt hTv.1, hTv.2.lt⟩
  have hzw : w.heap.size ≤ w7.heap.size := (show Below w.heap.size w w7 from below_of).size
  have hzw4 : w.heap.size ≤ w4.heap.size := (show Below w.heap.size w w4 from below_of).size
  have hne := hide (And.intro (show p ≠ gv ∧ g ≠ gv ∧ pu ≠ gv ∧ gu ≠ gv by omega) (show p ≠ gu ∧ g ≠ gu ∧ pv ≠ gu ∧ gv ≠ gu by omega))
  have hM8 : Mem p g pu gu pv gv B q Ab b L q [] w8 := ⟨hT0.later _, hTu.later _, hTv, hq3.later _, hs4.later _⟩
  have hb08 : Below w.heap.size w w8 := below_of
  have hdl := hide (show ([] : List StubE) = (q.drop q.length).reverse by simp)
  rw [hdl.out] at hM8
  clear hT0 hTu hTv hT5 hq3 hs4 ho3
  go_loopw [9] (fun iv wr => ∃ m : Nat, m ≤ q.length ∧ iv = .int .i64 ((m : Int) - 1) ∧ Mem p g pu gu pv gv B q Ab b L q (q.drop m).reverse wr ∧ Below w.heap.size w wr) (fun iv _ => (intOf iv + 1).toNat)
  case atStart => exact ⟨q.length, Nat.le_refl _, by go_num, hM8, hb08⟩
  case round =>
    clear hM8 hb08 l1 l2 l3 l4 l5
    obtain ⟨m, hm, rfl, hM, hbr⟩ := hrel
    have lr := later hbr
    have hzr := hbr.size
    by_cases hm0 : m = 0
    rotate_left
    · obtain ⟨j, rfl⟩ : ∃ j, m = j + 1 := ⟨m - 1, by omega⟩
      have hji : (((j + 1 : Nat) : Int) - 1) = (j : Int) := by omega
      simp only [hji]
      have hj0 : (0 : Int) ≤ (j : Int) := by omega
      obtain ⟨b1, o1, e, hBe, he, C1⟩ := StubE.get hM.q (k := j) (by omega)
      have hra := rev_add hqi.out he
      have HA : ∀ u, TabAt u pv gv (q.drop (j + 1)).reverse → Calls Try.prog 27 #[.pointer (some ⟨pv, 0, none⟩), e.v] u (MutPost u pv gv 0 (q.drop j).reverse) := fun u h => by
        have := add_any pv gv _ e u h (((hqi.out.sub (List.drop_sublist (j + 1) q)).perm (List.reverse_perm _)).ids)
        rw [hra.1, hra.2] at this
        exact this
      subst hBe
      clear he hra
      go_wp2_with (go_at_call 27; refine (HA _ hM.v).mono ?_)
      rintro r w9 ⟨rfl, hT9, hg9⟩
      have hb09 := hbr.trans (grown_belowG hg9 (by omega) hzr)
      have hM9 := hM.setV hg9 hT9 hne.out.1.1 hne.out.1.2.1 hne.out.1.2.2.1 hne.out.1.2.2.2
      go_wp2_with fail
      go_roundw
      case rel => exact ⟨j, by omega, by go_num, hM9, hb09⟩
      case measure => simp [intOf] <;> omega
    · subst hm0
      rw [List.drop_zero] at hM
      have hcb : ∀ u [Later wr u], (convert 55 9 (.slice Ab b.length cb)).run Try.prog u = .ok (.string (strB b)) u := fun u i => conv_bytes Ab cb b u (hM.b.below i.below)
      have hver := hide (fun e (he : e ∈ q.reverse) => And.intro (hqi.out.valid e (List.mem_reverse.1 he)) (hqr.out e (List.mem_reverse.1 he)))
      have hveq := hide (fun e (he : e ∈ q) => And.intro (hqi.out.valid e he) (hqr.out e he))
      have hrl : q.reverse.length ≤ 30 := by rw [List.length_reverse]; exact hql
      go_upto_region 19 with fail
      refine wp_name ?_
      intro wk hwk
      have lk := later_name' hwk (inferInstance : Later wr _)
      have hMk := hM.below (below_of (w := wk))
      clear hwk
      refine wp_region_held_drew (S := fun w' => ∀ b [Later b wk], Later b w') (by kernel_rfl) (by intro b _; infer_instance) (fun hHeld => ?_)
      refine wpAnyH_take (i := 0) (oi := _) (v := ?_) rfl (by kernel_rfl) (by kernel_rfl) (by kernel_rfl) (fun _ _ _ h => h) (Or.inl ⟨by rfl, ?_⟩) (by assumption) ?_
      rotate_left 1
      · (intro wy hSw; (try dsimp only at hSw); go_simp; try with_reducible rfl)
      (try simp only [Act.put, List.setIfInBounds_toArray, List.set_cons_zero, List.set_cons_succ])
      refine wpAnyH_take (i := 3) (oi := _) (v := ?_) rfl (by kernel_rfl) (by kernel_rfl) (by kernel_rfl) (fun _ _ _ h => h) (Or.inl ⟨by rfl, ?_⟩) (by assumption) ?_
      rotate_left 1
      · (intro wy hSw; (try dsimp only at hSw); go_simp; try with_reducible rfl)
      (try simp only [Act.put, List.setIfInBounds_toArray, List.set_cons_zero, List.set_cons_succ])
      refine wpAnyH_take (i := 4) (oi := _) (v := ?_) rfl (by kernel_rfl) (by kernel_rfl) (by kernel_rfl) (fun _ _ _ h => h) (Or.inl ⟨by rfl, ?_⟩) (by assumption) ?_
      rotate_left 1
      · (intro wy hSw; (try dsimp only at hSw); go_simp; try with_reducible rfl)
      (try simp only [Act.put, List.setIfInBounds_toArray, List.set_cons_zero, List.set_cons_succ])
      refine wpAnyH_ready (rs := [1]) (by kernel_rfl) (by simp) ?_
      refine AllReadyH.cons (o := _) rfl (fun K9 hK9 => ?_) AllReadyH.nil
      go_simp
      refine (encode_any pv gv q.reverse _ (hMk.v.later _) (by omega) hver.out).mono ?_
      rintro r w10 ⟨qa0, qa, Aa, ca, hqa, rfl, hca, hma, hsa, hb10⟩
      have l10 := later hb10
      have hqae := hide (show qa = b by rw [hqa.out.2.2, sortedS_unique hqa.out.2.1 hq.out.2 (hqa.out.1.trans (List.reverse_perm q)), hbe.out])
      have hcva : ∀ u [Later w10 u], (convert 55 9 (.slice Aa qa.length ca)).run Try.prog u = .ok (.string (strB b)) u := fun u i => by
        have h := conv_bytes Aa ca qa u (hsa.later u)
        rw [h, hqae.out]
      refine hK9.out _ _ (by intro b _; infer_instance) (fun hHeld => ?_)
      clear hK9 K9
      (try simp only [Act.put, List.setIfInBounds_toArray, List.set_cons_zero, List.set_cons_succ])
      refine wpAnyH_ready (rs := [2]) (by kernel_rfl) (by simp) ?_
      refine AllReadyH.cons (o := _) rfl (fun K9 hK9 => ?_) AllReadyH.nil
      go_simp
      refine hK9.out _ _ (by intro b _; infer_instance) (fun hHeld => ?_)
      clear hK9 K9
      (try simp only [Act.put, List.setIfInBounds_toArray, List.set_cons_zero, List.set_cons_succ])
      refine wpAnyH_take (i := 5) (oi := _) (v := ?_) rfl (by kernel_rfl) (by kernel_rfl) (by kernel_rfl) (fun _ _ _ h => h) (Or.inl ⟨by rfl, ?_⟩) (by assumption) ?_
      rotate_left 1
      · (intro wy hSw; (try dsimp only at hSw); go_simp; try with_reducible rfl)
      (try simp only [Act.put, List.setIfInBounds_toArray, List.set_cons_zero, List.set_cons_succ])
      refine wpAnyH_take (i := 6) (oi := _) (v := ?_) rfl (by kernel_rfl) (by kernel_rfl) (by kernel_rfl) (fun _ _ _ h => h) (Or.inl ⟨by rfl, ?_⟩) (by assumption) ?_
      rotate_left 1
      · (intro wy hSw; (try dsimp only at hSw); go_simp; try with_reducible rfl)
      (try simp only [Act.put, List.setIfInBounds_toArray, List.set_cons_zero, List.set_cons_succ])
      refine wpAnyH_take (i := 7) (oi := _) (v := ?_) rfl (by kernel_rfl) (by kernel_rfl) (by kernel_rfl) (fun _ _ _ h => h) (Or.inl ⟨by rfl, ?_⟩) (by assumption) ?_
      rotate_left 1
      · (intro wy hSw; (try dsimp only at hSw); go_simp; try with_reducible rfl)
      (try simp only [Act.put, List.setIfInBounds_toArray, List.set_cons_zero, List.set_cons_succ])
      refine wpAnyH_take (i := 10) (oi := _) (v := ?_) rfl (by kernel_rfl) (by kernel_rfl) (by kernel_rfl) (fun _ _ _ h => h) (Or.inl ⟨by rfl, ?_⟩) (by assumption) ?_
      rotate_left 1
      · (intro wy hSw; (try dsimp only at hSw); go_simp; try with_reducible rfl)
      (try simp only [Act.put, List.setIfInBounds_toArray, List.set_cons_zero, List.set_cons_succ])
      refine wpAnyH_take (i := 11) (oi := _) (v := ?_) rfl (by kernel_rfl) (by kernel_rfl) (by kernel_rfl) (fun _ _ _ h => h) (Or.inl ⟨by rfl, ?_⟩) (by assumption) ?_
      rotate_left 1
      · (intro wy hSw; (try dsimp only at hSw); go_simp; try with_reducible rfl)
      (try simp only [Act.put, List.setIfInBounds_toArray, List.set_cons_zero, List.set_cons_succ])
      refine wpAnyH_ready (rs := [8]) (by kernel_rfl) (by simp) ?_
      refine AllReadyH.cons (o := _) rfl (fun K9 hK9 => ?_) AllReadyH.nil
      go_simp
      refine (encode_any pu gu q _ (hMk.u.later _) (by omega) hveq.out).mono ?_
      rintro r w11 ⟨qc0, qc, Ac, cc, hqc, rfl, hcc, hmc, hsc, hb11⟩
      have l11 := later hb11
      have hqce := hide (show qc = b by rw [hqc.out.2.2, sortedS_unique hqc.out.2.1 hq.out.2 hqc.out.1, hbe.out])
      have hcvc : ∀ u [Later w11 u], (convert 55 9 (.slice Ac qc.length cc)).run Try.prog u = .ok (.string (strB b)) u := fun u i => by
        have h := conv_bytes Ac cc qc u (hsc.later u)
        rw [h, hqce.out]
      refine hK9.out _ _ (by intro b _; infer_instance) (fun hHeld => ?_)
      clear hK9 K9
      (try simp only [Act.put, List.setIfInBounds_toArray, List.set_cons_zero, List.set_cons_succ])
      refine wpAnyH_ready (rs := [9]) (by kernel_rfl) (by simp) ?_
      refine AllReadyH.cons (o := _) rfl (fun K9 hK9 => ?_) AllReadyH.nil
      go_simp
      refine hK9.out _ _ (by intro b _; infer_instance) (fun hHeld => ?_)
      clear hK9 K9
      (try simp only [Act.put, List.setIfInBounds_toArray, List.set_cons_zero, List.set_cons_succ])
      refine wpAnyH_take (i := 12) (oi := _) (v := ?_) rfl (by kernel_rfl) (by kernel_rfl) (by kernel_rfl) (fun _ _ _ h => h) (Or.inl ⟨by rfl, ?_⟩) (by assumption) ?_
      rotate_left 1
      · (intro wy hSw; (try dsimp only at hSw); go_simp; try with_reducible rfl)
      (try simp only [Act.put, List.setIfInBounds_toArray, List.set_cons_zero, List.set_cons_succ])
      refine wpAnyH_take (i := 13) (oi := _) (v := ?_) rfl (by kernel_rfl) (by kernel_rfl) (by kernel_rfl) (fun _ _ _ h => h) (Or.inl ⟨by rfl, ?_⟩) (by assumption) ?_
      rotate_left 1
      · (intro wy hSw; (try dsimp only at hSw); go_simp; try with_reducible rfl)
      (try simp only [Act.put, List.setIfInBounds_toArray, List.set_cons_zero, List.set_cons_succ])
      refine wpAnyH_done (by kernel_rfl) ?_ _
      have hM11 := hMk.below (below_of (w := w11))
      have hb011 : Below w.heap.size w w11 := below_of
      have hdz := hide (show q = q.drop 0 from rfl)
      clear hcb hM hMk hcva hcvc
      rw [hdz.out] at hM11
      have hM11' : Mem p g pu gu pv gv B q Ab b L (q.drop 0) q.reverse w11 := ⟨hM11.t, hM11.u, hM11.v, hM11.q, hM11.b⟩
      clear hM11
      go_wp2_with fail
      go_loopw [10] (fun iv wr => ∃ i : Nat, i ≤ q.length ∧ iv = .int .i64 i ∧ Mem p g pu gu pv gv B q Ab b L (q.drop i) q.reverse wr ∧ Below w.heap.size w wr) (fun iv _ => q.length - (intOf iv).toNat)
      case atStart => exact ⟨0, by omega, rfl, hM11', hb011⟩
      case round =>
        clear hM11' hb011
        obtain ⟨i, hi, rfl, hM, hbr⟩ := hrel
        have lr := later hbr
        have hzr := hbr.size
        by_cases hlt : i < q.length
        · obtain ⟨b1, o1, e, hBe, he, C1⟩ := StubE.get hM.q (k := i) hlt
          have hdr := drop_rem hqi.out he
          have HR : ∀ u, TabAt u pu gu (q.drop i) → Calls Try.prog 28 #[.pointer (some ⟨pu, 0, none⟩), .int .i64 e.owner, .int .u64 e.number] u (MutPost u pu gu 0 (q.drop (i + 1))) := fun u h => by
            have := remove_any pu gu _ (keyE e) u h
            rw [hdr.1, hdr.2] at this
            exact this
          subst hBe
          have he' := hide he
          clear hdr C1 he
          have hiq : (i : Int) < (q.length : Int) := by omega
          have hi0 : (0 : Int) ≤ (i : Int) := by omega
          have r0 : wr.cell? ⟨b1, o1 + i * 12, none⟩ = some (.int .i64 e.owner) := slAt_cell hM.q he'.out (j := 0) rfl
          have r1 : wr.cell? ⟨b1, o1 + i * 12 + 1, none⟩ = some (.int .u64 e.number) := slAt_cell hM.q he'.out (j := 1) rfl
          go_upto_region 24 with fail
          refine wp_region_held_drew (S := fun w' => w'.cell? ⟨b1, o1 + i * 12, none⟩ = some (.int .i64 e.owner) ∧ w'.cell? ⟨b1, o1 + i * 12 + 1, none⟩ = some (.int .u64 e.number)) (by kernel_rfl) ⟨r0, r1⟩ (fun hHeld => ?_)
          refine wpAnyH_take (i := 0) (oi := _) (v := ?_) rfl (by kernel_rfl) (by kernel_rfl) (by kernel_rfl) (fun _ _ _ h => h) (Or.inl ⟨by rfl, ?_⟩) (by assumption) ?_
          rotate_left 1
          · (intro wy hSw; (try dsimp only at hSw); go_simp; try with_reducible rfl)
          (try simp only [Act.put, List.setIfInBounds_toArray, List.set_cons_zero, List.set_cons_succ])
          refine wpAnyH_take (i := 1) (oi := _) (v := ?_) rfl (by kernel_rfl) (by kernel_rfl) (by kernel_rfl) (fun _ _ _ h => h) (Or.inl ⟨by rfl, ?_⟩) (by assumption) ?_
          rotate_left 1
          · (intro wy hSw; (try dsimp only at hSw); go_simp; try with_reducible rfl)
          (try simp only [Act.put, List.setIfInBounds_toArray, List.set_cons_zero, List.set_cons_succ])
          refine wpAnyH_take (i := 2) (oi := _) (v := ?_) rfl (by kernel_rfl) (by kernel_rfl) (by kernel_rfl) (fun _ _ _ h => h) (Or.inl ⟨by rfl, ?_⟩) (by assumption) ?_
          rotate_left 1
          · (intro wy hSw; (try dsimp only at hSw); go_simp; try with_reducible rfl)
          (try simp only [Act.put, List.setIfInBounds_toArray, List.set_cons_zero, List.set_cons_succ])
          refine wpAnyH_take (i := 3) (oi := _) (v := ?_) rfl (by kernel_rfl) (by kernel_rfl) (by kernel_rfl) (fun _ _ _ h => h) (Or.inl ⟨by rfl, ?_⟩) (by assumption) ?_
          rotate_left 1
          · (intro wy hSw; (try dsimp only at hSw); go_simp; try with_reducible rfl)
          (try simp only [Act.put, List.setIfInBounds_toArray, List.set_cons_zero, List.set_cons_succ])
          refine wpAnyH_take (i := 4) (oi := _) (v := ?_) rfl (by kernel_rfl) (by kernel_rfl) (by kernel_rfl) (fun _ _ _ h => h) (Or.inl ⟨by rfl, ?_⟩) (by assumption) ?_
          rotate_left 1
          · (intro wy hSw; (try dsimp only at hSw); go_simp; try with_reducible rfl)
          (try simp only [Act.put, List.setIfInBounds_toArray, List.set_cons_zero, List.set_cons_succ])
          refine wpAnyH_take (i := 5) (oi := _) (v := ?_) rfl (by kernel_rfl) (by kernel_rfl) (by kernel_rfl) (fun _ _ _ h => h) (Or.inl ⟨by rfl, ?_⟩) (by assumption) ?_
          rotate_left 1
          · (intro wy hSw; (try dsimp only at hSw); go_simp; try with_reducible rfl)
          (try simp only [Act.put, List.setIfInBounds_toArray, List.set_cons_zero, List.set_cons_succ])
          refine wpAnyH_take (i := 6) (oi := _) (v := ?_) rfl (by kernel_rfl) (by kernel_rfl) (by kernel_rfl) (fun _ _ _ h => h) (Or.inl ⟨by rfl, ?_⟩) (by assumption) ?_
          rotate_left 1
          · (intro wy hSw; (try dsimp only at hSw); go_simp; try with_reducible rfl)
          (try simp only [Act.put, List.setIfInBounds_toArray, List.set_cons_zero, List.set_cons_succ])
          refine wpAnyH_take (i := 7) (oi := _) (v := ?_) rfl (by kernel_rfl) (by kernel_rfl) (by kernel_rfl) (fun _ _ _ h => h) (Or.inl ⟨by rfl, ?_⟩) (by assumption) ?_
          rotate_left 1
          · (intro wy hSw; (try dsimp only at hSw); go_simp; try with_reducible rfl)
          (try simp only [Act.put, List.setIfInBounds_toArray, List.set_cons_zero, List.set_cons_succ])
          refine wpAnyH_take (i := 8) (oi := _) (v := ?_) rfl (by kernel_rfl) (by kernel_rfl) (by kernel_rfl) (fun _ _ _ h => h) (Or.inl ⟨by rfl, ?_⟩) (by assumption) ?_
          rotate_left 1
          · (intro wy hSw; (try dsimp only at hSw); go_simp; try with_reducible rfl)
          (try simp only [Act.put, List.setIfInBounds_toArray, List.set_cons_zero, List.set_cons_succ])
          refine wpAnyH_take (i := 9) (oi := _) (v := ?_) rfl (by kernel_rfl) (by kernel_rfl) (by kernel_rfl) (fun _ _ _ h => h) (Or.inl ⟨by rfl, ?_⟩) (by assumption) ?_
          rotate_left 1
          · (intro wy hSw; (try dsimp only at hSw); go_simp; try with_reducible rfl)
          (try simp only [Act.put, List.setIfInBounds_toArray, List.set_cons_zero, List.set_cons_succ])
          refine wpAnyH_take (i := 10) (oi := _) (v := ?_) rfl (by kernel_rfl) (by kernel_rfl) (by kernel_rfl) (fun _ _ _ h => h) (Or.inl ⟨by rfl, ?_⟩) (by assumption) ?_
          rotate_left 1
          · (intro wy hSw; (try dsimp only at hSw); go_simp; try with_reducible rfl)
          (try simp only [Act.put, List.setIfInBounds_toArray, List.set_cons_zero, List.set_cons_succ])
          refine wpAnyH_ready (rs := [11]) (by kernel_rfl) (by simp) ?_
          refine AllReadyH.cons (o := _) rfl (fun K9 hK9 => ?_) AllReadyH.nil
          go_simp
          refine (HR _ (hM.u.below (Below.refl _ _).drew)).mono ?_
          rintro r w12 ⟨rfl, hT12, hg12⟩
          have hg12' : wr.grownBy w12 (some gu) := by
            obtain ⟨a1, a2, a3, a4, a5⟩ := hg12
            exact ⟨a1, a2, a3, a4, a5⟩
          have hb012 := hbr.trans (grown_belowG hg12' (by omega) hzr)
          have hM12 := hM.setU hg12' hT12 hne.out.2.1 hne.out.2.2.1 hne.out.2.2.2.1 hne.out.2.2.2.2
          have t0 : w12.cell? ⟨b1, o1 + i * 12, none⟩ = some (.int .i64 e.owner) := slAt_cell hM12.q he'.out (j := 0) rfl
          have t1 : w12.cell? ⟨b1, o1 + i * 12 + 1, none⟩ = some (.int .u64 e.number) := slAt_cell hM12.q he'.out (j := 1) rfl
          refine hK9.out _ _ (by exact ⟨t0, t1⟩) (fun hHeld => ?_)
          clear hK9 K9
          (try simp only [Act.put, List.setIfInBounds_toArray, List.set_cons_zero, List.set_cons_succ])
          refine wpAnyH_take (i := 12) (oi := _) (v := ?_) rfl (by kernel_rfl) (by kernel_rfl) (by kernel_rfl) (fun _ _ _ h => h) (Or.inl ⟨by rfl, ?_⟩) (by assumption) ?_
          rotate_left 1
          · (intro wy hSw; (try dsimp only at hSw); go_simp; try with_reducible rfl)
          (try simp only [Act.put, List.setIfInBounds_toArray, List.set_cons_zero, List.set_cons_succ])
          refine wpAnyH_done (by kernel_rfl) ?_ _
          go_wp2_with fail
          go_roundw
          case rel => exact ⟨i + 1, by omega, by go_num, hM12, hb012⟩
          case measure => simp [intOf]; omega
        · have hk' : i = q.length := by omega
          subst hk'
          rw [List.drop_length] at hM
          have hMq := hM.q
          have l12 : Later wr wr := Later.refl
          go_wp2_with (first
            | (go_at_call 12; refine (list_any pu gu [] _ (hM.u.later _) (by simp)).mono ?_; rintro r w13 ⟨q13, B13, D13, hq13, rfl, ho13, hb13⟩; have l13 := later hb13; obtain rfl : q13 = [] := List.perm_nil.1 hq13.out.1)
            | (go_at_call 12; refine (list_any p g L _ (hM.t.later _) (by omega)).mono ?_; rintro r w14 ⟨q14, B14, D14, hq14, rfl, ho14, hb14⟩; have l14 := later hb14; obtain rfl : q = q14 := (sortedS_unique hq14.out.2 hq.out.2 (hq14.out.1.trans hq.out.1.symm)).symm)
            | (go_at_call 15; refine (sameTrue_any B14 D14 B D _ _ ((ho14.later _).at_ StubE.enc).2.2 (hMq.later _) (by omega)).mono ?_; rintro r w15 ⟨rfl, hb15⟩; have l15 := later hb15))
          go_ret
          exact ⟨rfl, below_of⟩
end Go.Proofs.Ytgddapgdeaeggaa
