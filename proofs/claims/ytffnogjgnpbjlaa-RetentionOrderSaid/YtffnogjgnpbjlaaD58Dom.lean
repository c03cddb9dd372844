/-
  Contracts of the functions of this seat that each theorem names: what a call returns, and that it writes nothing that was there before. The conditions stand in each theorem.
-/
import Derived.Test.YtffnogjgnpbjlaaD58Link
import Derived.Test.YtffnogjgnpbjlaaGrp5
import Derived.Deep.LoopGhost
set_option linter.unusedSimpArgs false
set_option linter.unusedVariables false
namespace Go.Proofs.Ytffnogjgnpbjlaa
open Go.RowKit
attribute [local go_sem] Oper.semAt_some Instr.makeFunc
attribute [local simp] heap_drew
theorem intTD : ElemT Try.prog 32 3 1 8 := ElemT.mk' (z := .int .i64 0) Try.underlying32 (by kernel_rfl) rfl
/-- What search gives: the tree without dominators, and the lists of predecessors. -/
def SearchP (l : List NodeE) (roots : List IDE) (w : World) (r : Ending) (w' : World) : Prop :=
  ∃ (gt : Nat) (ids : List IDE) (iA : Option Addr) (iC : Nat) (nA : Option Addr) (nC : Nat) (PA : Option Addr) (PC : Nat) (ps : List PrE), r = .returned (.tuple #[.pointer (some ⟨gt, 0, none⟩), .slice PA ids.length PC]) ∧ Hid (Dfs (conL l) roots ids) ∧ w.heap.size ≤ gt ∧
    w'.heap[gt]? = some (.cells #[.slice iA ids.length iC, .slice nA ids.length nC, .slice none 0 0] 69 (0, 0)) ∧ Own IDE.cells 2 46 w.heap.size w' (.slice iA ids.length iC) ids ∧ Own NodeE.cells 5 56 w.heap.size w' (.slice nA ids.length nC) (nodesE l ids) ∧
    PredsSt w.heap.size w' PA PC ps ∧ Hid (ps.length = ids.length ∧ ∀ (i : Nat) (x : PrE), ps[i]? = some x → x.l = (predsL (conL l) roots ids i).map fun n : Nat => (n : Int)) ∧ Below w.heap.size w w'
/-- What dominators gives: the tree. -/
def TreeP (l : List NodeE) (roots : List IDE) (w : World) (r : Ending) (w' : World) : Prop :=
  ∃ (gt : Nat) (ids : List IDE) (d : Nat → Int) (iA : Option Addr) (iC : Nat) (nA : Option Addr) (nC : Nat) (dA : Option Addr) (dC : Nat), r = .returned (.pointer (some ⟨gt, 0, none⟩)) ∧ Hid (TreeOk (conL l) roots ids d) ∧ ids.length ≤ l.length ∧
    w'.heap[gt]? = some (.cells #[.slice iA ids.length iC, .slice nA ids.length nC, .slice dA (ids.length + 1) dC] 69 (0, 0)) ∧ SlAt IDE.cells 2 w' iA ids ∧ SlAt NodeE.cells 5 w' nA (nodesE l ids) ∧ SlAt I64.cells 1 w' dA (dList ids.length d) ∧ Below w.heap.size w w'
theorem start_list {top : Nat} : (List.replicate (top + 1) (-1 : Int)).set top (top : Int) = dList top (startD top) := by
  apply List.ext_getElem?
  intro j
  by_cases hj : j ≤ top
  · rw [dList_get hj, List.getElem?_set]
    by_cases e : top = j
    · subst e; rw [if_pos rfl, if_pos (by simp), startD, if_pos rfl]
    · rw [if_neg e, List.getElem?_replicate, if_pos (by omega), startD, if_neg (fun h => e h.symm)]
  · rw [List.getElem?_eq_none (by rw [List.length_set, List.length_replicate]; omega), List.getElem?_eq_none (by rw [dList_len]; omega)]
theorem pre_at {A : Option Addr} {l : List PrE} {w : World} (h : SlAt PrE.cells 1 w A l) {k : Nat} {x : PrE} (hx : l[k]? = some x) : ∃ b off, A = some ⟨b, off, none⟩ ∧ ∀ u [Later w u], u.cell? ⟨b, off + k, none⟩ = some (.slice x.A x.l.length x.c) := by
  obtain ⟨b, off, e, hlt, hc⟩ := h (by rintro rfl; simp at hx)
  refine ⟨b, off, e, Later.cell (b := w) ?_⟩
  have := hc k x hx 0 _ rfl
  simpa using this
set_option maxRecDepth 100000 in
set_option maxHeartbeats 16000000 in
theorem dominators_of (HSe : ∀ (A : Option Addr) (c : Nat) (l : List NodeE) (RA : Option Addr) (rc : Nat) (roots : List IDE) (w : World), NodesAt w A l → SlAt IDE.cells 2 w RA roots → l.length ≤ 10000 → (∀ n ∈ l, n.fields.length ≤ 10000) → roots.length ≤ 10000 → Calls Try.prog 50 #[.agg #[.slice A l.length c], .slice RA roots.length rc] w (SearchP l roots w))
    (A : Option Addr) (c : Nat) (l : List NodeE) (RA : Option Addr) (rc : Nat) (roots : List IDE) (w : World) (H : NodesAt w A l) (hR : SlAt IDE.cells 2 w RA roots) (hl : l.length ≤ 10000) (hf : ∀ n ∈ l, n.fields.length ≤ 10000) (hr : roots.length ≤ 10000) :
    Calls Try.prog 34 #[.agg #[.slice A l.length c], .slice RA roots.length rc] w (TreeP l roots w) := by
  have HS : ∀ u [Later w u], Calls Try.prog 50 #[.agg #[.slice A l.length c], .slice RA roots.length rc] u (SearchP l roots u) := fun u i => HSe A c l RA rc roots u (H.below i.below) (hR.below i.below) hl hf hr
  go_enter Try.func34, Try.ntmps34
  go_upto_region 1 with fail
  refine wp_name ?_
  intro w0 hw0
  obtain ⟨B0, l0⟩ := box1 hw0
  clear hw0
  go_upto_region 2 with (go_at_call 50; refine (HS _).mono ?_; intro r w1 hh; obtain ⟨gt, ids, iA, iC, nA, nC, PA, PC, ps, rfl, hD, hgt, ht, hoi, hon, hP, hps, hb1⟩ := hh; have l1 := later hb1)
  refine wp_name ?_
  intro w2 hw2
  obtain ⟨B5, l2⟩ := box1 hw2
  clear hw2
  have l22 : Later w2 w2 := Later.refl
  have hb12 : Below w1.heap.size w1 w2 := (l2 w1).below
  obtain ⟨top, htop⟩ : ∃ top, top = ids.length := ⟨_, rfl⟩
  have htl : top ≤ 10000 := by
    rw [htop]
    have := reach_len (l := conL l) hD.out.nodup (fun x hx => firstN_ids.1 ((hD.out.mem x).1 hx).node)
    have e : (conL l).length = l.length := by unfold conL; rw [List.length_map]
    omega
  have Htop := hide htop
  rw [← htop] at ht ⊢
  have ht2 := blk_below ht hb12
  have XT2 := boxed ht2
  clear htop
  go_upto_region 3 with fail
  have hw1z : w1.heap.size < w2.heap.size := boxed_lt B5
  have hgt1 := blk_lt ht
  have c5 : ∀ u [Later w2 u], u.cell? ⟨w1.heap.size, 0, none⟩ = some (.pointer (some ⟨gt, 0, none⟩)) := fun u i => by have := ((B5 u).2 0).1; simpa using this
  have hne5 : gt ≠ w1.heap.size := by omega
  have hw31 : IntKind.i64.wrap ((top : Int) + 1) = ((top + 1 : Nat) : Int) := by rw [IntKind.wrap_i64]; omega
  refine wp_region_held_drew (S := fun z => z.cell? ⟨w1.heap.size, 0, none⟩ = some (.pointer (some ⟨gt, 0, none⟩))) (by kernel_rfl) (c5 _) (fun hHeld => ?_)
  refine wpAnyH_take (i := 0) (oi := _) (v := ?_) rfl (by kernel_rfl) (by kernel_rfl) (by kernel_rfl) (fun _ _ _ h => h) (Or.inl ⟨by rfl, ?_⟩) (by assumption) ?_
  rotate_left 1
  · (intro wy hSw; (try dsimp only at hSw); go_simp; try with_reducible rfl)
  (try simp only [Act.put])
  refine wpAnyH_take (i := 2) (oi := _) (v := ?_) rfl (by kernel_rfl) (by kernel_rfl) (by kernel_rfl) (fun _ _ _ h => h) (Or.inl ⟨by rfl, ?_⟩) (by assumption) ?_
  rotate_left 1
  · (intro wy hSw; (try dsimp only at hSw); go_simp; try with_reducible rfl)
  (try simp only [Act.put])
  refine wpAnyH_take (i := 3) (oi := _) (v := ?_) rfl (by kernel_rfl) (by kernel_rfl) (by kernel_rfl) (fun _ _ _ h => h) (Or.inl ⟨by rfl, ?_⟩) (by assumption) ?_
  rotate_left 1
  · (intro wy hSw; (try dsimp only at hSw); go_simp; try with_reducible rfl)
  (try simp only [Act.put])
  refine wpAnyH_ready (rs := [1]) (by kernel_rfl) (by simp) ?_
  refine AllReadyH.cons (o := _) rfl ?_ AllReadyH.nil
  intro K9 hK9
  go_simp
  refine hK9.out _ _ (by exact c5 _) (fun hHeld => ?_)
  clear hK9 K9
  (try simp only [Act.put])
  refine wpAnyH_ready (rs := [4]) (by kernel_rfl) (by simp) ?_
  refine AllReadyH.cons (o := _) rfl ?_ AllReadyH.nil
  intro K9 hK9
  go_simp
  refine (repeat_any _ 1 (top + 1) _ ?hsr (by omega) (by omega)).mono ?_
  case hsr => exact blk_slAt I64.enc (fr := (0, 0)) (e := 3) (by first | exact heap_alloc_new _ _ | (rw [heap_drew]; exact heap_alloc_new _ _)) [(-1 : Int)] rfl
  rintro r w3 ⟨DA, dC, rfl, hod, hb3⟩
  have l3 := later hb3
  have l33 : Later w3 w3 := Later.refl
  have hb23 : Below w2.heap.size w2 w3 := below_of
  (try dsimp only)
  refine hK9.out _ _ (by exact c5 _) (fun hHeld => ?_)
  clear hK9 K9
  (try simp only [Act.put])
  refine wpAnyH_take (i := 5) (oi := _) (v := ?_) rfl (by kernel_rfl) (by kernel_rfl) (by kernel_rfl) (fun _ _ _ h => h) (Or.inl ⟨by rfl, ?_⟩) (by assumption) ?_
  rotate_left 1
  · (intro wy hSw; (try dsimp only at hSw); go_simp; try with_reducible rfl)
  (try simp only [Act.put])
  refine wpAnyH_take (i := 6) (oi := _) (v := ?_) rfl (by kernel_rfl) (by kernel_rfl) (by kernel_rfl) (fun _ _ _ h => h) (Or.inl ⟨by rfl, ?_⟩) (by assumption) ?_
  rotate_left 1
  · (intro wy hSw; (try dsimp only at hSw); go_simp; try with_reducible rfl)
  (try simp only [Act.put])
  refine wpAnyH_ready (rs := [7]) (by kernel_rfl) (by simp) ?_
  refine AllReadyH.cons (o := _) rfl ?_ AllReadyH.nil
  intro K9 hK9
  go_simp
  refine hK9.out _ _ (by exact (World.cell?_setCell_far _ ⟨gt, 2, none⟩ _ _ hne5).trans (c5 _)) (fun hHeld => ?_)
  clear hK9 K9
  (try simp only [Act.put])
  refine wpAnyH_done (by kernel_rfl) ?_ _
  go_upto_region 4 with fail
  refine wp_name ?_
  intro w4 hw4
  have hodw : Own I64.cells 1 3 w2.heap.size w3 (.slice DA (top + 1) dC) (List.replicate (top + 1) (-1)) := hod.mono (by simp)
  obtain ⟨gD, rfl⟩ := hodw.isSome (by simp)
  have hgD := hodw.base_le
  have ht3 := blk_below ht2 hb23
  have h53 := blk_below (B5 w2).1 hb23
  have ht4 : w4.heap[gt]? = some (.cells #[.slice iA top iC, .slice nA top nC, .slice (some ⟨gD, 0, none⟩) (top + 1) dC] 69 (0, 0)) := by rw [← hw4]; exact (blk_set ht3 2 _).trans (by simp)
  have h54 : w4.heap[w1.heap.size]? = some (.cells #[.pointer (some ⟨gt, 0, none⟩)] 65 (0, 0)) := by rw [← hw4]; exact (blk_far (p := ⟨gt, 2, none⟩) (show w1.heap.size ≠ gt by omega) _).trans h53
  have hod4 : Own I64.cells 1 3 w2.heap.size w4 (.slice (some ⟨gD, 0, none⟩) (top + 1) dC) (List.replicate (top + 1) (-1)) := by rw [← hw4]; exact hodw.far (p := ⟨gt, 2, none⟩) (own_off hodw ht3 (by decide)) _
  have on14 : Only (fun k => k = gt) w1 w4 := by
    rw [← hw4]
    exact Only.setCell (s := fun k => k = gt) ((Only.of_below hb12).trans' (Only.of_below (s := fun k => k = gt) hb23) (fun _ _ h => h)) (.inl rfl) _
  have hb14z := on14.size
  have X4t := boxed ht4
  have X45 := boxed h54
  have l44 : Later w4 w4 := Later.refl
  have hcD : ∀ u [Later w4 u], u.cell? ⟨gD, top, none⟩ = some (.int .i64 (-1)) := Later.cell (by have := hod4.cell I64.enc (k := top) (x := -1) (by rw [List.getElem?_replicate, if_pos (by omega)]) (j := 0) rfl; simpa using this)
  have hfD : w4.frozen? ⟨gD, top, none⟩ = false := hod4.free top
  have htt : (top : Int) < (top : Int) + 1 := by omega
  clear hw4 hod hodw c5 hHeld XT2 B5 hb3
  go_upto_region 5 with fail
  refine wp_name ?_
  intro w5 hw5
  have hod5 : Own I64.cells 1 3 w2.heap.size w5 (.slice (some ⟨gD, 0, none⟩) (top + 1) dC) (dList top (startD top)) := by
    rw [← hw5, ← start_list]
    have := hod4.store I64.enc (k := top) (j := 0) (x := -1) (x' := (top : Int)) (u := .int .i64 top) (by rw [List.getElem?_replicate, if_pos (by omega)]) (by omega) rfl
    simpa using this
  have on15 : Only (fun k => k = gt) w1 w5 := by rw [← hw5]; exact on14.setCell (.inr (by show w1.heap.size ≤ gD; omega)) _
  have ht5 : w5.heap[gt]? = some (.cells #[.slice iA top iC, .slice nA top nC, .slice (some ⟨gD, 0, none⟩) (top + 1) dC] 69 (0, 0)) := by rw [← hw5]; exact (blk_far (p := ⟨gD, top, none⟩) (show gt ≠ gD by omega) _).trans ht4
  have h55 : w5.heap[w1.heap.size]? = some (.cells #[.pointer (some ⟨gt, 0, none⟩)] 65 (0, 0)) := by rw [← hw5]; exact (blk_far (p := ⟨gD, top, none⟩) (show w1.heap.size ≠ gD by omega) _).trans h54
  clear hw5 hod4 hcD hfD X4t X45 ht4 h54 on14 l44
  have HG : ∀ u, Only (fun k => k = gD) w5 u → Only (fun k => k = gt) w1 u ∧ u.heap[gt]? = some (.cells #[.slice iA top iC, .slice nA top nC, .slice (some ⟨gD, 0, none⟩) (top + 1) dC] 69 (0, 0)) ∧ u.heap[w1.heap.size]? = some (.cells #[.pointer (some ⟨gt, 0, none⟩)] 65 (0, 0)) ∧ SlAt PrE.cells 1 u PA ps ∧ ∀ x ∈ ps, SlAt I64.cells 1 u x.A x.l := fun u hu => by
    have on1u : Only (fun k => k = gt) w1 u := on15.trans' hu (fun k hk e => by omega)
    refine ⟨on1u, hu.boxed ht5 (by omega), hu.boxed h55 (by omega), ?_, fun x hx => ?_⟩
    · exact ((on1u.own hP.o (fun g hg e => own_off hP.o ht (by decide) (e ▸ hg))).at_ PrE.enc).2.2
    · exact ((on1u.own (hP.e x hx) (fun g hg e => own_off (hP.e x hx) ht (by decide) (e ▸ hg))).at_ I64.enc).2.2
  have HG := hide HG
  obtain ⟨P, hPd⟩ : ∃ P, P = predsL (conL l) roots ids := ⟨_, rfl⟩
  have hNG : NumG top P := by rw [hPd, Htop.out]; exact hD.out.num
  have hpsP := hide (show ps.length = top ∧ ∀ (i : Nat) (x : PrE), ps[i]? = some x → x.l = (P i).map fun n : Nat => (n : Int) by rw [Htop.out, hPd]; exact hps.out)
  have HPd := hide hPd
  have HNG := hide hNG
  clear hPd hNG hps
  obtain ⟨K, hK⟩ := passes_end HNG.out
  have HK := hide hK
  clear hK
  have hz5 : w1.heap.size ≤ w5.heap.size := on15.size
  go_wp2_with fail
  go_loopg [9] (K + 2) (fun kx cv wr => ∃ (k : Nat) (ch : Bool), cv = .bool ch ∧ Hid (Own I64.cells 1 3 w2.heap.size wr (.slice (some ⟨gD, 0, none⟩) (top + 1) dC) (dList top (passD top P k))) ∧ Hid (ch = false → DomEnd top P (passD top P k)) ∧ Hid (ch = true → k ≤ K ∧ K + 1 < k + kx) ∧ Only (fun k => k = gD) w5 wr)
  case atStart => exact ⟨0, true, rfl, hide hod5, hide (fun h => by cases h), hide (fun _ => ⟨by omega, by omega⟩), Only.refl⟩
  case round =>
    obtain ⟨k, ch, rfl, ho, hend, hkk, honr⟩ := hrel
    cases ch
    · obtain ⟨on1r, htr, h5r, -, -⟩ := HG.out wr honr
      have X5 := boxed h5r
      have lrr : Later wr wr := Later.refl
      have hT := hide (show TreeOk (conL l) roots ids (passD top P k) from ⟨hD.out, by have := hend.out rfl; rw [Htop.out, HPd.out] at this; rw [Htop.out, HPd.out]; exact this⟩)
      have hbe := hide (show Below w.heap.size w wr from (l0 w).below.trans ((hb1.trans (on1r.below (fun k e => by subst e; exact hgt) hb1.size)).mono (l0 w).below.size))
      have hSi := hide ((on1r.own hoi (fun g hg e => own_off hoi ht (by decide) (e ▸ hg))).at_ IDE.enc).2.2
      have hSn := hide ((on1r.own hon (fun g hg e => own_off hon ht (by decide) (e ▸ hg))).at_ NodeE.enc).2.2
      have hSd := hide (ho.out.at_ I64.enc).2.2
      have hlen := hide (show ids.length ≤ l.length by
        have h1 := reach_len (l := conL l) hD.out.nodup (fun x hx => firstN_ids.1 ((hD.out.mem x).1 hx).node)
        have e : (conL l).length = l.length := by unfold conL; rw [List.length_map]
        omega)
      go_wp2_with fail
      go_ret
      exact ⟨gt, ids, passD top P k, iA, iC, nA, nC, some ⟨gD, 0, none⟩, dC, rfl, hT, hlen.out, by rw [← Htop.out]; exact htr, hSi.out, hSn.out, by rw [← Htop.out]; exact hSd.out, hbe.out⟩
    · obtain ⟨hkK, hkx⟩ := hkk.out rfl
      go_wp2_with fail
      go_loopw [9, 10] (fun cv iv wr => ∃ m : Nat, m ≤ top ∧ cv = .bool (changedD top P (passD top P k) m) ∧ iv = .int .i64 ((top : Int) - 1 - (m : Int)) ∧ Hid (Own I64.cells 1 3 w2.heap.size wr (.slice (some ⟨gD, 0, none⟩) (top + 1) dC) (dList top (stepsD top P (passD top P k) m))) ∧ Only (fun k => k = gD) w5 wr) (fun _ iv _ => (intOf iv + 1).toNat)
      case atStart => exact ⟨0, by omega, rfl, by simp, ho, honr⟩
      case round =>
        clear ho honr
        obtain ⟨m, hm, rfl, rfl, ho, honr⟩ := hrel
        obtain ⟨on1r, htr, h5r, hsP, hsx⟩ := HG.out wr honr
        have X5 := boxed h5r
        have XT := boxed htr
        have lrr : Later wr wr := Later.refl
        by_cases hlt : m < top
        · obtain ⟨i, hi⟩ : ∃ i : Nat, (top : Int) - 1 - (m : Int) = (i : Int) := ⟨top - 1 - m, by omega⟩
          have hi' : top - 1 - m = i := by omega
          have hit : i < top := by omega
          rw [hi]
          obtain ⟨D, hDd⟩ : ∃ D, D = stepsD top P (passD top P k) m := ⟨_, rfl⟩
          have hPI := hide (show PassInv top P k m D by rw [hDd]; exact steps_inv HNG.out (pass_inv HNG.out k) m hm)
          rw [← hDd] at ho
          have HDd := hide hDd
          clear hDd
          obtain ⟨x, hx⟩ : ∃ x, ps[i]? = some x := ⟨_, List.getElem?_eq_getElem (by rw [hpsP.out.1]; exact hit)⟩
          have hxl := hide (hpsP.out.2 i x hx)
          have hxs := hsx x (List.mem_of_getElem? hx)
          obtain ⟨bP, oP, rfl, CP⟩ := pre_at hsP hx
          have hSD := (ho.out.at_ I64.enc).2.2
          have hiti : (i : Int) < (top : Int) := by omega
          have hi0 : (0 : Int) ≤ (i : Int) := by omega
          have hxll := hide (show x.l.length = (P i).length by rw [hxl.out, List.length_map])
          have hxm : x.l.length ≤ 9223372036854775807 := by
            have h1 := hP.e x (List.mem_of_getElem? hx)
            have h2 := (h1.at_ I64.enc).2.1
            have h3 := h1.cap_le
            unfold maxLen at h3
            omega
          clear hsx hsP hx
          obtain ⟨w9, rfl⟩ : ∃ x, x = wr := ⟨_, rfl⟩
          go_wp2_with fail
          go_loopw [11, 52] (fun dv jv w3 => ∃ j : Nat, j ≤ x.l.length ∧ dv = .int .i64 (((P i).take j).foldl (meetP top D) (-1)) ∧ jv = .int .i64 j ∧ Below w9.heap.size w9 w3) (fun _ jv _ => x.l.length - (intOf jv).toNat)
          case atStart => exact ⟨0, by omega, by simp, rfl, Below.refl _ _⟩
          case round =>
            obtain ⟨j, hj, rfl, rfl, hb9⟩ := hrel
            have l9 := later hb9
            obtain ⟨R, hR⟩ : ∃ R, R = ((P i).take j).foldl (meetP top D) (-1) := ⟨_, rfl⟩
            rw [← hR]
            have hok := hide (show NewOk top D ((P i).take j) R by rw [hR]; exact newOk_take hPI.out.inv (HNG.out.le i hit) j (by rw [← hxll.out]; exact hj))
            have HR := hide hR
            clear hR
            by_cases hjl : j < x.l.length
            · have hji : (j : Int) < (x.l.length : Int) := by omega
              obtain ⟨p, hp⟩ : ∃ p, (P i)[j]? = some p := ⟨_, List.getElem?_eq_getElem (by rw [← hxll.out]; exact hjl)⟩
              have hpt := HNG.out.le i hit p (List.mem_of_getElem? hp)
              obtain ⟨bx, ox, ex, CX⟩ := int_at hxs (k := j) (x := (p : Int)) (by rw [hxl.out, List.getElem?_map, hp]; rfl)
              rw [ex]
              obtain ⟨bD, oD, eD, CD⟩ := int_at hSD (dList_get hpt)
              injection eD with eD
              injection eD with eD1 eD2
              subst eD1 eD2
              rw [Nat.zero_add] at CD
              have hpi : (p : Int) < (top : Int) + 1 := by omega
              have hp0 : (0 : Int) ≤ (p : Int) := by omega
              have hst := hide (show ((P i).take (j + 1)).foldl (meetP top D) (-1) = meetP top D R p by rw [take_snoc_get hp, List.foldl_append, ← HR.out]; rfl)
              clear hp
              by_cases hdp : D p < 0
              · have hdp' : decide (D p < 0) = true := by simpa using hdp
                have hnx := hide (show ((P i).take (j + 1)).foldl (meetP top D) (-1) = R by rw [hst.out, meetP, if_pos hdp])
                go_wp2_with fail
                go_roundw
                case rel => exact ⟨j + 1, by omega, by rw [hnx.out], by go_num, below_of⟩
                case measure => simp [intOf]; omega
              have hdp' : decide (D p < 0) = false := by simpa using hdp
              by_cases hR0 : R < 0
              · have hR0' : decide (R < 0) = true := by simpa using hR0
                have hnx := hide (show ((P i).take (j + 1)).foldl (meetP top D) (-1) = (p : Int) by rw [hst.out, meetP, if_neg hdp, if_pos hR0])
                go_wp2_with fail
                go_roundw
                case rel => exact ⟨j + 1, by omega, by rw [hnx.out], by go_num, below_of⟩
                case measure => simp [intOf]; omega
              · have hR0' : decide (R < 0) = false := by simpa using hR0
                obtain ⟨z, hz, hzt, hz0⟩ : ∃ z : Nat, R = (z : Int) ∧ z ≤ top ∧ 0 ≤ D z := by
                  rcases hok.out with ⟨e, _⟩ | ⟨z, e, h1, h2, _⟩
                  · omega
                  · exact ⟨z, e, h1, h2⟩
                have hnx := hide (show ((P i).take (j + 1)).foldl (meetP top D) (-1) = ((meetF D (2 * top) z p : Nat) : Int) by rw [hst.out, meetP, if_neg hdp, if_neg hR0, hz, Int.toNat_natCast])
                have HMt : ∀ u [Later w9 u], Calls Try.prog 52 #[.int .i64 (z : Int), .int .i64 (p : Int), .pointer (some ⟨w1.heap.size, 0, none⟩)] u fun r w' => r = .returned (.int .i64 (meetF D (2 * top) z p : Nat)) ∧ Below u.heap.size u w' := fun u i9 =>
                  meet_any top P D hPI.out.inv (by omega) w1.heap.size gt _ _ _ _ u ((X5 u).1) ((XT u).1) (hSD.below i9.below) z p hzt hpt hz0 (by omega)
                subst hz
                clear hok HR
                go_wp2_with (go_at_call 52; refine (HMt _).mono ?_; rintro r w10 ⟨rfl, hb10⟩; have l10 := later hb10)
                go_roundw
                case rel => exact ⟨j + 1, by omega, by rw [hnx.out], by go_num, below_of⟩
                case measure => simp [intOf]; omega
            · have hjj : j = x.l.length := by omega
              have hnew := hide (show R = newD top D (P i) by rw [HR.out, List.take_of_length_le (by rw [← hxll.out]; omega)]; rfl)
              obtain ⟨bD, oD, eD, CD⟩ := int_at hSD (dList_get (d := D) (Nat.le_of_lt hit))
              injection eD with eD
              injection eD with eD1 eD2
              subst eD1 eD2
              rw [Nat.zero_add] at CD
              have hpi : (i : Int) < (top : Int) + 1 := by omega
              have hstep := hide (show stepsD top P (passD top P k) (m + 1) = updN D i R by rw [hnew.out, ← hi', HDd.out]; rfl)
              have hchg := hide (show changedD top P (passD top P k) (m + 1) = (changedD top P (passD top P k) m || decide (R ≠ D i)) by rw [hnew.out, ← hi', HDd.out]; rfl)
              subst hjj
              by_cases hch : R = D i
              · have hch' : (R != D i) = false := by simpa using hch
                have hc2 := hide (show changedD top P (passD top P k) (m + 1) = changedD top P (passD top P k) m by rw [hchg.out]; simp [hch])
                have ho2 := hide (show Own I64.cells 1 3 w2.heap.size wr (.slice (some ⟨gD, 0, none⟩) (top + 1) dC) (dList top (stepsD top P (passD top P k) (m + 1))) by rw [hstep.out, hch, updN_self]; exact ho.out.below hb9)
                clear hch
                go_wp2_with fail
                go_roundw
                case rel => exact ⟨m + 1, by omega, by rw [hc2.out], by congr 1; (first | omega | (push_cast; omega)), ho2, honr.trans (Only.of_below hb9)⟩
                case measure => first | (simp [intOf]; done) | (simp [intOf]; omega)
              · have hch' : (R != D i) = true := by simpa using hch
                have hc2 := hide (show changedD top P (passD top P k) (m + 1) = true by rw [hchg.out]; simp [hch])
                have hoD := ho.out.below hb9
                have hfD := hoD.free i
                have ho2 := hide (show Own I64.cells 1 3 w2.heap.size (wr.setCell ⟨gD, i, none⟩ (.int .i64 R)) (.slice (some ⟨gD, 0, none⟩) (top + 1) dC) (dList top (stepsD top P (passD top P k) (m + 1))) by
                  rw [hstep.out, ← dList_set]
                  have := hoD.store I64.enc (k := i) (j := 0) (x := D i) (x' := R) (u := .int .i64 R) (dList_get (Nat.le_of_lt hit)) (by omega) rfl
                  simpa using this)
                have hon2 := hide (show Only (fun k => k = gD) w5 (wr.setCell ⟨gD, i, none⟩ (.int .i64 R)) from (honr.trans (Only.of_below hb9)).setCell (.inl rfl) _)
                clear hoD hch
                go_wp2_with fail
                go_roundw
                case rel => exact ⟨m + 1, by omega, by rw [hc2.out], by congr 1; (first | omega | (push_cast; omega)), ho2, hon2.out⟩
                case measure => first | (simp [intOf]; done) | (simp [intOf]; omega)
        · have hmt : m = top := by omega
          subst hmt
          have hlt0 : ((m : Int) - 1 - (m : Int)) = -1 := by omega
          rw [hlt0]
          go_wp2_with fail
          go_roundg (gk - 1)
          case measure => omega
          case rel =>
            refine ⟨k + 1, changedD m P (passD m P k) m, rfl, ho, hide (fun h => ?_), hide (fun h => ?_), honr⟩
            · have h1 := pass_exact HNG.out h
              have h2 := (unchanged h).1
              show DomEnd m P (stepsD m P (passD m P k) m)
              rw [h2]; exact h1
            · have h3 : ¬ K ≤ k := fun h4 => by rw [HK.out k h4 m (Nat.le_refl _)] at h; cases h
              omega
end Go.Proofs.Ytffnogjgnpbjlaa
