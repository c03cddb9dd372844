/-
  retention.Sizes. Conditions: lengths up to 10000.
-/
import Derived.Test.YtffnogjgnpbjlaaD58Doms
import Derived.Test.YtffnogjgnpbjlaaGrp1
set_option linter.unusedSimpArgs false
set_option linter.unusedVariables false
namespace Go.Proofs.Ytffnogjgnpbjlaa
open Go.RowKit
attribute [local go_sem] Oper.semAt_some
attribute [local simp] heap_drew
theorem idTZ : ElemT Try.prog 25 46 2 16 := ElemT.mk' (z := .agg #[.int .i64 0, .int .i64 0]) Try.underlying25 (by kernel_rfl) rfl
theorem intTZ : ElemT Try.prog 32 3 1 8 := ElemT.mk' (z := .int .i64 0) Try.underlying32 (by kernel_rfl) rfl
theorem sum_bnd {M : Int} : ∀ {l : List Int}, (∀ x ∈ l, 0 ≤ x ∧ x ≤ M) → 0 ≤ l.sum ∧ l.sum ≤ (l.length : Int) * M
  | [], _ => by simp
  | x :: l, h => by
    have h1 := sum_bnd (l := l) fun y hy => h y (List.mem_cons_of_mem _ hy)
    have h2 := h x List.mem_cons_self
    rw [List.sum_cons, List.length_cons, Int.natCast_add, Int.add_mul]
    simp only [Int.natCast_one, Int.one_mul]
    omega
theorem sum_bnd2 {M : Int} {l : List Int} {n : Nat} (h : ∀ x ∈ l, 0 ≤ x ∧ x ≤ M) (hl : l.length ≤ n) (hM : 0 ≤ M) : 0 ≤ l.sum ∧ l.sum ≤ (n : Int) * M := by
  have h1 := sum_bnd h
  have h2 : (l.length : Int) * M ≤ (n : Int) * M := Int.mul_le_mul_of_nonneg_right (by omega) hM
  omega
theorem wAt_bnd {L : List NodeC} (hf : ∀ n ∈ L, n.fields.length ≤ 10000) (ids : List IDE) (v : Nat) : 0 ≤ wAt L ids v ∧ wAt L ids v ≤ 10002 := by
  unfold wAt wordsI
  split
  · rename_i n hn
    have := hf n (firstN_some hn).1
    unfold wordsN
    omega
  · omega
section
variable {top : Nat} {P : Nat → List Nat} {d : Nat → Int} {w : Nat → Int}
theorem szD_bnd (hw : ∀ v, 0 ≤ w v ∧ w v ≤ 10002) (ht : top ≤ 10000) (j : Nat) : 0 ≤ szD top d w j ∧ szD top d w j ≤ 100020000 := by
  unfold szD
  have := sum_bnd2 (M := 10002) (n := 10000) (l := (under top d j).map w) (fun x hx => by obtain ⟨v, _, rfl⟩ := List.mem_map.1 hx; exact hw v) (by
    rw [List.length_map]
    refine Nat.le_trans (List.length_filter_le _ _) ?_
    rw [List.length_range]; exact ht) (by omega)
  omega
theorem accD_bnd (hw : ∀ v, 0 ≤ w v ∧ w v ≤ 10002) (ht : top ≤ 10000) {i : Nat} (hi : i ≤ top) (j : Nat) : 0 ≤ accD top d w i j ∧ accD top d w i j ≤ 1000300000000 := by
  unfold accD
  have h1 := sum_bnd2 (M := 100020000) (n := 10000) (l := (kids i d j).map (szD top d w)) (fun x hx => by obtain ⟨v, _, rfl⟩ := List.mem_map.1 hx; exact szD_bnd hw ht v) (by
    rw [List.length_map]
    refine Nat.le_trans (List.length_filter_le _ _) ?_
    rw [List.length_range]; omega) (by omega)
  have h2 := hw j
  split <;> omega
noncomputable def accL (top : Nat) (d : Nat → Int) (w : Nat → Int) (k : Nat) : List Int := (List.range (top + 1)).map (accD top d w k)
theorem accL_len {k : Nat} : (accL top d w k).length = top + 1 := by simp [accL]
theorem accL_get {k j : Nat} (h : j ≤ top) : (accL top d w k)[j]? = some (accD top d w k j) := by
  unfold accL
  rw [List.getElem?_map, List.getElem?_range (by omega)]; rfl
theorem accL_zero : accL top d w 0 = List.replicate (top + 1) 0 := by
  apply List.ext_getElem?
  intro j
  by_cases hj : j ≤ top
  · rw [accL_get hj, List.getElem?_replicate, if_pos (by omega), DomEnd.acc_zero]
  · rw [List.getElem?_eq_none (by rw [accL_len]; omega), List.getElem?_eq_none (by simp; omega)]
theorem accM_self {k : Nat} {s : Int} (h : k ≤ top) : ((accL top d w k).set k s)[k]? = some s := by rw [List.getElem?_set, if_pos rfl, if_pos (by rw [accL_len]; omega)]
theorem accM_other {k u : Nat} {s : Int} (h : u ≤ top) (hn : k ≠ u) : ((accL top d w k).set k s)[u]? = some (accD top d w k u) := by rw [List.getElem?_set, if_neg hn, accL_get h]
theorem DomEnd.accL_succ (h : DomEnd top P d) {k u : Nat} (hk : k < top) (hu : d k = (u : Int)) (hut : u ≤ top) : ((accL top d w k).set k (szD top d w k)).set u (accD top d w k u + szD top d w k) = accL top d w (k + 1) := by
  obtain ⟨u', e, h1, h2⟩ := h.next hk
  have : u' = u := by omega
  subst this
  apply List.ext_getElem?
  intro j
  by_cases hj : j ≤ top
  · rw [accL_get hj, h.acc_succ hk, List.getElem?_set, List.length_set, accL_len]
    by_cases e1 : u' = j
    · subst e1
      rw [if_pos rfl, if_pos (by omega), if_neg (by omega), if_pos hu]
    · rw [if_neg e1, List.getElem?_set, accL_len]
      by_cases e2 : k = j
      · subst e2; rw [if_pos rfl, if_pos (by omega), if_pos rfl]
      · rw [if_neg e2, if_neg (fun e => e2 e.symm), if_neg (by omega), accL_get hj]
  · rw [List.getElem?_eq_none (by rw [List.length_set, List.length_set, accL_len]; omega), List.getElem?_eq_none (by rw [accL_len]; omega)]
end
theorem zeros_own {B g n : Nat} {w : World} (hg : w.heap[g]? = some (.cells (rowR 0 n).toArray 3 (0, 0))) (hB : B ≤ g) (hn : n ≤ 1000000) : Own I64.cells 1 3 B w (.slice (some ⟨g, 0, none⟩) n n) (List.replicate n 0) := by
  have hf : (List.replicate n (0 : Int)).flatMap I64.cells = rowR 0 n := by
    rw [rowR_zero]
    clear hg hn
    induction n with
    | zero => rfl
    | succ n ih => rw [List.replicate_succ, List.flatMap_cons, ih, List.replicate_succ]; rfl
  unfold Own World.ownsRow
  rw [hf, List.length_replicate]
  have hr : (rowR 0 n).length = n := by rw [rowR_zero]; simp
  refine ⟨by rw [hr, Nat.mul_one], .inr ⟨g, n, _, rfl, hB, hg, Nat.le_refl _, by unfold maxLen; omega, by simp [hr], ?_⟩⟩
  rw [Nat.mul_one, List.take_of_length_le (by simp [hr])]
set_option maxHeartbeats 2000000 in
theorem words_any (n : NodeE) (w : World) (hl : n.fields.length ≤ 10000) : Calls Try.prog 38 #[n.v] w fun r w' => r = .returned (.int .i64 (wordsN n.con)) ∧ Below w.heap.size w w' := by
  obtain ⟨m1, m2, mk, mc, mA, mp, mf⟩ := n
  obtain ⟨s, hs⟩ : ∃ s, s = wordsN (NodeE.con ⟨m1, m2, mk, mc, mA, mp, mf⟩) := ⟨_, rfl⟩
  have hS := hide (show s = 2 + max 2 (mf.length : Int) by rw [hs]; simp [wordsN, NodeE.con])
  rw [← hs]
  dsimp only at hl
  clear hs
  dsimp only [NodeE.v]
  go_enter Try.func38, Try.ntmps38
  go_upto_region 1 with fail
  refine wp_name ?_
  intro w1 hw1
  obtain ⟨B0, l1⟩ := box1 hw1
  clear hw1
  go_wp2_with fail
  go_ret
  exact ⟨ret_int hS.out.symm, below_of⟩
/-- What Sizes answers. -/
def SizP (L : List NodeC) (roots : List IDE) (w : World) (r : Ending) (w' : World) : Prop :=
  ∃ (q : List IDE) (s : List Int) (A : Option Addr) (c : Nat) (B : Option Addr) (e : Nat), r = .returned (.tuple #[.slice A q.length c, .slice B q.length e]) ∧ Hid (ReachL L roots q ∧ SizesL L roots q s ∧ ∃ ids d, TreeOk L roots ids d) ∧ Own IDE.cells 2 46 w.heap.size w' (.slice A q.length c) q ∧ Own I64.cells 1 3 w.heap.size w' (.slice B q.length e) s ∧ Apart (.slice A q.length c) (.slice B q.length e) ∧ Below w.heap.size w w'
theorem TreeOk.sizesL {L : List NodeC} {roots ids : List IDE} {d : Nat → Int} (T : TreeOk L roots ids d) {q : List Nat} (h : OrdL ids q) : SizesL L roots (q.map fun i => ids.getD i ⟨0, 0⟩) (q.map fun i => accD ids.length d (wAt L ids) ids.length i) := by
  refine ⟨by simp, fun k y hk => ?_⟩
  rw [List.getElem?_map] at hk ⊢
  obtain ⟨i, hi, rfl⟩ := Option.map_eq_some_iff.1 hk
  have hl := h.lt (List.mem_of_getElem? hi)
  refine ⟨_, by rw [hi]; rfl, ?_⟩
  show SizeP L roots _ (accD ids.length d (wAt L ids) ids.length i)
  rw [T.dend.acc_end hl]
  exact T.size (idsAt_get hl)
/-- What f says of the first m numbers. -/
def ordZ (f : Nat → Int) (q : List Nat) (m : Nat) : List Int := (q.take m).map f
theorem ordZ_succ {f : Nat → Int} {q : List Nat} {m i : Nat} (h : q[m]? = some i) : ordZ f q (m + 1) = ordZ f q m ++ [f i] := by
  unfold ordZ
  rw [take_snoc_get h, List.map_append]; rfl
theorem ordZ_len {f : Nat → Int} {q : List Nat} {m : Nat} (h : m ≤ q.length) : (ordZ f q m).length = m := by unfold ordZ; rw [List.length_map, List.length_take]; omega
theorem ordZ_all {f : Nat → Int} {q : List Nat} : ordZ f q q.length = q.map f := by unfold ordZ; rw [List.take_length]
set_option maxRecDepth 100000 in
set_option maxHeartbeats 8000000 in
theorem sizes_any (A : Option Addr) (c : Nat) (l : List NodeE) (RA : Option Addr) (rc : Nat) (roots : List IDE) (w : World) (H : NodesAt w A l) (hR : SlAt IDE.cells 2 w RA roots) (hl : l.length ≤ 10000) (hf : ∀ n ∈ l, n.fields.length ≤ 10000) (hr : roots.length ≤ 10000) :
    Calls Try.prog 15 #[.agg #[.slice A l.length c], .slice RA roots.length rc] w (SizP (conL l) roots w) := by
  have HT : ∀ u [Later w u], Calls Try.prog 34 #[.agg #[.slice A l.length c], .slice RA roots.length rc] u (TreeP l roots u) := fun u i => dominators_any A c l RA rc roots u (H.below i.below) (hR.below i.below) hl hf hr
  go_enter Try.func15, Try.ntmps15
  go_upto_region 1 with fail
  refine wp_name ?_
  intro w1 hw1
  obtain ⟨B0, l1⟩ := box1 hw1
  clear hw1
  go_upto_region 2 with (go_at_call 34; refine (HT _).mono ?_; intro r w2 hh; obtain ⟨gt, ids, d, iA, iC, nA, nC, dA, dC, rfl, hT, hil, ht, hSi, hSn, hSd, hb2⟩ := hh; have l2 := later hb2)
  have XT := boxed ht
  have l22 : Later w2 w2 := Later.refl
  have hmk : ∀ u : World, (Instr.makeSlice 32 (.int .i64 ((ids.length : Int) + 1)) (.int .i64 ((ids.length : Int) + 1))).run Try.prog u = .ok (.slice (some ⟨u.heap.size, 0, none⟩) (ids.length + 1) (ids.length + 1)) (u.alloc (.cells (rowR 0 (ids.length + 1)).toArray 3)) := fun u => by
    have := make_ints u (ids.length + 1) (by omega)
    simpa only [Int.natCast_add, Int.natCast_one] using this
  go_upto_region 3 with fail
  refine wp_name ?_
  intro w3 hw3
  have h3g : w3.heap[w2.heap.size]? = some (.cells (rowR 0 (ids.length + 1)).toArray 3 (0, 0)) := (by rw [← hw3]; simp only [heap_alloc_if, World.size_alloc]; repeat (first | rw [if_pos trivial] | rw [if_neg (by omega)] | rw [if_pos (by omega)]); try rfl)
  have hb3 : Below w2.heap.size w2 w3 := by rw [← hw3]; exact (by repeat (first | with_reducible exact Below.refl _ _ | (with_reducible refine Below.drew ?_) | (with_reducible refine below_drewN ?_ _) | (with_reducible refine Below.alloc ?_ ?_ _; rotate_left; (first | omega | (simp <;> omega))) | (with_reducible refine Below.setCell ?_ ?_ _; rotate_left; (first | omega | (simp <;> omega)))))
  have l3 := later hb3
  clear hw3 hmk
  obtain ⟨gS, hgS⟩ : ∃ g, g = w2.heap.size := ⟨_, rfl⟩
  rw [← hgS] at h3g ⊢
  have hos3 := zeros_own (B := w2.heap.size) h3g (by omega) (by omega)
  rw [← accL_zero (d := d) (w := wAt (conL l) ids)] at hos3
  have hbS : w2.heap.size ≤ gS := by omega
  clear h3g hgS
  have hwb := hide (show ∀ v, 0 ≤ wAt (conL l) ids v ∧ wAt (conL l) ids v ≤ 10002 from wAt_bnd (fun n hn => by obtain ⟨m, hm, rfl⟩ := List.mem_map.1 hn; simpa [NodeE.con] using hf m hm) ids)
  go_upto_region 4 with fail
  go_loopw [29] (fun kv wr => ∃ k : Nat, k ≤ ids.length ∧ kv = .int .i64 k ∧ Own I64.cells 1 3 w2.heap.size wr (.slice (some ⟨gS, 0, none⟩) (ids.length + 1) (ids.length + 1)) (accL ids.length d (wAt (conL l) ids) k) ∧ Below w2.heap.size w2 wr) (fun kv _ => ids.length - (intOf kv).toNat)
  case atStart => exact ⟨0, by omega, rfl, hos3, hb3⟩
  case round =>
    obtain ⟨k, hk, rfl, hos, hbr⟩ := hrel
    have lr := later hbr
    have lrr : Later wr wr := Later.refl
    by_cases hlt : k < ids.length
    · have hki : (k : Int) < (ids.length : Int) := by omega
      obtain ⟨x, hx⟩ : ∃ x, ids[k]? = some x := ⟨_, List.getElem?_eq_getElem hlt⟩
      obtain ⟨nn, hnn⟩ := Option.isSome_iff_exists.1 ((hT.out.dfs.mem x).1 (List.mem_of_getElem? hx)).node
      have hfe := hnn
      rw [firstE_N] at hfe
      obtain ⟨mm, hme, rfl⟩ := Option.map_eq_some_iff.1 hfe
      have hmf := hf mm (firstE_some hme).1
      have hnk : (nodesE l ids)[k]? = some mm := by unfold nodesE; rw [List.getElem?_map, hx]; simp [hme]
      have hwk := hide (show wordsN mm.con = wAt (conL l) ids k by unfold wAt wordsI; rw [getD_of hx, hnn])
      obtain ⟨b9, o9, rfl, C⟩ := node_at hSn hnk
      obtain ⟨u, hu, hu1, hu2⟩ := hT.out.dend.next hlt
      obtain ⟨b6, o6, rfl, C6⟩ := int_at hSd (k := k) (x := (u : Int)) (by rw [dList_get (by omega), hu])
      have hW := fun z : World => words_any mm z hmf
      rw [hwk.out] at hW
      have Hu := hide hu
      have h1b := accD_bnd (d := d) hwb.out (show ids.length ≤ 10000 by omega) hk k
      have h2b := accD_bnd (d := d) hwb.out (show ids.length ≤ 10000 by omega) hk u
      have h3b := szD_bnd (d := d) hwb.out (show ids.length ≤ 10000 by omega) k
      have h4b := hwb.out k
      have hself := hide (hT.out.dend.acc_self (w := wAt (conL l) ids) hlt)
      obtain ⟨wk, Hwk⟩ : ∃ z, z = wAt (conL l) ids k := ⟨_, rfl⟩
      obtain ⟨ak, Hak⟩ : ∃ z, z = accD ids.length d (wAt (conL l) ids) k k := ⟨_, rfl⟩
      obtain ⟨au, Hau⟩ : ∃ z, z = accD ids.length d (wAt (conL l) ids) k u := ⟨_, rfl⟩
      obtain ⟨sk, Hsk⟩ : ∃ z, z = szD ids.length d (wAt (conL l) ids) k := ⟨_, rfl⟩
      rw [← Hwk] at hW h4b
      rw [← Hak] at h1b
      rw [← Hau] at h2b
      rw [← Hsk] at h3b
      have hself2 := hide (show ak + wk = sk by rw [Hak, Hwk, Hsk]; exact hself.out)
      have hw1 := hide (show IntKind.i64.wrap (ak + wk) = sk by rw [IntKind.wrap_i64, ← hself2.out]; omega)
      have hw2 := hide (show IntKind.i64.wrap (au + sk) = au + sk by rw [IntKind.wrap_i64]; omega)
      have gk : (accL ids.length d (wAt (conL l) ids) k)[k]? = some ak := by rw [Hak]; exact accL_get hk
      have gk2 : ((accL ids.length d (wAt (conL l) ids) k).set k sk)[k]? = some sk := accM_self hk
      have gu2 : ((accL ids.length d (wAt (conL l) ids) k).set k sk)[u]? = some au := by rw [Hau]; exact accM_other hu2 (by omega)
      have hsucc := hide (show (((accL ids.length d (wAt (conL l) ids) k).set k sk).set u (au + sk)) = accL ids.length d (wAt (conL l) ids) (k + 1) by rw [Hau, Hsk]; exact hT.out.dend.accL_succ hlt hu hu2)
      clear Hak Hau Hsk Hwk hself hwk hu hnn hfe hx hme hnk
      obtain ⟨m1, m2, mk, mc, mA, mp, mf⟩ := mm
      have C0 := C 0 _ rfl
      have C1 := C 1 _ rfl
      have C2 := C 2 _ rfl
      have C3 := C 3 _ rfl
      have C4 := C 4 _ rfl
      rw [Nat.add_zero] at C0
      dsimp only [NodeE.v] at hW
      clear C
      go_upto_region 6 with fail
      refine wp_name ?_
      intro w6 hw6
      obtain ⟨B9, l6⟩ := box1 hw6
      clear hw6
      have l66 : Later w6 w6 := Later.refl
      have os6 := hos.below (l6 wr).below
      have hgSr : gS < wr.heap.size := (World.ownsRow.lt hos gS rfl).2
      have HS : ∀ z, Later w6 z → (z.cell? ⟨wr.heap.size, 0, none⟩ = some (.int .i64 m1) ∧ z.cell? ⟨wr.heap.size, 1, none⟩ = some (.int .i64 m2) ∧ z.cell? ⟨wr.heap.size, 2, none⟩ = some (.int .i64 mk) ∧ z.cell? ⟨wr.heap.size, 3, none⟩ = some (.int .i64 mc) ∧ z.cell? ⟨wr.heap.size, 4, none⟩ = some (.slice mA mf.length mp)) := fun z i => by
        have a := B9 z
        refine ⟨?_, ?_, ?_, ?_, ?_⟩
        · simpa using (a.2 0).1
        · simpa using (a.2 1).1
        · simpa using (a.2 2).1
        · simpa using (a.2 3).1
        · simpa using (a.2 4).1
      have cS : ∀ z, Later w6 z → z.cell? ⟨gS, k, none⟩ = some (.int .i64 ak) := fun z i => by
        have := (os6.below i.below).cell I64.enc gk (j := 0) rfl
        simpa using this
      have hkk1 : (k : Int) < (ids.length : Int) + 1 := by omega
      refine wp_region_held_drew (S := fun z => z.cell? ⟨wr.heap.size, 0, none⟩ = some (.int .i64 m1) ∧ z.cell? ⟨wr.heap.size, 1, none⟩ = some (.int .i64 m2) ∧ z.cell? ⟨wr.heap.size, 2, none⟩ = some (.int .i64 mk) ∧ z.cell? ⟨wr.heap.size, 3, none⟩ = some (.int .i64 mc) ∧ z.cell? ⟨wr.heap.size, 4, none⟩ = some (.slice mA mf.length mp)) (by kernel_rfl) (HS _ inferInstance) (fun hHeld => ?_)
      obtain ⟨wz, hwz⟩ : ∃ z, z = w6.drew := ⟨_, rfl⟩
      have lz : Later w6 wz := by rw [hwz]; infer_instance
      rw [← hwz] at hHeld ⊢
      clear hwz
      refine wpAnyH_take (i := 0) (oi := _) (v := ?_) rfl (by kernel_rfl) (by kernel_rfl) (by kernel_rfl) (fun _ _ _ h => h) (Or.inl ⟨by rfl, ?_⟩) (by assumption) ?_
      rotate_left 1
      · (intro wy hSw; (try dsimp only at hSw); obtain ⟨s1, s2, s3, s4, s5⟩ := hSw; go_simp; try with_reducible rfl)
      (try simp only [Act.put, List.getElem_toArray, List.getElem_cons_succ, List.getElem_cons_zero, List.setIfInBounds_toArray, List.set_cons_zero, List.set_cons_succ])
      refine wpAnyH_take (i := 1) (oi := _) (v := ?_) rfl (by kernel_rfl) (by kernel_rfl) (by kernel_rfl) (fun _ _ _ h => h) (Or.inl ⟨by rfl, ?_⟩) (by assumption) ?_
      rotate_left 1
      · (intro wy hSw; (try dsimp only at hSw); obtain ⟨s1, s2, s3, s4, s5⟩ := hSw; go_simp; try with_reducible rfl)
      (try simp only [Act.put, List.getElem_toArray, List.getElem_cons_succ, List.getElem_cons_zero, List.setIfInBounds_toArray, List.set_cons_zero, List.set_cons_succ])
      refine wpAnyH_take (i := 2) (oi := _) (v := ?_) rfl (by kernel_rfl) (by kernel_rfl) (by kernel_rfl) (fun _ _ _ h => h) (Or.inl ⟨by rfl, ?_⟩) (by assumption) ?_
      rotate_left 1
      · (intro wy hSw; (try dsimp only at hSw); obtain ⟨s1, s2, s3, s4, s5⟩ := hSw; go_simp; try with_reducible rfl)
      (try simp only [Act.put, List.getElem_toArray, List.getElem_cons_succ, List.getElem_cons_zero, List.setIfInBounds_toArray, List.set_cons_zero, List.set_cons_succ])
      refine wpAnyH_take (i := 4) (oi := _) (v := ?_) rfl (by kernel_rfl) (by kernel_rfl) (by kernel_rfl) (fun _ _ _ h => h) (Or.inl ⟨by rfl, ?_⟩) (by assumption) ?_
      rotate_left 1
      · (intro wy hSw; (try dsimp only at hSw); obtain ⟨s1, s2, s3, s4, s5⟩ := hSw; go_simp; try with_reducible rfl)
      (try simp only [Act.put, List.getElem_toArray, List.getElem_cons_succ, List.getElem_cons_zero, List.setIfInBounds_toArray, List.set_cons_zero, List.set_cons_succ])
      apply by_final2
      · intro final
        refine wpAnyH_ready (rs := [3, 5]) (by kernel_rfl) (by simp) ?_
        refine AllReadyH.cons (o := _) rfl ?_ (AllReadyH.cons (o := _) rfl ?_ AllReadyH.nil)
        · intro K9 hK9
          have c3 := cS wz lz
          go_simp
          refine hK9.out _ _ (HS _ lz) (fun hHeld => ?_)
          clear hK9 K9 c3
          (try simp only [Act.put, List.getElem_toArray, List.getElem_cons_succ, List.getElem_cons_zero, List.setIfInBounds_toArray, List.set_cons_zero, List.set_cons_succ])
          refine wpAnyH_ready (rs := [5]) (by kernel_rfl) (by simp) ?_
          refine AllReadyH.cons (o := _) rfl ?_ AllReadyH.nil
          intro K9 hK9
          go_simp
          refine (hW wz).mono ?_
          rintro r wn ⟨rfl, hbn⟩
          have ln : Later w6 wn := later hbn w6
          (try dsimp only)
          refine hK9.out _ _ (HS _ ln) (fun hHeld => ?_)
          clear hK9 K9
          (try simp only [Act.put, List.getElem_toArray, List.getElem_cons_succ, List.getElem_cons_zero, List.setIfInBounds_toArray, List.set_cons_zero, List.set_cons_succ])
          refine wpAnyH_cast (l' := #[true, true, true, true, true, true, false, false, false]) (by kernel_rfl) ?_
          clear hHeld hbn
          revert ln
          revert wn
          exact final ()
        · intro K9 hK9
          go_simp
          refine (hW wz).mono ?_
          rintro r wn ⟨rfl, hbn⟩
          have ln : Later w6 wn := later hbn w6
          (try dsimp only)
          refine hK9.out _ _ (HS _ ln) (fun hHeld1 => ?_)
          clear hK9 K9
          (try simp only [Act.put, List.getElem_toArray, List.getElem_cons_succ, List.getElem_cons_zero, List.setIfInBounds_toArray, List.set_cons_zero, List.set_cons_succ])
          refine wpAnyH_ready (rs := [3]) (by kernel_rfl) (by simp) ?_
          refine AllReadyH.cons (o := _) rfl ?_ AllReadyH.nil
          intro K9 hK9
          have c3 := cS wn ln
          go_simp
          refine hK9.out _ _ (HS _ ln) (fun hHeld => ?_)
          clear hK9 K9 c3
          (try simp only [Act.put, List.getElem_toArray, List.getElem_cons_succ, List.getElem_cons_zero, List.setIfInBounds_toArray, List.set_cons_zero, List.set_cons_succ])
          refine wpAnyH_cast (l' := #[true, true, true, true, true, true, false, false, false]) (by kernel_rfl) ?_
          clear hHeld hHeld1 hbn
          revert ln
          revert wn
          exact final ()
      · clear hHeld lz wz
        intro wz lz
        have hHeld := HS _ lz
        have fS := (os6.below lz.below).free k
        have c3 := cS wz lz
        refine wpAnyH_take (i := 6) (oi := _) (v := ?_) rfl (by kernel_rfl) (by kernel_rfl) (by kernel_rfl) (fun _ _ _ h => h) (Or.inl ⟨by rfl, ?_⟩) (by assumption) ?_
        rotate_left 1
        · (intro wy hSw; (try dsimp only at hSw); go_simp; try with_reducible rfl)
        (try simp only [Act.put, List.getElem_toArray, List.getElem_cons_succ, List.getElem_cons_zero, List.setIfInBounds_toArray, List.set_cons_zero, List.set_cons_succ])
        refine wpAnyH_take (i := 7) (oi := _) (v := ?_) rfl (by kernel_rfl) (by kernel_rfl) (by kernel_rfl) (fun _ _ _ h => h) (Or.inl ⟨by rfl, ?_⟩) (by assumption) ?_
        rotate_left 1
        · (intro wy hSw; (try dsimp only at hSw); go_simp; try with_reducible rfl)
        (try simp only [Act.put, List.getElem_toArray, List.getElem_cons_succ, List.getElem_cons_zero, List.setIfInBounds_toArray, List.set_cons_zero, List.set_cons_succ])
        refine wpAnyH_ready (rs := [8]) (by kernel_rfl) (by simp) ?_
        refine AllReadyH.cons (o := _) rfl ?_ AllReadyH.nil
        intro K9 hK9
        go_simp
        rw [hw1.out]
        have hSz : ∀ j, (wz.setCell ⟨gS, k, none⟩ (.int .i64 sk)).cell? ⟨wr.heap.size, j, none⟩ = wz.cell? ⟨wr.heap.size, j, none⟩ := fun j => World.cell?_setCell_far _ _ _ _ (show gS ≠ wr.heap.size by omega)
        refine hK9.out _ _ ⟨(hSz 0).trans hHeld.1, (hSz 1).trans hHeld.2.1, (hSz 2).trans hHeld.2.2.1, (hSz 3).trans hHeld.2.2.2.1, (hSz 4).trans hHeld.2.2.2.2⟩ (fun hHeld9 => ?_)
        clear hK9 K9 hSz hHeld9 hHeld fS c3
        (try simp only [Act.put, List.getElem_toArray, List.getElem_cons_succ, List.getElem_cons_zero, List.setIfInBounds_toArray, List.set_cons_zero, List.set_cons_succ])
        refine wpAnyH_done (by kernel_rfl) ?_ _
        go_upto_region 7 with fail
        refine wp_name ?_
        intro w7 hw7
        have os7 := (os6.below lz.below).store I64.enc (k := k) (j := 0) (x := ak) (x' := sk) (u := .int .i64 sk) gk (by omega) rfl
        rw [Nat.mul_one, Nat.add_zero, hw7] at os7
        have l2z : Later w2 wz := ⟨hbr.trans (((l6 wr).trans lz).below.mono hbr.size)⟩
        have l7 : Later w2 w7 := later_put (W := w2) hbS hw7 w2
        clear hw7 HS cS lz l2z os6 B9 l66 l6 hW C0 C1 C2 C3 C4
        have HS7 : ∀ z, Later w2 z → (z.cell? ⟨gt, 2, none⟩ = some (.slice (some ⟨b6, o6, none⟩) (ids.length + 1) dC) ∧ z.cell? ⟨b6, o6 + k, none⟩ = some (.int .i64 u)) := fun z i => by
          have a := XT z
          exact ⟨by simpa using (a.2 2).1, C6 z⟩
        have huu1 : (u : Int) < (ids.length : Int) + 1 := by omega
        have os7d := os7.below (show Below w7.heap.size w7 w7.drew from (Below.refl _ _).drew)
        have ck : w7.drew.cell? ⟨gS, k, none⟩ = some (.int .i64 sk) := by have := os7d.cell I64.enc gk2 (j := 0) rfl; simpa using this
        have cu : w7.drew.cell? ⟨gS, u, none⟩ = some (.int .i64 au) := by have := os7d.cell I64.enc gu2 (j := 0) rfl; simpa using this
        have fu : w7.drew.frozen? ⟨gS, u, none⟩ = false := os7d.free u
        have l7d : Later w2 w7.drew := inferInstance
        refine wp_region_held_drew (S := fun z => z.cell? ⟨gt, 2, none⟩ = some (.slice (some ⟨b6, o6, none⟩) (ids.length + 1) dC) ∧ z.cell? ⟨b6, o6 + k, none⟩ = some (.int .i64 u)) (by kernel_rfl) (HS7 _ l7d) (fun hHeld => ?_)
        generalize w7.drew = wz at hHeld os7d ck cu fu l7d ⊢
        refine wpAnyH_take (i := 0) (oi := _) (v := ?_) rfl (by kernel_rfl) (by kernel_rfl) (by kernel_rfl) (fun _ _ _ h => h) (Or.inl ⟨by rfl, ?_⟩) (by assumption) ?_
        rotate_left 1
        · (intro wy hSw; (try dsimp only at hSw); obtain ⟨s1, s2⟩ := hSw; go_simp; try with_reducible rfl)
        (try simp only [Act.put, List.getElem_toArray, List.getElem_cons_succ, List.getElem_cons_zero, List.setIfInBounds_toArray, List.set_cons_zero, List.set_cons_succ])
        refine wpAnyH_take (i := 1) (oi := _) (v := ?_) rfl (by kernel_rfl) (by kernel_rfl) (by kernel_rfl) (fun _ _ _ h => h) (Or.inl ⟨by rfl, ?_⟩) (by assumption) ?_
        rotate_left 1
        · (intro wy hSw; (try dsimp only at hSw); obtain ⟨s1, s2⟩ := hSw; go_simp; try with_reducible rfl)
        (try simp only [Act.put, List.getElem_toArray, List.getElem_cons_succ, List.getElem_cons_zero, List.setIfInBounds_toArray, List.set_cons_zero, List.set_cons_succ])
        refine wpAnyH_take (i := 2) (oi := _) (v := ?_) rfl (by kernel_rfl) (by kernel_rfl) (by kernel_rfl) (fun _ _ _ h => h) (Or.inl ⟨by rfl, ?_⟩) (by assumption) ?_
        rotate_left 1
        · (intro wy hSw; (try dsimp only at hSw); obtain ⟨s1, s2⟩ := hSw; go_simp; try with_reducible rfl)
        (try simp only [Act.put, List.getElem_toArray, List.getElem_cons_succ, List.getElem_cons_zero, List.setIfInBounds_toArray, List.set_cons_zero, List.set_cons_succ])
        refine wpAnyH_take (i := 3) (oi := _) (v := ?_) rfl (by kernel_rfl) (by kernel_rfl) (by kernel_rfl) (fun _ _ _ h => h) (Or.inl ⟨by rfl, ?_⟩) (by assumption) ?_
        rotate_left 1
        · (intro wy hSw; (try dsimp only at hSw); obtain ⟨s1, s2⟩ := hSw; go_simp; try with_reducible rfl)
        (try simp only [Act.put, List.getElem_toArray, List.getElem_cons_succ, List.getElem_cons_zero, List.setIfInBounds_toArray, List.set_cons_zero, List.set_cons_succ])
        refine wpAnyH_take (i := 4) (oi := _) (v := ?_) rfl (by kernel_rfl) (by kernel_rfl) (by kernel_rfl) (fun _ _ _ h => h) (Or.inl ⟨by rfl, ?_⟩) (by assumption) ?_
        rotate_left 1
        · (intro wy hSw; (try dsimp only at hSw); obtain ⟨s1, s2⟩ := hSw; go_simp; try with_reducible rfl)
        (try simp only [Act.put, List.getElem_toArray, List.getElem_cons_succ, List.getElem_cons_zero, List.setIfInBounds_toArray, List.set_cons_zero, List.set_cons_succ])
        refine wpAnyH_take (i := 5) (oi := _) (v := ?_) rfl (by kernel_rfl) (by kernel_rfl) (by kernel_rfl) (fun _ _ _ h => h) (Or.inl ⟨by rfl, ?_⟩) (by assumption) ?_
        rotate_left 1
        · (intro wy hSw; (try dsimp only at hSw); obtain ⟨s1, s2⟩ := hSw; go_simp; try with_reducible rfl)
        (try simp only [Act.put, List.getElem_toArray, List.getElem_cons_succ, List.getElem_cons_zero, List.setIfInBounds_toArray, List.set_cons_zero, List.set_cons_succ])
        refine wpAnyH_take (i := 6) (oi := _) (v := ?_) rfl (by kernel_rfl) (by kernel_rfl) (by kernel_rfl) (fun _ _ _ h => h) (Or.inl ⟨by rfl, ?_⟩) (by assumption) ?_
        rotate_left 1
        · (intro wy hSw; (try dsimp only at hSw); obtain ⟨s1, s2⟩ := hSw; go_simp; try with_reducible rfl)
        (try simp only [Act.put, List.getElem_toArray, List.getElem_cons_succ, List.getElem_cons_zero, List.setIfInBounds_toArray, List.set_cons_zero, List.set_cons_succ])
        refine wpAnyH_take (i := 7) (oi := _) (v := ?_) rfl (by kernel_rfl) (by kernel_rfl) (by kernel_rfl) (fun _ _ _ h => h) (Or.inl ⟨by rfl, ?_⟩) (by assumption) ?_
        rotate_left 1
        · (intro wy hSw; (try dsimp only at hSw); obtain ⟨s1, s2⟩ := hSw; go_simp; try with_reducible rfl)
        (try simp only [Act.put, List.getElem_toArray, List.getElem_cons_succ, List.getElem_cons_zero, List.setIfInBounds_toArray, List.set_cons_zero, List.set_cons_succ])
        refine wpAnyH_take (i := 8) (oi := _) (v := ?_) rfl (by kernel_rfl) (by kernel_rfl) (by kernel_rfl) (fun _ _ _ h => h) (Or.inl ⟨by rfl, ?_⟩) (by assumption) ?_
        rotate_left 1
        · (intro wy hSw; (try dsimp only at hSw); obtain ⟨s1, s2⟩ := hSw; go_simp; try with_reducible rfl)
        (try simp only [Act.put, List.getElem_toArray, List.getElem_cons_succ, List.getElem_cons_zero, List.setIfInBounds_toArray, List.set_cons_zero, List.set_cons_succ])
        refine wpAnyH_take (i := 10) (oi := _) (v := ?_) rfl (by kernel_rfl) (by kernel_rfl) (by kernel_rfl) (fun _ _ _ h => h) (Or.inl ⟨by rfl, ?_⟩) (by assumption) ?_
        rotate_left 1
        · (intro wy hSw; (try dsimp only at hSw); obtain ⟨s1, s2⟩ := hSw; go_simp; try with_reducible rfl)
        (try simp only [Act.put, List.getElem_toArray, List.getElem_cons_succ, List.getElem_cons_zero, List.setIfInBounds_toArray, List.set_cons_zero, List.set_cons_succ])
        refine wpAnyH_take (i := 11) (oi := _) (v := ?_) rfl (by kernel_rfl) (by kernel_rfl) (by kernel_rfl) (fun _ _ _ h => h) (Or.inl ⟨by rfl, ?_⟩) (by assumption) ?_
        rotate_left 1
        · (intro wy hSw; (try dsimp only at hSw); obtain ⟨s1, s2⟩ := hSw; go_simp; try with_reducible rfl)
        (try simp only [Act.put, List.getElem_toArray, List.getElem_cons_succ, List.getElem_cons_zero, List.setIfInBounds_toArray, List.set_cons_zero, List.set_cons_succ])
        refine wpAnyH_take (i := 12) (oi := _) (v := ?_) rfl (by kernel_rfl) (by kernel_rfl) (by kernel_rfl) (fun _ _ _ h => h) (Or.inl ⟨by rfl, ?_⟩) (by assumption) ?_
        rotate_left 1
        · (intro wy hSw; (try dsimp only at hSw); obtain ⟨s1, s2⟩ := hSw; go_simp; try with_reducible rfl)
        (try simp only [Act.put, List.getElem_toArray, List.getElem_cons_succ, List.getElem_cons_zero, List.setIfInBounds_toArray, List.set_cons_zero, List.set_cons_succ])
        apply by_final2
        · intro final
          refine wpAnyH_ready (rs := [9, 13]) (by kernel_rfl) (by simp) ?_
          refine AllReadyH.cons (o := _) rfl ?_ (AllReadyH.cons (o := _) rfl ?_ AllReadyH.nil)
          · intro K9 hK9
            go_simp
            refine hK9.out _ _ (HS7 _ l7d) (fun hHeld => ?_)
            clear hK9 K9
            (try simp only [Act.put, List.getElem_toArray, List.getElem_cons_succ, List.getElem_cons_zero, List.setIfInBounds_toArray, List.set_cons_zero, List.set_cons_succ])
            refine wpAnyH_ready (rs := [13]) (by kernel_rfl) (by simp) ?_
            refine AllReadyH.cons (o := _) rfl ?_ AllReadyH.nil
            intro K9 hK9
            go_simp
            refine hK9.out _ _ (HS7 _ l7d) (fun hHeld => ?_)
            clear hK9 K9
            (try simp only [Act.put, List.getElem_toArray, List.getElem_cons_succ, List.getElem_cons_zero, List.setIfInBounds_toArray, List.set_cons_zero, List.set_cons_succ])
            refine wpAnyH_cast (l' := #[true, true, true, true, true, true, true, true, true, true, true, true, true, true, false, false, false]) (by kernel_rfl) ?_
            exact final ()
          · intro K9 hK9
            go_simp
            refine hK9.out _ _ (HS7 _ l7d) (fun hHeld => ?_)
            clear hK9 K9
            (try simp only [Act.put, List.getElem_toArray, List.getElem_cons_succ, List.getElem_cons_zero, List.setIfInBounds_toArray, List.set_cons_zero, List.set_cons_succ])
            refine wpAnyH_ready (rs := [9]) (by kernel_rfl) (by simp) ?_
            refine AllReadyH.cons (o := _) rfl ?_ AllReadyH.nil
            intro K9 hK9
            go_simp
            refine hK9.out _ _ (HS7 _ l7d) (fun hHeld => ?_)
            clear hK9 K9
            (try simp only [Act.put, List.getElem_toArray, List.getElem_cons_succ, List.getElem_cons_zero, List.setIfInBounds_toArray, List.set_cons_zero, List.set_cons_succ])
            refine wpAnyH_cast (l' := #[true, true, true, true, true, true, true, true, true, true, true, true, true, true, false, false, false]) (by kernel_rfl) ?_
            exact final ()
        · refine wpAnyH_take (i := 14) (oi := _) (v := ?_) rfl (by kernel_rfl) (by kernel_rfl) (by kernel_rfl) (fun _ _ _ h => h) (Or.inl ⟨by rfl, ?_⟩) (by assumption) ?_
          rotate_left 1
          · (intro wy hSw; (try dsimp only at hSw); go_simp; try with_reducible rfl)
          (try simp only [Act.put, List.getElem_toArray, List.getElem_cons_succ, List.getElem_cons_zero, List.setIfInBounds_toArray, List.set_cons_zero, List.set_cons_succ])
          refine wpAnyH_take (i := 15) (oi := _) (v := ?_) rfl (by kernel_rfl) (by kernel_rfl) (by kernel_rfl) (fun _ _ _ h => h) (Or.inl ⟨by rfl, ?_⟩) (by assumption) ?_
          rotate_left 1
          · (intro wy hSw; (try dsimp only at hSw); go_simp; try with_reducible rfl)
          (try simp only [Act.put, List.getElem_toArray, List.getElem_cons_succ, List.getElem_cons_zero, List.setIfInBounds_toArray, List.set_cons_zero, List.set_cons_succ])
          refine wpAnyH_ready (rs := [16]) (by kernel_rfl) (by simp) ?_
          refine AllReadyH.cons (o := _) rfl ?_ AllReadyH.nil
          intro K9 hK9
          go_simp
          rw [hw2.out]
          have l8 : Later w2 (wz.setCell ⟨gS, u, none⟩ (.int .i64 (au + sk))) := later_put (W := w2) hbS rfl w2
          refine hK9.out _ _ (HS7 _ l8) (fun hHeld9 => ?_)
          clear hK9 K9 hHeld9 hHeld
          (try simp only [Act.put, List.getElem_toArray, List.getElem_cons_succ, List.getElem_cons_zero, List.setIfInBounds_toArray, List.set_cons_zero, List.set_cons_succ])
          refine wpAnyH_done (by kernel_rfl) ?_ _
          have os8 := os7d.store I64.enc (k := u) (j := 0) (x := au) (x' := au + sk) (u := .int .i64 (au + sk)) gu2 (by omega) rfl
          rw [Nat.mul_one, Nat.add_zero, hsucc.out] at os8
          generalize wz.setCell ⟨gS, u, none⟩ (.int .i64 (au + sk)) = w8 at os8 l8 ⊢
          go_wp2_with fail
          go_roundw
          case rel => exact ⟨k + 1, by omega, by go_num, os8, l8.below⟩
          case measure => simp [intOf]; omega
    · have hkk : k = ids.length := by omega
      subst hkk
      have hlw := later hbr
      have hOr : ∀ u [Later w2 u], Calls Try.prog 35 #[.pointer (some ⟨gt, 0, none⟩)] u (OrderP ids u) := fun u i => order_tree ids hT.out.dfs.nodup (by omega) iA iC _ _ gt u (blk_below ht i.below) (hSi.below i.below)
      have l2r : Later w2 wr := ⟨hbr⟩
      go_upto_region 12 with (go_at_call 35; refine (hOr _).mono ?_; intro r w4 hh; obtain ⟨q, QA, QC, rfl, hq, hoq, hb4⟩ := hh; have l4 := later hb4)
      have l24 : Later w2 w4 := l2r.trans (l4 wr)
      have ht4 := blk_below ht l24.below
      have XT4 := boxed ht4
      have hSi4 := hSi.below l24.below
      have os4 := hos.below (l4 wr).below
      have hql' := hide hq.out.len
      clear XT hSd hSn l22 hos
      go_loopw [10, 11, 62] (fun ov zv kv wr => ∃ (m : Nat) (qo : List IDE) (zo : List Int) (A1 : Option Addr) (c1 : Nat) (A2 : Option Addr) (c2 : Nat), m ≤ ids.length ∧ kv = .int .i64 m ∧ ov = .slice A1 m c1 ∧ zv = .slice A2 m c2 ∧ Hid (qo = ordI (fun i => ids.getD i ⟨0, 0⟩) q m ∧ zo = ordZ (fun i => accD ids.length d (wAt (conL l) ids) ids.length i) q m) ∧
        Own IDE.cells 2 46 w4.heap.size wr (.slice A1 m c1) qo ∧ Own I64.cells 1 3 w4.heap.size wr (.slice A2 m c2) zo ∧ Apart (.slice A1 m c1) (.slice A2 m c2) ∧ Below w4.heap.size w4 wr) (fun _ _ kv _ => ids.length - (intOf kv).toNat)
      case atStart => exact ⟨0, [], [], none, 0, none, 0, by omega, rfl, rfl, rfl, hide ⟨rfl, rfl⟩, Own.nil, Own.nil, Apart.nil, Below.refl _ _⟩
      case round =>
        obtain ⟨m, qo, zo, A1, c1, A2, c2, hm, rfl, rfl, rfl, hqz, ho1, ho2, hap, hbr4⟩ := hrel
        have lr4 := later hbr4
        have lrr : Later wr wr := Later.refl
        by_cases hlt : m < ids.length
        · have hki : (m : Int) < (ids.length : Int) := by omega
          have hmq : m ≤ q.length := by rw [hql'.out]; omega
          have hql : qo.length + 1 = m + 1 := by rw [hqz.out.1, ordI_len hmq]
          have hzl : zo.length + 1 = m + 1 := by rw [hqz.out.2, ordZ_len hmq]
          obtain ⟨i, hi⟩ : ∃ i, q[m]? = some i := ⟨_, List.getElem?_eq_getElem (by rw [hql'.out]; exact hlt)⟩
          have Hi := hide hi
          have hil2 := hq.out.lt (List.mem_of_getElem? hi)
          obtain ⟨b7, o7, rfl, C7⟩ := int_at ((hoq.at_ I64.enc).2.2) (k := m) (x := (i : Int)) (by rw [List.getElem?_map, hi]; rfl)
          obtain ⟨x, hx⟩ : ∃ x, ids[i]? = some x := ⟨_, List.getElem?_eq_getElem hil2⟩
          obtain ⟨b9, o9, rfl, C1, C2⟩ := id_at hSi4 hx
          have hxd := hide (show ids.getD i ⟨0, 0⟩ = x from getD_of hx)
          obtain ⟨z1, hz1⟩ : ∃ z, z = accD ids.length d (wAt (conL l) ids) ids.length i := ⟨_, rfl⟩
          have Cs : ∀ u, Later w4 u → u.cell? ⟨gS, i, none⟩ = some (.int .i64 z1) := fun u j => by
            have := (os4.below j.below).cell I64.enc (k := i) (x := z1) (by rw [hz1]; exact accL_get (by omega)) (j := 0) rfl
            simpa using this
          have hzz := hide hz1
          obtain ⟨x1, x2⟩ := x
          dsimp only at C1 C2
          have hii : (i : Int) < (ids.length : Int) := by omega
          have hii1 : (i : Int) < (ids.length : Int) + 1 := by omega
          clear hi hx hz1
          have hap0 := hap
          go_upto_region 14 with fail
          refine wp_name ?_
          intro w8 hw8
          have hb8 : Below wr.heap.size wr w8 := by rw [← hw8]; exact Below.refl _ _
          clear hw8
          have o1 := ho1.below hb8
          have o2 := ho2.below hb8
          have hB : w4.heap.size ≤ w8.heap.size := Nat.le_trans hbr4.size hb8.size
          have HV1 : ∀ k, (Value.slice A1 m c1).ownBlock = some k → k < w8.heap.size := fun k hk => (World.ownsRow.lt o1 k hk).2
          have HVr : ∀ k, ((Value.slice A1 m c1).ownBlock = some k ∨ (Value.slice A2 m c2).ownBlock = some k) → w4.heap.size ≤ k ∧ k < wr.heap.size := fun k hk => hk.elim (fun h => World.ownsRow.lt ho1 k h) (fun h => World.ownsRow.lt ho2 k h)
          have HS : ∀ z, Only (fun k => (Value.slice A1 m c1).ownBlock = some k ∨ (Value.slice A2 m c2).ownBlock = some k) w8 z → (z.cell? ⟨gt, 0, none⟩ = some (.slice (some ⟨b9, o9, none⟩) ids.length iC) ∧ z.cell? ⟨b9, o9 + i * 2, none⟩ = some (.int .i64 x1) ∧ z.cell? ⟨b9, o9 + i * 2 + 1, none⟩ = some (.int .i64 x2) ∧ z.cell? ⟨gS, i, none⟩ = some (.int .i64 z1)) := fun z hz => by
            have lz : Later w4 z := ⟨hbr4.trans ((hb8.mono hbr4.size).trans (hz.below (fun k hk => (HVr k hk).1) hB))⟩
            refine ⟨?_, C1 z, C2 z, Cs z lz⟩
            have := ((XT4 z).2 0).1; simpa using this
          refine wp_region_held_drew (S := fun z => z.cell? ⟨gt, 0, none⟩ = some (.slice (some ⟨b9, o9, none⟩) ids.length iC) ∧ z.cell? ⟨b9, o9 + i * 2, none⟩ = some (.int .i64 x1) ∧ z.cell? ⟨b9, o9 + i * 2 + 1, none⟩ = some (.int .i64 x2) ∧ z.cell? ⟨gS, i, none⟩ = some (.int .i64 z1)) (by kernel_rfl) (HS _ (Only.refl.drew)) (fun hHeld => ?_)
          have hon : Only (fun k => (Value.slice A1 m c1).ownBlock = some k ∨ (Value.slice A2 m c2).ownBlock = some k) w8 w8.drew := Only.refl.drew
          replace o1 := o1.below (show Below w8.heap.size w8 w8.drew from (Below.refl _ _).drew)
          replace o2 := o2.below (show Below w8.heap.size w8 w8.drew from (Below.refl _ _).drew)
          have hzw : w4.heap.size ≤ w8.drew.heap.size := by rw [heap_drew]; exact hB
          obtain ⟨wz, hwz⟩ : ∃ z, z = w8.drew := ⟨_, rfl⟩
          rw [← hwz] at hHeld hon o1 o2 hzw ⊢
          clear hwz
          refine wpAnyH_take (i := 0) (oi := _) (v := ?_) rfl (by kernel_rfl) (by kernel_rfl) (by kernel_rfl) (fun _ _ _ h => h) (Or.inl ⟨by rfl, ?_⟩) (by assumption) ?_
          rotate_left 1
          · (intro wy hSw; (try dsimp only at hSw); obtain ⟨s1, s2, s3, s4⟩ := hSw; go_simp; try with_reducible rfl)
          (try simp only [Act.put, List.getElem_toArray, List.getElem_cons_succ, List.getElem_cons_zero, List.setIfInBounds_toArray, List.set_cons_zero, List.set_cons_succ])
          refine wpAnyH_take (i := 1) (oi := _) (v := ?_) rfl (by kernel_rfl) (by kernel_rfl) (by kernel_rfl) (fun _ _ _ h => h) (Or.inl ⟨by rfl, ?_⟩) (by assumption) ?_
          rotate_left 1
          · (intro wy hSw; (try dsimp only at hSw); obtain ⟨s1, s2, s3, s4⟩ := hSw; go_simp; try with_reducible rfl)
          (try simp only [Act.put, List.getElem_toArray, List.getElem_cons_succ, List.getElem_cons_zero, List.setIfInBounds_toArray, List.set_cons_zero, List.set_cons_succ])
          refine wpAnyH_take (i := 2) (oi := _) (v := ?_) rfl (by kernel_rfl) (by kernel_rfl) (by kernel_rfl) (fun _ _ _ h => h) (Or.inl ⟨by rfl, ?_⟩) (by assumption) ?_
          rotate_left 1
          · (intro wy hSw; (try dsimp only at hSw); obtain ⟨s1, s2, s3, s4⟩ := hSw; go_simp; try with_reducible rfl)
          (try simp only [Act.put, List.getElem_toArray, List.getElem_cons_succ, List.getElem_cons_zero, List.setIfInBounds_toArray, List.set_cons_zero, List.set_cons_succ])
          refine wpAnyH_take (i := 3) (oi := _) (v := ?_) rfl (by kernel_rfl) (by kernel_rfl) (by kernel_rfl) (fun _ _ _ h => h) (Or.inl ⟨by rfl, ?_⟩) (by assumption) ?_
          rotate_left 1
          · (intro wy hSw; (try dsimp only at hSw); obtain ⟨s1, s2, s3, s4⟩ := hSw; go_simp; try with_reducible rfl)
          (try simp only [Act.put, List.getElem_toArray, List.getElem_cons_succ, List.getElem_cons_zero, List.setIfInBounds_toArray, List.set_cons_zero, List.set_cons_succ])
          refine wpAnyH_take (i := 4) (oi := _) (v := ?_) rfl (by kernel_rfl) (by kernel_rfl) (by kernel_rfl) (fun _ _ _ h => h) (Or.inl ⟨by rfl, ?_⟩) (by assumption) ?_
          rotate_left 1
          · (intro wy hSw; (try dsimp only at hSw); obtain ⟨s1, s2, s3, s4⟩ := hSw; go_simp; try with_reducible rfl)
          (try simp only [Act.put, List.getElem_toArray, List.getElem_cons_succ, List.getElem_cons_zero, List.setIfInBounds_toArray, List.set_cons_zero, List.set_cons_succ])
          refine wpAnyH_take (i := 5) (oi := _) (v := ?_) rfl (by kernel_rfl) (by kernel_rfl) (by kernel_rfl) (fun _ _ _ h => h) (Or.inl ⟨by rfl, ?_⟩) (by assumption) ?_
          rotate_left 1
          · (intro wy hSw; (try dsimp only at hSw); obtain ⟨s1, s2, s3, s4⟩ := hSw; go_simp; try with_reducible rfl)
          (try simp only [Act.put, List.getElem_toArray, List.getElem_cons_succ, List.getElem_cons_zero, List.setIfInBounds_toArray, List.set_cons_zero, List.set_cons_succ])
          refine wpAnyH_take (i := 6) (oi := _) (v := ?_) rfl (by kernel_rfl) (by kernel_rfl) (by kernel_rfl) (fun _ _ _ h => h) (Or.inl ⟨by rfl, ?_⟩) (by assumption) ?_
          rotate_left 1
          · (intro wy hSw; (try dsimp only at hSw); obtain ⟨s1, s2, s3, s4⟩ := hSw; go_simp; try with_reducible rfl)
          (try simp only [Act.put, List.getElem_toArray, List.getElem_cons_succ, List.getElem_cons_zero, List.setIfInBounds_toArray, List.set_cons_zero, List.set_cons_succ])
          refine wpAnyH_take (i := 7) (oi := _) (v := ?_) rfl (by kernel_rfl) (by kernel_rfl) (by kernel_rfl) (fun _ _ _ h => h) (Or.inl ⟨by rfl, ?_⟩) (by assumption) ?_
          rotate_left 1
          · (intro wy hSw; (try dsimp only at hSw); obtain ⟨s1, s2, s3, s4⟩ := hSw; go_simp; try with_reducible rfl)
          (try simp only [Act.put, List.getElem_toArray, List.getElem_cons_succ, List.getElem_cons_zero, List.setIfInBounds_toArray, List.set_cons_zero, List.set_cons_succ])
          refine wpAnyH_take (i := 10) (oi := _) (v := ?_) rfl (by kernel_rfl) (by kernel_rfl) (by kernel_rfl) (fun _ _ _ h => h) (Or.inl ⟨by rfl, ?_⟩) (by assumption) ?_
          rotate_left 1
          · (intro wy hSw; (try dsimp only at hSw); obtain ⟨s1, s2, s3, s4⟩ := hSw; go_simp; try with_reducible rfl)
          (try simp only [Act.put, List.getElem_toArray, List.getElem_cons_succ, List.getElem_cons_zero, List.setIfInBounds_toArray, List.set_cons_zero, List.set_cons_succ])
          refine wpAnyH_take (i := 11) (oi := _) (v := ?_) rfl (by kernel_rfl) (by kernel_rfl) (by kernel_rfl) (fun _ _ _ h => h) (Or.inl ⟨by rfl, ?_⟩) (by assumption) ?_
          rotate_left 1
          · (intro wy hSw; (try dsimp only at hSw); obtain ⟨s1, s2, s3, s4⟩ := hSw; go_simp; try with_reducible rfl)
          (try simp only [Act.put, List.getElem_toArray, List.getElem_cons_succ, List.getElem_cons_zero, List.setIfInBounds_toArray, List.set_cons_zero, List.set_cons_succ])
          refine wpAnyH_take (i := 12) (oi := _) (v := ?_) rfl (by kernel_rfl) (by kernel_rfl) (by kernel_rfl) (fun _ _ _ h => h) (Or.inl ⟨by rfl, ?_⟩) (by assumption) ?_
          rotate_left 1
          · (intro wy hSw; (try dsimp only at hSw); obtain ⟨s1, s2, s3, s4⟩ := hSw; go_simp; try with_reducible rfl)
          (try simp only [Act.put, List.getElem_toArray, List.getElem_cons_succ, List.getElem_cons_zero, List.setIfInBounds_toArray, List.set_cons_zero, List.set_cons_succ])
          refine wpAnyH_take (i := 13) (oi := _) (v := ?_) rfl (by kernel_rfl) (by kernel_rfl) (by kernel_rfl) (fun _ _ _ h => h) (Or.inl ⟨by rfl, ?_⟩) (by assumption) ?_
          rotate_left 1
          · (intro wy hSw; (try dsimp only at hSw); obtain ⟨s1, s2, s3, s4⟩ := hSw; go_simp; try with_reducible rfl)
          (try simp only [Act.put, List.getElem_toArray, List.getElem_cons_succ, List.getElem_cons_zero, List.setIfInBounds_toArray, List.set_cons_zero, List.set_cons_succ])
          refine wpAnyH_take (i := 14) (oi := _) (v := ?_) rfl (by kernel_rfl) (by kernel_rfl) (by kernel_rfl) (fun _ _ _ h => h) (Or.inl ⟨by rfl, ?_⟩) (by assumption) ?_
          rotate_left 1
          · (intro wy hSw; (try dsimp only at hSw); obtain ⟨s1, s2, s3, s4⟩ := hSw; go_simp; try with_reducible rfl)
          (try simp only [Act.put, List.getElem_toArray, List.getElem_cons_succ, List.getElem_cons_zero, List.setIfInBounds_toArray, List.set_cons_zero, List.set_cons_succ])
          apply by_final2
          · intro final
            refine wpAnyH_ready (rs := [8, 15]) (by kernel_rfl) (by simp) ?_
            refine AllReadyH.cons (o := _) rfl ?_ (AllReadyH.cons (o := _) rfl ?_ AllReadyH.nil)
            · intro K9 hK9
              go_simp
              refine hK9.out _ _ (HS _ (hon.alloc _)) (fun hHeld => ?_)
              clear hK9 K9
              (try simp only [Act.put, List.getElem_toArray, List.getElem_cons_succ, List.getElem_cons_zero, List.setIfInBounds_toArray, List.set_cons_zero, List.set_cons_succ])
              obtain ⟨g1, hg⟩ : ∃ g, g = wz.heap.size := ⟨_, rfl⟩
              obtain ⟨wn, hwn⟩ : ∃ x, x = wz.alloc (.cells #[.int .i64 x1, .int .i64 x2] 46 (0, 0)) := ⟨_, rfl⟩
              have k1 : wn.heap[g1]? = some (.cells #[.int .i64 x1, .int .i64 x2] 46 (0, 0)) := by rw [hwn, hg]; exact heap_alloc_new _ _
              have hbn : Below wz.heap.size wz wn := by rw [hwn]; exact (by repeat (first | with_reducible exact Below.refl _ _ | (with_reducible refine Below.drew ?_) | (with_reducible refine below_drewN ?_ _) | (with_reducible refine Below.alloc ?_ ?_ _; rotate_left; (first | omega | (simp <;> omega))) | (with_reducible refine Below.setCell ?_ ?_ _; rotate_left; (first | omega | (simp <;> omega)))))
              have hlg1 : w8.heap.size ≤ g1 := by rw [hg]; exact hon.size
              rw [← hwn, ← hg]
              clear hwn hg hHeld
              replace hon := hon.trans (Only.of_below hbn)
              replace o1 := o1.below hbn
              replace o2 := o2.below hbn
              replace hzw := Nat.le_trans hzw hbn.size
              (try replace k1 := blk_below k1 hbn)
              clear hbn
              obtain ⟨wz, rfl⟩ : ∃ x, x = wn := ⟨_, rfl⟩
              have hHeld := HS _ hon
              refine wpAnyH_ready (rs := [9, 15]) (by kernel_rfl) (by simp) ?_
              refine AllReadyH.cons (o := _) rfl ?_ (AllReadyH.cons (o := _) rfl ?_ AllReadyH.nil)
              · intro K9 hK9
                refine step_app2 rfl (.tmp 66) (.tmp 74) (by rfl) IDE.enc idTZ _ _ [⟨x1, x2⟩] qo (.slice A1 m c1) (by rfl) (by rfl) (m := 1) (n := m + 1) rfl hql o1 (blk_slAt IDE.enc (fr := (0, 0)) (e := 46) k1 [⟨x1, x2⟩] rfl) (by omega) (by unfold maxLen; omega) hzw ?_
                intro A1' c1' wn o1n hm1 hst
                have hv1 := own_new hst.2 hon.size
                have hq := hst.own o2 hap
                (try replace k2 := (only_grown hst.1).boxed k2 (fun e => by have := HV1 g2 e; omega))
                replace hzw := Nat.le_trans hzw (grown_size hst.1)
                replace hon := hon.trans' (only_grown hst.1) (fun k _ h => .inl h)
                clear o1 o2 k1 hst
                have o1 := o1n
                have o2 := hq.1
                have hap := hq.2
                clear o1n hq
                refine hK9.out _ _ (HS _ hon) (fun hHeld => ?_)
                clear hK9 K9
                (try simp only [Act.put, List.getElem_toArray, List.getElem_cons_succ, List.getElem_cons_zero, List.setIfInBounds_toArray, List.set_cons_zero, List.set_cons_succ])
                obtain ⟨wz, rfl⟩ : ∃ x, x = wn := ⟨_, rfl⟩
                refine wpAnyH_ready (rs := [15]) (by kernel_rfl) (by simp) ?_
                refine AllReadyH.cons (o := _) rfl ?_ AllReadyH.nil
                intro K9 hK9
                go_simp
                refine hK9.out _ _ (HS _ (hon.alloc _)) (fun hHeld => ?_)
                clear hK9 K9
                (try simp only [Act.put, List.getElem_toArray, List.getElem_cons_succ, List.getElem_cons_zero, List.setIfInBounds_toArray, List.set_cons_zero, List.set_cons_succ])
                obtain ⟨g2, hg⟩ : ∃ g, g = wz.heap.size := ⟨_, rfl⟩
                obtain ⟨wn, hwn⟩ : ∃ x, x = wz.alloc (.cells #[.int .i64 z1] 3 (0, 0)) := ⟨_, rfl⟩
                have k2 : wn.heap[g2]? = some (.cells #[.int .i64 z1] 3 (0, 0)) := by rw [hwn, hg]; exact heap_alloc_new _ _
                have hbn : Below wz.heap.size wz wn := by rw [hwn]; exact (by repeat (first | with_reducible exact Below.refl _ _ | (with_reducible refine Below.drew ?_) | (with_reducible refine below_drewN ?_ _) | (with_reducible refine Below.alloc ?_ ?_ _; rotate_left; (first | omega | (simp <;> omega))) | (with_reducible refine Below.setCell ?_ ?_ _; rotate_left; (first | omega | (simp <;> omega)))))
                have hlg2 : w8.heap.size ≤ g2 := by rw [hg]; exact hon.size
                rw [← hwn, ← hg]
                clear hwn hg hHeld
                replace hon := hon.trans (Only.of_below hbn)
                replace o1 := o1.below hbn
                replace o2 := o2.below hbn
                replace hzw := Nat.le_trans hzw hbn.size
                (try replace k2 := blk_below k2 hbn)
                clear hbn
                obtain ⟨wz, rfl⟩ : ∃ x, x = wn := ⟨_, rfl⟩
                have hHeld := HS _ hon
                refine wpAnyH_ready (rs := [16]) (by kernel_rfl) (by simp) ?_
                refine AllReadyH.cons (o := _) rfl ?_ AllReadyH.nil
                intro K9 hK9
                refine step_app2 rfl (.tmp 76) (.tmp 81) (by rfl) I64.enc intTZ _ _ [z1] zo (.slice A2 m c2) (by rfl) (by rfl) (m := 1) (n := m + 1) rfl hzl o2 (blk_slAt I64.enc (fr := (0, 0)) (e := 3) k2 [z1] rfl) (by omega) (by unfold maxLen; omega) hzw ?_
                intro A2' c2' wn o2n hm2 hst
                have hv2 := own_new hst.2 hon.size
                have hq := hst.own o1 hap.symm
                replace hzw := Nat.le_trans hzw (grown_size hst.1)
                replace hon := hon.trans' (only_grown hst.1) (fun k _ h => .inr h)
                have hap2 := hq.2.symm
                clear o1 o2 k2 hst hap
                have o1 := hq.1
                have o2 := o2n
                have hap := hap2
                clear hap2
                clear o2n hq
                refine hK9.out _ _ (HS _ hon) (fun hHeld => ?_)
                clear hK9 K9
                (try simp only [Act.put, List.getElem_toArray, List.getElem_cons_succ, List.getElem_cons_zero, List.setIfInBounds_toArray, List.set_cons_zero, List.set_cons_succ])
                obtain ⟨wz, rfl⟩ : ∃ x, x = wn := ⟨_, rfl⟩
                refine wpAnyH_cast (l' := #[true, true, true, true, true, true, true, true, true, true, true, true, true, true, true, true, true, false, false]) (by kernel_rfl) ?_
                clear hHeld hm1 hm2 hlg1 hlg2
                revert hv2
                revert hv1
                revert hzw
                revert hap
                revert o2
                revert o1
                revert hon
                revert wz
                revert c2'
                revert A2'
                revert c1'
                revert A1'
                revert g2
                revert g1
                exact final ()
              · intro K9 hK9
                go_simp
                refine hK9.out _ _ (HS _ (hon.alloc _)) (fun hHeld => ?_)
                clear hK9 K9
                (try simp only [Act.put, List.getElem_toArray, List.getElem_cons_succ, List.getElem_cons_zero, List.setIfInBounds_toArray, List.set_cons_zero, List.set_cons_succ])
                obtain ⟨g2, hg⟩ : ∃ g, g = wz.heap.size := ⟨_, rfl⟩
                obtain ⟨wn, hwn⟩ : ∃ x, x = wz.alloc (.cells #[.int .i64 z1] 3 (0, 0)) := ⟨_, rfl⟩
                have k2 : wn.heap[g2]? = some (.cells #[.int .i64 z1] 3 (0, 0)) := by rw [hwn, hg]; exact heap_alloc_new _ _
                have hbn : Below wz.heap.size wz wn := by rw [hwn]; exact (by repeat (first | with_reducible exact Below.refl _ _ | (with_reducible refine Below.drew ?_) | (with_reducible refine below_drewN ?_ _) | (with_reducible refine Below.alloc ?_ ?_ _; rotate_left; (first | omega | (simp <;> omega))) | (with_reducible refine Below.setCell ?_ ?_ _; rotate_left; (first | omega | (simp <;> omega)))))
                have hlg2 : w8.heap.size ≤ g2 := by rw [hg]; exact hon.size
                rw [← hwn, ← hg]
                clear hwn hg hHeld
                replace hon := hon.trans (Only.of_below hbn)
                replace o1 := o1.below hbn
                replace o2 := o2.below hbn
                replace hzw := Nat.le_trans hzw hbn.size
                (try replace k1 := blk_below k1 hbn)
                clear hbn
                obtain ⟨wz, rfl⟩ : ∃ x, x = wn := ⟨_, rfl⟩
                have hHeld := HS _ hon
                refine wpAnyH_ready (rs := [9]) (by kernel_rfl) (by simp) ?_
                refine AllReadyH.cons (o := _) rfl ?_ AllReadyH.nil
                intro K9 hK9
                refine step_app2 rfl (.tmp 66) (.tmp 74) (by rfl) IDE.enc idTZ _ _ [⟨x1, x2⟩] qo (.slice A1 m c1) (by rfl) (by rfl) (m := 1) (n := m + 1) rfl hql o1 (blk_slAt IDE.enc (fr := (0, 0)) (e := 46) k1 [⟨x1, x2⟩] rfl) (by omega) (by unfold maxLen; omega) hzw ?_
                intro A1' c1' wn o1n hm1 hst
                have hv1 := own_new hst.2 hon.size
                have hq := hst.own o2 hap
                (try replace k2 := (only_grown hst.1).boxed k2 (fun e => by have := HV1 g2 e; omega))
                replace hzw := Nat.le_trans hzw (grown_size hst.1)
                replace hon := hon.trans' (only_grown hst.1) (fun k _ h => .inl h)
                clear o1 o2 k1 hst
                have o1 := o1n
                have o2 := hq.1
                have hap := hq.2
                clear o1n hq
                refine hK9.out _ _ (HS _ hon) (fun hHeld => ?_)
                clear hK9 K9
                (try simp only [Act.put, List.getElem_toArray, List.getElem_cons_succ, List.getElem_cons_zero, List.setIfInBounds_toArray, List.set_cons_zero, List.set_cons_succ])
                obtain ⟨wz, rfl⟩ : ∃ x, x = wn := ⟨_, rfl⟩
                refine wpAnyH_ready (rs := [16]) (by kernel_rfl) (by simp) ?_
                refine AllReadyH.cons (o := _) rfl ?_ AllReadyH.nil
                intro K9 hK9
                refine step_app2 rfl (.tmp 76) (.tmp 81) (by rfl) I64.enc intTZ _ _ [z1] zo (.slice A2 m c2) (by rfl) (by rfl) (m := 1) (n := m + 1) rfl hzl o2 (blk_slAt I64.enc (fr := (0, 0)) (e := 3) k2 [z1] rfl) (by omega) (by unfold maxLen; omega) hzw ?_
                intro A2' c2' wn o2n hm2 hst
                have hv2 := own_new hst.2 hon.size
                have hq := hst.own o1 hap.symm
                replace hzw := Nat.le_trans hzw (grown_size hst.1)
                replace hon := hon.trans' (only_grown hst.1) (fun k _ h => .inr h)
                have hap2 := hq.2.symm
                clear o1 o2 k2 hst hap
                have o1 := hq.1
                have o2 := o2n
                have hap := hap2
                clear hap2
                clear o2n hq
                refine hK9.out _ _ (HS _ hon) (fun hHeld => ?_)
                clear hK9 K9
                (try simp only [Act.put, List.getElem_toArray, List.getElem_cons_succ, List.getElem_cons_zero, List.setIfInBounds_toArray, List.set_cons_zero, List.set_cons_succ])
                obtain ⟨wz, rfl⟩ : ∃ x, x = wn := ⟨_, rfl⟩
                refine wpAnyH_cast (l' := #[true, true, true, true, true, true, true, true, true, true, true, true, true, true, true, true, true, false, false]) (by kernel_rfl) ?_
                clear hHeld hm1 hm2 hlg1 hlg2
                revert hv2
                revert hv1
                revert hzw
                revert hap
                revert o2
                revert o1
                revert hon
                revert wz
                revert c2'
                revert A2'
                revert c1'
                revert A1'
                revert g2
                revert g1
                exact final ()
            · intro K9 hK9
              go_simp
              refine hK9.out _ _ (HS _ (hon.alloc _)) (fun hHeld => ?_)
              clear hK9 K9
              (try simp only [Act.put, List.getElem_toArray, List.getElem_cons_succ, List.getElem_cons_zero, List.setIfInBounds_toArray, List.set_cons_zero, List.set_cons_succ])
              obtain ⟨g2, hg⟩ : ∃ g, g = wz.heap.size := ⟨_, rfl⟩
              obtain ⟨wn, hwn⟩ : ∃ x, x = wz.alloc (.cells #[.int .i64 z1] 3 (0, 0)) := ⟨_, rfl⟩
              have k2 : wn.heap[g2]? = some (.cells #[.int .i64 z1] 3 (0, 0)) := by rw [hwn, hg]; exact heap_alloc_new _ _
              have hbn : Below wz.heap.size wz wn := by rw [hwn]; exact (by repeat (first | with_reducible exact Below.refl _ _ | (with_reducible refine Below.drew ?_) | (with_reducible refine below_drewN ?_ _) | (with_reducible refine Below.alloc ?_ ?_ _; rotate_left; (first | omega | (simp <;> omega))) | (with_reducible refine Below.setCell ?_ ?_ _; rotate_left; (first | omega | (simp <;> omega)))))
              have hlg2 : w8.heap.size ≤ g2 := by rw [hg]; exact hon.size
              rw [← hwn, ← hg]
              clear hwn hg hHeld
              replace hon := hon.trans (Only.of_below hbn)
              replace o1 := o1.below hbn
              replace o2 := o2.below hbn
              replace hzw := Nat.le_trans hzw hbn.size
              (try replace k2 := blk_below k2 hbn)
              clear hbn
              obtain ⟨wz, rfl⟩ : ∃ x, x = wn := ⟨_, rfl⟩
              have hHeld := HS _ hon
              refine wpAnyH_ready (rs := [8]) (by kernel_rfl) (by simp) ?_
              refine AllReadyH.cons (o := _) rfl ?_ AllReadyH.nil
              intro K9 hK9
              go_simp
              refine hK9.out _ _ (HS _ (hon.alloc _)) (fun hHeld => ?_)
              clear hK9 K9
              (try simp only [Act.put, List.getElem_toArray, List.getElem_cons_succ, List.getElem_cons_zero, List.setIfInBounds_toArray, List.set_cons_zero, List.set_cons_succ])
              obtain ⟨g1, hg⟩ : ∃ g, g = wz.heap.size := ⟨_, rfl⟩
              obtain ⟨wn, hwn⟩ : ∃ x, x = wz.alloc (.cells #[.int .i64 x1, .int .i64 x2] 46 (0, 0)) := ⟨_, rfl⟩
              have k1 : wn.heap[g1]? = some (.cells #[.int .i64 x1, .int .i64 x2] 46 (0, 0)) := by rw [hwn, hg]; exact heap_alloc_new _ _
              have hbn : Below wz.heap.size wz wn := by rw [hwn]; exact (by repeat (first | with_reducible exact Below.refl _ _ | (with_reducible refine Below.drew ?_) | (with_reducible refine below_drewN ?_ _) | (with_reducible refine Below.alloc ?_ ?_ _; rotate_left; (first | omega | (simp <;> omega))) | (with_reducible refine Below.setCell ?_ ?_ _; rotate_left; (first | omega | (simp <;> omega)))))
              have hlg1 : w8.heap.size ≤ g1 := by rw [hg]; exact hon.size
              rw [← hwn, ← hg]
              clear hwn hg hHeld
              replace hon := hon.trans (Only.of_below hbn)
              replace o1 := o1.below hbn
              replace o2 := o2.below hbn
              replace hzw := Nat.le_trans hzw hbn.size
              (try replace k2 := blk_below k2 hbn)
              clear hbn
              obtain ⟨wz, rfl⟩ : ∃ x, x = wn := ⟨_, rfl⟩
              have hHeld := HS _ hon
              refine wpAnyH_ready (rs := [9]) (by kernel_rfl) (by simp) ?_
              refine AllReadyH.cons (o := _) rfl ?_ AllReadyH.nil
              intro K9 hK9
              refine step_app2 rfl (.tmp 66) (.tmp 74) (by rfl) IDE.enc idTZ _ _ [⟨x1, x2⟩] qo (.slice A1 m c1) (by rfl) (by rfl) (m := 1) (n := m + 1) rfl hql o1 (blk_slAt IDE.enc (fr := (0, 0)) (e := 46) k1 [⟨x1, x2⟩] rfl) (by omega) (by unfold maxLen; omega) hzw ?_
              intro A1' c1' wn o1n hm1 hst
              have hv1 := own_new hst.2 hon.size
              have hq := hst.own o2 hap
              (try replace k2 := (only_grown hst.1).boxed k2 (fun e => by have := HV1 g2 e; omega))
              replace hzw := Nat.le_trans hzw (grown_size hst.1)
              replace hon := hon.trans' (only_grown hst.1) (fun k _ h => .inl h)
              clear o1 o2 k1 hst
              have o1 := o1n
              have o2 := hq.1
              have hap := hq.2
              clear o1n hq
              refine hK9.out _ _ (HS _ hon) (fun hHeld => ?_)
              clear hK9 K9
              (try simp only [Act.put, List.getElem_toArray, List.getElem_cons_succ, List.getElem_cons_zero, List.setIfInBounds_toArray, List.set_cons_zero, List.set_cons_succ])
              obtain ⟨wz, rfl⟩ : ∃ x, x = wn := ⟨_, rfl⟩
              refine wpAnyH_ready (rs := [16]) (by kernel_rfl) (by simp) ?_
              refine AllReadyH.cons (o := _) rfl ?_ AllReadyH.nil
              intro K9 hK9
              refine step_app2 rfl (.tmp 76) (.tmp 81) (by rfl) I64.enc intTZ _ _ [z1] zo (.slice A2 m c2) (by rfl) (by rfl) (m := 1) (n := m + 1) rfl hzl o2 (blk_slAt I64.enc (fr := (0, 0)) (e := 3) k2 [z1] rfl) (by omega) (by unfold maxLen; omega) hzw ?_
              intro A2' c2' wn o2n hm2 hst
              have hv2 := own_new hst.2 hon.size
              have hq := hst.own o1 hap.symm
              replace hzw := Nat.le_trans hzw (grown_size hst.1)
              replace hon := hon.trans' (only_grown hst.1) (fun k _ h => .inr h)
              have hap2 := hq.2.symm
              clear o1 o2 k2 hst hap
              have o1 := hq.1
              have o2 := o2n
              have hap := hap2
              clear hap2
              clear o2n hq
              refine hK9.out _ _ (HS _ hon) (fun hHeld => ?_)
              clear hK9 K9
              (try simp only [Act.put, List.getElem_toArray, List.getElem_cons_succ, List.getElem_cons_zero, List.setIfInBounds_toArray, List.set_cons_zero, List.set_cons_succ])
              obtain ⟨wz, rfl⟩ : ∃ x, x = wn := ⟨_, rfl⟩
              refine wpAnyH_cast (l' := #[true, true, true, true, true, true, true, true, true, true, true, true, true, true, true, true, true, false, false]) (by kernel_rfl) ?_
              clear hHeld hm1 hm2 hlg1 hlg2
              revert hv2
              revert hv1
              revert hzw
              revert hap
              revert o2
              revert o1
              revert hon
              revert wz
              revert c2'
              revert A2'
              revert c1'
              revert A1'
              revert g2
              revert g1
              exact final ()
          intro g1 g2 A1' c1' A2' c2' wz hon o1 o2 hap hzw hv1 hv2
          have hHeld := HS _ hon
          refine wpAnyH_take (i := 17) (oi := _) (v := ?_) rfl (by kernel_rfl) (by kernel_rfl) (by kernel_rfl) (fun _ _ _ h => h) (Or.inl ⟨by rfl, ?_⟩) (by assumption) ?_
          rotate_left 1
          · (intro wy hSw; (try dsimp only at hSw); go_simp; try with_reducible rfl)
          (try simp only [Act.put, List.getElem_toArray, List.getElem_cons_succ, List.getElem_cons_zero, List.setIfInBounds_toArray, List.set_cons_zero, List.set_cons_succ])
          refine wpAnyH_take (i := 18) (oi := _) (v := ?_) rfl (by kernel_rfl) (by kernel_rfl) (by kernel_rfl) (fun _ _ _ h => h) (Or.inl ⟨by rfl, ?_⟩) (by assumption) ?_
          rotate_left 1
          · (intro wy hSw; (try dsimp only at hSw); go_simp; try with_reducible rfl)
          (try simp only [Act.put, List.getElem_toArray, List.getElem_cons_succ, List.getElem_cons_zero, List.setIfInBounds_toArray, List.set_cons_zero, List.set_cons_succ])
          refine wpAnyH_done (by kernel_rfl) ?_ _
          go_wp2_with fail
          go_roundw
          case rel => exact ⟨m + 1, qo ++ [⟨x1, x2⟩], zo ++ [z1], A1', c1', A2', c2', by omega, by go_num, rfl, rfl, hide ⟨((ordI_succ Hi.out).trans (by rw [← hqz.out.1]; show qo ++ [ids.getD i ⟨0, 0⟩] = _; rw [hxd.out])).symm, ((ordZ_succ Hi.out).trans (by rw [← hqz.out.2, hzz.out])).symm⟩, o1, o2, hap, hbr4.trans ((hb8.mono hbr4.size).trans (hon.below (fun k hk => (HVr k hk).1) hB))⟩
          case measure => simp [intOf]; omega
        · have hmm : m = ids.length := by omega
          subst hmm
          have e1 : qo = q.map fun i => ids.getD i ⟨0, 0⟩ := by rw [hqz.out.1, ← ordI_all, hql'.out]
          have e2 : zo = q.map fun i => accD ids.length d (wAt (conL l) ids) ids.length i := by rw [hqz.out.2, ← ordZ_all, hql'.out]
          have e3 := hide (show ids.length = qo.length by rw [e1, List.length_map, hql'.out])
          have hb12 : Below w.heap.size w w2 := below_of
          have hbw : Below w.heap.size w w4 := hb12.trans (l24.below.mono hb12.size)
          go_wp2_with fail
          refine bodyPost_ret (v := .tuple #[.slice A1 ids.length c1, .slice A2 ids.length c2]) (by simp [results, Try.results15, go_sem]) rfl ?_
          rw [e3.out] at ho1 ho2 hap ⊢
          exact ⟨qo, zo, A1, c1, A2, c2, rfl, hide ⟨by rw [e1]; exact hT.out.reachL hq.out, by rw [e1, e2]; exact hT.out.sizesL hq.out, ids, d, hT.out⟩, ho1.mono hbw.size, ho2.mono hbw.size, hap, hbw.trans (hbr4.mono hbw.size)⟩
end Go.Proofs.Ytffnogjgnpbjlaa
