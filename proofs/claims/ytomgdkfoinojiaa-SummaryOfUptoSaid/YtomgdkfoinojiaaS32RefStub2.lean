/-
  Contracts of the functions of this seat that each theorem names: what a call returns, and that it writes nothing that was there before. The conditions stand in each theorem.
-/
import Derived.Test.YtomgdkfoinojiaaS32RefStub
import Derived.Test.YtomgdkfoinojiaaS32Lib
import Derived.Deep.LoopGhost
import Derived.Deep.CutBlock
namespace Go.Proofs.Ytomgdkfoinojiaa
open Go.RowKit
attribute [local go_sem ↓] run_eql_id run_neq_id
attribute [local simp] heap_drew
theorem I64.enc : Enc I64.cells 1 := ⟨fun _ => rfl, fun x u hu => by simp only [I64.cells, List.mem_singleton] at hu; rw [hu]; rfl, by decide⟩
theorem blk_set5 {w : World} {g : Nat} {a0 a1 a2 a3 a4 v0 v1 v2 v3 v4 : Value} {t : TypeId} (h : w.heap[g]? = some (.cells #[a0, a1, a2, a3, a4] t (0, 0))) :
    (((((w.setCell ⟨g, 0, none⟩ v0).setCell ⟨g, 1, none⟩ v1).setCell ⟨g, 2, none⟩ v2).setCell ⟨g, 3, none⟩ v3).setCell ⟨g, 4, none⟩ v4).heap[g]? = some (.cells #[v0, v1, v2, v3, v4] t (0, 0)) :=
  (blk_set (blk_set (blk_set (blk_set (blk_set h 0 v0) 1 v1) 2 v2) 3 v3) 4 v4).trans (by simp)
theorem below_set5 {B : Nat} {w0 w : World} {g : Nat} {v0 v1 v2 v3 v4 : Value} (h : Below B w0 w) (hg : B ≤ g) :
    Below B w0 (((((w.setCell ⟨g, 0, none⟩ v0).setCell ⟨g, 1, none⟩ v1).setCell ⟨g, 2, none⟩ v2).setCell ⟨g, 3, none⟩ v3).setCell ⟨g, 4, none⟩ v4) :=
  ((((h.setCell (p := ⟨g, 0, none⟩) hg v0).setCell (p := ⟨g, 1, none⟩) hg v1).setCell (p := ⟨g, 2, none⟩) hg v2).setCell (p := ⟨g, 3, none⟩) hg v3).setCell (p := ⟨g, 4, none⟩) hg v4
theorem insL_take {L : List NodeC} {ks : List ScionE} {x : IDE} {k : Nat} {s : ScionE} (h : ks[k]? = some s) : insL L (ks.take (k + 1)) x = insL L (ks.take k) x ++ (if insB L x s then [s] else []) := filter_take h
theorem insL_len {L : List NodeC} {ks : List ScionE} {x : IDE} {k : Nat} : (insL L (ks.take k) x).length ≤ k := Nat.le_trans (List.length_filter_le _ _) (by rw [List.length_take]; omega)
theorem insert_sortL {α : Type} [Inhabited α] {lt : α → α → Bool} (O : Go.Sort.SWO lt) {M : List α} {y : α} {a : Nat} (ha : a ≤ (sortL lt M).length) (h1 : ∀ j z, a ≤ j → (sortL lt M)[j]? = some z → lt y z = true) (h2 : ∀ p z, p + 1 = a → (sortL lt M)[p]? = some z → lt y z = false) :
    (sortL lt M).take a ++ [y] ++ (sortL lt M).drop a = sortL lt (M ++ [y]) := by
  obtain ⟨hS, hT⟩ := sortL_ok O M
  generalize sortL lt M = I at ha h1 h2 hS hT ⊢
  have hX : Srt lt (I.take a ++ I.drop a) := by rw [List.take_append_drop]; exact hS
  have g1 : ∀ x ∈ I.drop a, lt y x = true := fun x hx => by
    obtain ⟨j, hj⟩ := List.getElem?_of_mem hx
    rw [List.getElem?_drop] at hj
    exact h1 (a + j) x (by omega) hj
  have g2 : ∀ x ∈ I.take a, lt y x = false := fun x hx => by
    obtain ⟨j, hj⟩ := List.getElem?_of_mem hx
    have hja : j < a := by
      have := (List.getElem?_eq_some_iff.1 hj).1
      rw [List.length_take] at this; omega
    rw [List.getElem?_take_of_lt hja] at hj
    rcases a with _ | p
    · omega
    · rcases Nat.lt_or_ge j p with hjp | hjp
      · have hjl := (List.getElem?_eq_some_iff.1 hj).1
        have hpl : p < I.length := by omega
        have e := h2 p I[p] rfl (List.getElem?_eq_getElem hpl)
        refine O.ntrans y I[p] x e ?_
        obtain ⟨hq, rfl⟩ := List.getElem?_eq_some_iff.1 hj
        exact List.pairwise_iff_getElem.1 hS j p hq hpl hjp
      · have : j = p := by omega
        subst this
        exact h2 j x rfl hj
  obtain ⟨k1, k2⟩ := insert_step O hX g1 g2
  rw [List.take_append_drop] at k2
  have e : I.take a ++ [y] ++ I.drop a = I.take a ++ y :: I.drop a := by simp
  rw [e]
  exact sortL_eq O k1 ((hT.app Stb.refl).trans k2)
theorem sl_new33 (w : World) (x : IDE) : SlAt IDE.cells 2 (w.alloc (.cells #[.int .i64 x.machine, .int .i64 x.serial] 45)) (some ⟨w.heap.size, 0, none⟩) [x] := blk_slAt IDE.enc (fr := (0, 0)) (heap_alloc_new _ _) [x] rfl
theorem sl_new33_drew (w : World) (x : IDE) : SlAt IDE.cells 2 (w.alloc (.cells #[.int .i64 x.machine, .int .i64 x.serial] 45)).drew (some ⟨w.heap.size, 0, none⟩) [x] := (sl_new33 w x).below (Below.refl _ _).drew
set_option maxRecDepth 100000 in
set_option maxHeartbeats 16000000 in
theorem refStub_any (A : Option Addr) (c : Nat) (l : List NodeE) (RA : Option Addr) (rc : Nat) (roots : List IDE) (KA : Option Addr) (kc : Nat) (ks : List ScionE) (e : StubE) (w : World) (H : NodesAt w A l) (hR : SlAt IDE.cells 2 w RA roots) (hK : SlAt ScionE.cells 12 w KA ks)
    (hl : l.length ≤ 10000) (hf : ∀ n ∈ l, n.fields.length ≤ 10000) (hrl : roots.length ≤ 10000) (hkl : ks.length ≤ 10000) :
    Calls Try.prog 33 #[.agg #[.slice A l.length c], .slice RA roots.length rc, .slice KA ks.length kc, e.v] w (StubPost (sumOf (conL l) roots ks e) w) := by
  have HL := H.later
  have HK : ∀ u [Later w u], SlAt ScionE.cells 12 u KA ks := fun u i => hK.below i.below
  have HR : ∀ u [Later w u], SlAt IDE.cells 2 u RA roots := fun u i => hR.below i.below
  have HRe : ∀ u [Later w u], Calls Try.prog 68 #[.agg #[.slice A l.length c], .slice RA roots.length rc] u (ReachPost (conL l) roots u) := fun u i => reach16_any A c l RA rc roots u (HL u) (HR u) hl hf hrl
  have hll : (conL l).length = l.length := by unfold conL; rw [List.length_map]
  have hcl : (conL l).length ≤ 10000 := by omega
  clear hll
  obtain ⟨L, hL⟩ : ∃ L, L = conL l := ⟨_, rfl⟩
  obtain ⟨e1, e2, e3, e4, e5, e6, e7, e8, e9, e10, e11, e12⟩ := e
  obtain ⟨x, hx⟩ : ∃ x : IDE, x = ⟨e3, e4⟩ := ⟨_, rfl⟩
  obtain ⟨V, hV⟩ : ∃ V, V = hasB (conL l) roots x := ⟨_, rfl⟩
  have HV := hide hV
  have HX := hide hx
  dsimp only [StubE.v]
  go_enter Try.func33, Try.ntmps33
  go_upto_region 1 with fail
  refine wp_name ?_
  intro w0 hw0
  obtain ⟨B0, B1, B2, l0⟩ := box3 hw0
  have hb0 : Below w.heap.size w w0 := (l0 w).below
  clear hw0
  have l00 : Later w0 w0 := Later.refl
  clear hL hV hx
  go_cut [9] from 10 (fun s9 wx => ∃ gS, s9 = .pointer (some ⟨gS, 0, none⟩) ∧ w0.heap.size ≤ gS ∧ wx.heap[gS]? = some (.cells #[.int .i64 e1, .int .u64 e2, .bool V, .int .i64 0, .slice none 0 0] 41 (0, 0)) ∧ Below w0.heap.size w0 wx)
  case first =>
    refine wp_region_held_drew (S := fun w' => ∀ b [Later b w0], Later b w') (by kernel_rfl) (by intro b _; infer_instance) (fun hHeld => ?_)
    refine wpAnyH_take (i := 0) (oi := _) (v := ?_) rfl (by kernel_rfl) (by kernel_rfl) (by kernel_rfl) (fun _ _ _ h => h) (Or.inl ⟨by rfl, ?_⟩) (by assumption) ?_
    rotate_left 1
    · (intro wy hSw; (try dsimp only at hSw); go_simp; try with_reducible rfl)
    (try simp only [Act.put])
    refine wpAnyH_take (i := 1) (oi := _) (v := ?_) rfl (by kernel_rfl) (by kernel_rfl) (by kernel_rfl) (fun _ _ _ h => h) (Or.inl ⟨by rfl, ?_⟩) (by assumption) ?_
    rotate_left 1
    · (intro wy hSw; (try dsimp only at hSw); go_simp; try with_reducible rfl)
    (try simp only [Act.put])
    refine wpAnyH_take (i := 2) (oi := _) (v := ?_) rfl (by kernel_rfl) (by kernel_rfl) (by kernel_rfl) (fun _ _ _ h => h) (Or.inl ⟨by rfl, ?_⟩) (by assumption) ?_
    rotate_left 1
    · (intro wy hSw; (try dsimp only at hSw); go_simp; try with_reducible rfl)
    (try simp only [Act.put])
    refine wpAnyH_take (i := 3) (oi := _) (v := ?_) rfl (by kernel_rfl) (by kernel_rfl) (by kernel_rfl) (fun _ _ _ h => h) (Or.inl ⟨by rfl, ?_⟩) (by assumption) ?_
    rotate_left 1
    · (intro wy hSw; (try dsimp only at hSw); go_simp; try with_reducible rfl)
    (try simp only [Act.put])
    refine wpAnyH_take (i := 4) (oi := _) (v := ?_) rfl (by kernel_rfl) (by kernel_rfl) (by kernel_rfl) (fun _ _ _ h => h) (Or.inl ⟨by rfl, ?_⟩) (by assumption) ?_
    rotate_left 1
    · (intro wy hSw; (try dsimp only at hSw); go_simp; try with_reducible rfl)
    (try simp only [Act.put])
    refine wpAnyH_take (i := 5) (oi := _) (v := ?_) rfl (by kernel_rfl) (by kernel_rfl) (by kernel_rfl) (fun _ _ _ h => h) (Or.inl ⟨by rfl, ?_⟩) (by assumption) ?_
    rotate_left 1
    · (intro wy hSw; (try dsimp only at hSw); go_simp; try with_reducible rfl)
    (try simp only [Act.put])
    refine wpAnyH_take (i := 7) (oi := _) (v := ?_) rfl (by kernel_rfl) (by kernel_rfl) (by kernel_rfl) (fun _ _ _ h => h) (Or.inl ⟨by rfl, ?_⟩) (by assumption) ?_
    rotate_left 1
    · (intro wy hSw; (try dsimp only at hSw); go_simp; try with_reducible rfl)
    (try simp only [Act.put])
    refine wpAnyH_take (i := 8) (oi := _) (v := ?_) rfl (by kernel_rfl) (by kernel_rfl) (by kernel_rfl) (fun _ _ _ h => h) (Or.inl ⟨by rfl, ?_⟩) (by assumption) ?_
    rotate_left 1
    · (intro wy hSw; (try dsimp only at hSw); go_simp; try with_reducible rfl)
    (try simp only [Act.put])
    refine wpAnyH_ready (rs := [6, 11]) (by kernel_rfl) (by simp) ?_
    refine AllReadyH.cons (o := _) rfl (fun K9 hK9 => ?_) (AllReadyH.cons (o := _) rfl (fun K9 hK9 => ?_) AllReadyH.nil)
    · go_simp
      refine (HRe _).mono ?_
      rintro r w1 ⟨q', QA, Qc, hq', rfl, hoq, hb1⟩
      have l1 := later hb1
      have hql := reachL_len hq'
      have hqe := hide (hasB_eq hq' ⟨e3, e4⟩)
      have HQ : ∀ u [Later w1 u], SlAt IDE.cells 2 u QA q' := fun u i => ((hoq.below i.below).at_ IDE.enc).2.2
      have l11 : Later w1 w1 := Later.refl
      clear hq' hoq
      (try dsimp only)
      refine hK9.out _ _ (by intro b _; infer_instance) (fun hHeld => ?_)
      clear hK9 K9
      (try simp only [Act.put])
      refine wpAnyH_ready (rs := [9, 11]) (by kernel_rfl) (by simp) ?_
      refine AllReadyH.cons (o := _) rfl (fun K9 hK9 => ?_) (AllReadyH.cons (o := _) rfl (fun K9 hK9 => ?_) AllReadyH.nil)
      · go_simp
        refine (has21_any QA Qc q' ⟨e3, e4⟩ _ (HQ _) (by omega)).mono ?_
        rintro r w2 ⟨rfl, hb2⟩
        have l2 := later hb2
        (try dsimp only)
        refine hK9.out _ _ (by intro b _; infer_instance) (fun hHeld => ?_)
        clear hK9 K9
        (try simp only [Act.put])
        refine wpAnyH_take (i := 10) (oi := _) (v := ?_) rfl (by kernel_rfl) (by kernel_rfl) (by kernel_rfl) (fun _ _ _ h => h) (Or.inl ⟨by rfl, ?_⟩) (by assumption) ?_
        rotate_left 1
        · (intro wy hSw; (try dsimp only at hSw); go_simp; try with_reducible rfl)
        (try simp only [Act.put])
        refine wpAnyH_ready (rs := [11]) (by kernel_rfl) (by simp) ?_
        refine AllReadyH.cons (o := _) rfl (fun K9 hK9 => ?_) AllReadyH.nil
        go_simp
        refine hK9.out _ _ (by intro b _; infer_instance) (fun hHeld => ?_)
        clear hK9 K9
        (try simp only [Act.put])
        refine wpAnyH_ready (rs := [12]) (by kernel_rfl) (by simp) ?_
        refine AllReadyH.cons (o := _) rfl (fun K9 hK9 => ?_) AllReadyH.nil
        go_simp
        refine hK9.out _ _ (by intro b _; infer_instance) (fun hHeld => ?_)
        clear hK9 K9
        (try simp only [Act.put])
        refine wpAnyH_done (by kernel_rfl) ?_ _
        go_wp2_with fail
        go_meet
        case rel => exact ⟨w2.heap.size, rfl, (l2 w0).below.size, by rw [HV.out, HX.out, ← hqe.out]; exact heap_alloc_new _ _, below_of⟩
      · go_simp
        have bx : (w1.alloc (.cells #[.int .i64 0, .int .u64 0, .bool false, .int .i64 0, .slice none 0 0] 41)).heap[w1.heap.size]? = some (.cells #[.int .i64 0, .int .u64 0, .bool false, .int .i64 0, .slice none 0 0] 41 (0, 0)) := heap_alloc_new _ _
        refine hK9.out _ _ (by intro b _; infer_instance) (fun hHeld => ?_)
        clear hK9 K9
        (try simp only [Act.put])
        refine wpAnyH_ready (rs := [9]) (by kernel_rfl) (by simp) ?_
        refine AllReadyH.cons (o := _) rfl (fun K9 hK9 => ?_) AllReadyH.nil
        go_simp
        refine (has21_any QA Qc q' ⟨e3, e4⟩ _ (HQ _) (by omega)).mono ?_
        rintro r w2 ⟨rfl, hb2⟩
        have l2 := later hb2
        (try dsimp only)
        have bx2 := blk_below bx hb2
        have BX2 := boxed bx2
        have l22 : Later w2 w2 := Later.refl
        refine hK9.out _ _ (by intro b _; infer_instance) (fun hHeld => ?_)
        clear hK9 K9
        (try simp only [Act.put])
        refine wpAnyH_take (i := 10) (oi := _) (v := ?_) rfl (by kernel_rfl) (by kernel_rfl) (by kernel_rfl) (fun _ _ _ h => h) (Or.inl ⟨by rfl, ?_⟩) (by assumption) ?_
        rotate_left 1
        · (intro wy hSw; (try dsimp only at hSw); go_simp; try with_reducible rfl)
        (try simp only [Act.put])
        refine wpAnyH_ready (rs := [12]) (by kernel_rfl) (by simp) ?_
        refine AllReadyH.cons (o := _) rfl (fun K9 hK9 => ?_) AllReadyH.nil
        go_simp
        have hb02 : Below w0.heap.size w0 w2 := below_of
        have hg1 : w0.heap.size ≤ w1.heap.size := (l1 w0).below.size
        have hLs := later (below_set5 (v0 := .int .i64 e1) (v1 := .int .u64 e2) (v2 := .bool (decide ((⟨e3, e4⟩ : IDE) ∈ q'))) (v3 := .int .i64 0) (v4 := .slice none 0 0) hb02 hg1)
        refine hK9.out _ _ (by exact hLs) (fun hHeld => ?_)
        clear hK9 K9
        (try simp only [Act.put])
        refine wpAnyH_done (by kernel_rfl) ?_ _
        go_wp2_with fail
        go_meet
        case rel => exact ⟨w1.heap.size, rfl, hg1, by rw [HV.out, HX.out, ← hqe.out]; exact blk_set5 bx2, below_set5 hb02 hg1⟩
    · go_simp
      have bx : (w0.drew.alloc (.cells #[.int .i64 0, .int .u64 0, .bool false, .int .i64 0, .slice none 0 0] 41)).heap[w0.heap.size]? = some (.cells #[.int .i64 0, .int .u64 0, .bool false, .int .i64 0, .slice none 0 0] 41 (0, 0)) := heap_alloc_new _ _
      refine hK9.out _ _ (by intro b _; infer_instance) (fun hHeld => ?_)
      clear hK9 K9
      (try simp only [Act.put])
      refine wpAnyH_ready (rs := [6]) (by kernel_rfl) (by simp) ?_
      refine AllReadyH.cons (o := _) rfl (fun K9 hK9 => ?_) AllReadyH.nil
      go_simp
      refine (HRe _).mono ?_
      rintro r w1 ⟨q', QA, Qc, hq', rfl, hoq, hb1⟩
      have l1 := later hb1
      have hql := reachL_len hq'
      have hqe := hide (hasB_eq hq' ⟨e3, e4⟩)
      have HQ : ∀ u [Later w1 u], SlAt IDE.cells 2 u QA q' := fun u i => ((hoq.below i.below).at_ IDE.enc).2.2
      have l11 : Later w1 w1 := Later.refl
      clear hq' hoq
      (try dsimp only)
      have bx1 := blk_below bx hb1
      refine hK9.out _ _ (by intro b _; infer_instance) (fun hHeld => ?_)
      clear hK9 K9
      (try simp only [Act.put])
      refine wpAnyH_ready (rs := [9]) (by kernel_rfl) (by simp) ?_
      refine AllReadyH.cons (o := _) rfl (fun K9 hK9 => ?_) AllReadyH.nil
      go_simp
      refine (has21_any QA Qc q' ⟨e3, e4⟩ _ (HQ _) (by omega)).mono ?_
      rintro r w2 ⟨rfl, hb2⟩
      have l2 := later hb2
      (try dsimp only)
      have bx2 := blk_below bx1 hb2
      have BX2 := boxed bx2
      have l22 : Later w2 w2 := Later.refl
      refine hK9.out _ _ (by intro b _; infer_instance) (fun hHeld => ?_)
      clear hK9 K9
      (try simp only [Act.put])
      refine wpAnyH_take (i := 10) (oi := _) (v := ?_) rfl (by kernel_rfl) (by kernel_rfl) (by kernel_rfl) (fun _ _ _ h => h) (Or.inl ⟨by rfl, ?_⟩) (by assumption) ?_
      rotate_left 1
      · (intro wy hSw; (try dsimp only at hSw); go_simp; try with_reducible rfl)
      (try simp only [Act.put])
      refine wpAnyH_ready (rs := [12]) (by kernel_rfl) (by simp) ?_
      refine AllReadyH.cons (o := _) rfl (fun K9 hK9 => ?_) AllReadyH.nil
      go_simp
      have hb02 : Below w0.heap.size w0 w2 := below_of
      have hg1 : w0.heap.size ≤ w0.heap.size := Nat.le_refl _
      have hLs := later (below_set5 (v0 := .int .i64 e1) (v1 := .int .u64 e2) (v2 := .bool (decide ((⟨e3, e4⟩ : IDE) ∈ q'))) (v3 := .int .i64 0) (v4 := .slice none 0 0) hb02 hg1)
      refine hK9.out _ _ (by exact hLs) (fun hHeld => ?_)
      clear hK9 K9
      (try simp only [Act.put])
      refine wpAnyH_done (by kernel_rfl) ?_ _
      go_wp2_with fail
      go_meet
      case rel => exact ⟨w0.heap.size, rfl, hg1, by rw [HV.out, HX.out, ← hqe.out]; exact blk_set5 bx2, below_set5 hb02 hg1⟩
  case rest =>
    obtain ⟨gS, rfl, hgS, hbS, hbc⟩ := hcut
    have lc := later hbc
    have lcc : Later wc wc := Later.refl
    have hwz : w.heap.size ≤ w0.heap.size := hb0.size
    have lw0 : Later w w0 := ⟨hb0⟩
    have HR1 : ∀ (x : IDE) (g : Nat) (u : World) [Later w u], SlAt IDE.cells 2 u (some ⟨g, 0, none⟩) [x] → Calls Try.prog 68 #[.agg #[.slice A l.length c], .slice (some ⟨g, 0, none⟩) 1 1] u (ReachPost (conL l) [x] u) := fun x g u i hs => reach16_any A c l (some ⟨g, 0, none⟩) 1 [x] u (HL _) hs hl hf (by simp)
    have HRt : ∀ (k : ScionE) u, Calls Try.prog 69 #[k.v] u fun r w' => r = .returned (.bool (rootB k)) ∧ Below u.heap.size u w' := fun k u => root_any k u
    have hkl' : ks.length ≤ 9223372036854775807 := by omega
    obtain ⟨d, hd⟩ : ∃ d : StubE, d = ⟨e1, e2, e3, e4, e5, e6, e7, e8, e9, e10, e11, e12⟩ := ⟨_, rfl⟩
    clear HRe hR
    unfold ReachPost at HR1
    go_wp2_with fail
    go_loopw [10, 11] (fun fv iv wr => ∃ (k : Nat) (fl : List Int) (FA : Option Addr) (FC : Nat) (il : List InsetE) (IA : Option Addr) (IC : Nat), k ≤ ks.length ∧ fv = .slice FA fl.length FC ∧ iv = .int .i64 k ∧ Hid (fl = (insL (conL l) (ks.take k) ⟨e3, e4⟩).map ScionE.distance) ∧ Hid (il = sortL ltIn ((insL (conL l) (ks.take k) ⟨e3, e4⟩).map toIn)) ∧ Hid (fl.length ≤ k ∧ il.length ≤ k) ∧
      Own I64.cells 1 3 w0.heap.size wr (.slice FA fl.length FC) fl ∧ Own InsetE.cells 3 58 w0.heap.size wr (.slice IA il.length IC) il ∧ wr.heap[gS]? = some (.cells #[.int .i64 e1, .int .u64 e2, .bool V, .int .i64 0, .slice IA il.length IC] 41 (0, 0)) ∧ Below w0.heap.size w0 wr) (fun _ iv _ => ks.length - (intOf iv).toNat)
    case atStart => exact ⟨0, [], some ⟨wc.heap.size, 0, none⟩, 0, [], none, 0, by omega, rfl, rfl, hide rfl, hide (sortL_nil (show Go.Sort.SWO ltIn from cmpIn_swo)).symm, hide ⟨by simp, by simp⟩, Own.empty hbc.size, Own.nil, blk_below hbS ((Below.refl _ _).alloc (Nat.le_refl _) _), hbc.alloc hbc.size _⟩
    case round =>
      obtain ⟨k, fl, FA, FC, il, IA, IC, hk, rfl, rfl, hfl, hil, hln, hof, hoi, hbx, hbr⟩ := hrel
      have lr := later hbr
      have lrr : Later wr wr := Later.refl
      have BS := boxed hbx
      by_cases hlt : k < ks.length
      · have hki : (k : Int) < (ks.length : Int) := by omega
        obtain ⟨b1, o1, s, rfl, hs, C1⟩ := ScionE.get (HK wr) hlt
        have HT := hide (insL_take (L := conL l) (x := ⟨e3, e4⟩) hs)
        clear hs
        have HRs := HRt s
        obtain ⟨k1, k2, k3, k4, k5, k6, k7, k8, k9, k10, k11, k12⟩ := s
        dsimp only [ScionE.v] at HRs
        obtain ⟨V1, hV1⟩ : ∃ V1, V1 = rootB ⟨k1, k2, k3, k4, k5, k6, k7, k8, k9, k10, k11, k12⟩ := ⟨_, rfl⟩
        rw [← hV1] at HRs
        have HV1 := hide hV1
        clear hV1
        go_upto_region 7 with fail
        refine wp_name ?_
        intro w3 hw3
        obtain ⟨B12, l3⟩ := box1 hw3
        clear hw3
        have l33 : Later w3 w3 := Later.refl
        cases V1
        · have hins : insB (conL l) ⟨e3, e4⟩ ⟨k1, k2, k3, k4, k5, k6, k7, k8, k9, k10, k11, k12⟩ = false := by unfold insB; rw [← HV1.out]; rfl
          have HT2 := hide (show insL (conL l) (ks.take (k + 1)) ⟨e3, e4⟩ = insL (conL l) (ks.take k) ⟨e3, e4⟩ by rw [HT.out, hins]; simp)
          clear hins
          (refine wp_region_after (by kernel_rfl) (by kernel_rfl) ?_
           repeat (any_goals (first | go_big_quiet_skip | (go_big_quiet_want; go_big_quiet_op; first | go_big_quiet_on | go_big_quiet_call ((go_at_call 69; exact Calls.after (HRs _)))) | quiet_step ((go_at_call 69; exact Calls.after (HRs _))) | (refine wpQuiet_step (fun K hK => ?_); go_simp; split <;> (refine hK _ ?_; clear hK K))))
           all_goals (refine wpQuiet_nil ?_; intro _ hw'; obtain ⟨u', hw''⟩ := hw'; subst hw''; obtain ⟨wd, hbd⟩ := u'; simp only [After.val_mk]))
          have ld := later hbd
          have hbrd : Below wr.heap.size wr wd := below_of
          go_wp2_with fail
          go_roundw
          case rel => exact ⟨k + 1, fl, FA, FC, il, IA, IC, by omega, rfl, by go_num, by rw [HT2.out]; exact hfl, by rw [HT2.out]; exact hil, hide (by have := hln.out; omega), hof.below hbrd, hoi.below hbrd, blk_below hbx hbrd, hbr.trans (hbrd.mono hbr.size)⟩
          case measure => simp [intOf]; omega
        obtain ⟨V2, hV2⟩ : ∃ V2, V2 = hasB (conL l) [⟨k3, k4⟩] ⟨e3, e4⟩ := ⟨_, rfl⟩
        have HV2 := hide hV2
        clear hV2
        have hins : insB (conL l) ⟨e3, e4⟩ ⟨k1, k2, k3, k4, k5, k6, k7, k8, k9, k10, k11, k12⟩ = V2 := by unfold insB; rw [← HV1.out, HV2.out]; rfl
        have HI := hide hins
        clear hins
        have HR2 := HR1 ⟨k3, k4⟩
        have HHs : ∀ (q' : List IDE) (A' : Option Addr) (c' : Nat) (u : World), ReachL (conL l) [⟨k3, k4⟩] q' → SlAt IDE.cells 2 u A' q' → Calls Try.prog 19 #[.slice A' q'.length c', .agg #[.int .i64 e3, .int .i64 e4]] u fun r w' => r = .returned (.bool V2) ∧ Below u.heap.size u w' := fun q' A' c' u hq' hs => by
          have h := has21_any A' c' q' ⟨e3, e4⟩ u hs (by have := reachL_len hq'; omega)
          rwa [hasB_eq hq', ← HV2.out] at h
        have HHs := hide HHs
        cases V2
        · have HT2 := hide (show insL (conL l) (ks.take (k + 1)) ⟨e3, e4⟩ = insL (conL l) (ks.take k) ⟨e3, e4⟩ by rw [HT.out, HI.out]; simp)
          go_region_held3 (fun w' => ∀ b [Later b w3], Later b w') ((intro b _; infer_instance))
            ((first
              | (go_at_call 69; refine (HRs _).mono ?_; rintro r w4 ⟨rfl, hb4⟩; have l4 := later hb4; have l44 : Later w4 w4 := Later.refl)
              | (go_at_call 68; refine (HR2 _ _ (by first | exact sl_new33 _ ⟨k3, k4⟩ | exact sl_new33_drew _ ⟨k3, k4⟩)).mono ?_; rintro r w9 ⟨q', QA', Qc', hq', rfl, hoq', hb9⟩; have l9 := later hb9; have l99 : Later w9 w9 := Later.refl)
              | (go_at_call 19; refine (HHs.out q' QA' Qc' _ hq' ((hoq'.later _).at_ IDE.enc).2.2).mono ?_; rintro r w10 ⟨rfl, hb10⟩; have l10 := later hb10; have l1010 : Later w10 w10 := Later.refl)))
          have hbrd : Below wr.heap.size wr w10 := below_of
          go_wp2_with fail
          go_roundw
          case rel => exact ⟨k + 1, fl, FA, FC, il, IA, IC, by omega, rfl, by go_num, by rw [HT2.out]; exact hfl, by rw [HT2.out]; exact hil, hide (by have := hln.out; omega), hof.below hbrd, hoi.below hbrd, blk_below hbx hbrd, hbr.trans (hbrd.mono hbr.size)⟩
          case measure => simp [intOf]; omega
        have HT2 := hide (show insL (conL l) (ks.take (k + 1)) ⟨e3, e4⟩ = insL (conL l) (ks.take k) ⟨e3, e4⟩ ++ [⟨k1, k2, k3, k4, k5, k6, k7, k8, k9, k10, k11, k12⟩] by rw [HT.out, HI.out]; rfl)
        go_region_held3 (fun w' => ∀ b [Later b w3], Later b w') ((intro b _; infer_instance))
          ((first
            | (go_at_call 69; refine (HRs _).mono ?_; rintro r w4 ⟨rfl, hb4⟩; have l4 := later hb4; have l44 : Later w4 w4 := Later.refl)
            | (go_at_call 68; refine (HR2 _ _ (by first | exact sl_new33 _ ⟨k3, k4⟩ | exact sl_new33_drew _ ⟨k3, k4⟩)).mono ?_; rintro r w9 ⟨q', QA', Qc', hq', rfl, hoq', hb9⟩; have l9 := later hb9; have l99 : Later w9 w9 := Later.refl)
            | (go_at_call 19; refine (HHs.out q' QA' Qc' _ hq' ((hoq'.later _).at_ IDE.enc).2.2).mono ?_; rintro r w10 ⟨rfl, hb10⟩; have l10 := later hb10; have l1010 : Later w10 w10 := Later.refl)))
        have hbrd : Below wr.heap.size wr w10 := below_of
        have hof10 := hof.below hbrd
        have hoi10 := hoi.below hbrd
        have hbx10 := blk_below hbx hbrd
        have h12 := (B12 w10).1
        have hb010 := hbr.trans (hbrd.mono hbr.size)
        have hz10 : w0.heap.size ≤ w10.heap.size := hb010.size
        have hlf := hln.out.1
        have hli := hln.out.2
        clear hof hoi hbx BS HHs HR2
        go_upto_region 9 with (at_builtin; refine wpList_app1 rfl (.tmp 52) (.tmp 55) rfl I64.enc farT (k7 : Int) rfl rfl rfl hof10 (by rfl) (by omega) (by unfold maxLen; omega) hz10 ?_; intro A9 c9 w9 ho9 hm9 hb9 hg9 hat9)
        have hoi9 := own_grownOwn hof10 hg9 hoi10 (by decide)
        have hbx9 := heap_grownOwn hof10 hg9 hbx10 (by decide)
        have h129 := heap_grownOwn hof10 hg9 h12 (by decide)
        have hb09 : Below w0.heap.size w0 w9 := hb010.trans hb9
        have BS := boxed hbx9
        have B12' := boxed h129
        have l9 := later hb09
        have l99 : Later w9 w9 := Later.refl
        clear hof10 hoi10 hbx10 h12 B12 hg9 hat9 hb010 hb9
        go_upto_region 10 with fail
        refine wp_name ?_
        intro w11 hw11
        obtain ⟨B13, l11⟩ := box1 hw11
        clear hw11
        have l1111 : Later w11 w11 := Later.refl
        have HI : ∀ u [Later w11 u], SlAt InsetE.cells 3 u IA il := fun u i => by
          haveI := (l11 w9).trans i
          exact ((hoi9.below below_of).at_ InsetE.enc).2.2
        have hcap : il.length ≤ IC := (hoi9.at_ InsetE.enc).2.1
        have hicm : IC ≤ 9223372036854775807 := by
          rcases hoi9.form with ⟨h, _⟩ | ⟨g, cap, h, _, _, _, h2⟩
          · injection h with _ _ h; omega
          · injection h with _ _ h; unfold maxLen at h2; omega
        have hil63 : il.length ≤ 9223372036854775807 := by omega
        go_wp2_with fail
        go_loopw [14] (fun av wr => ∃ a : Nat, a ≤ il.length ∧ av = .int .i64 a ∧ Hid (∀ j z, a ≤ j → il[j]? = some z → ltIn ⟨k1, k2, k5⟩ z = true) ∧ Below w11.heap.size w11 wr) (fun av _ => (intOf av).toNat)
        case atStart => exact ⟨il.length, by omega, rfl, hide (fun j z h hz => by rw [List.getElem?_eq_none h] at hz; cases hz), Below.refl _ _⟩
        case round =>
          obtain ⟨a, ha, rfl, hab, hbm⟩ := hrel
          have lm := later hbm
          have lmm : Later wr wr := Later.refl
          by_cases h0 : 0 < a
          · have hap : (0 : Int) < (a : Int) := by omega
            obtain ⟨p, hp⟩ : ∃ p, a = p + 1 := ⟨a - 1, by omega⟩
            have hai : (a : Int) - 1 = (p : Int) := by omega
            obtain ⟨b2, o2, z, rfl, hz, C2⟩ := InsetE.get (HI wr) (show p < il.length by omega)
            have HB : ∀ u, Calls Try.prog 70 #[.agg #[.int .i64 k1, .int .u64 k2, .int .i64 k5], z.v] u fun r w' => r = .returned (.bool (ltIn ⟨k1, k2, k5⟩ z)) ∧ Below u.heap.size u w' := fun u => before_any ⟨k1, k2, k5⟩ z u
            dsimp only [InsetE.v] at HB
            have Hz := hide hz
            have Hp := hide hp
            have hpl : p < il.length := by omega
            clear hz hp
            cases hlz : ltIn ⟨k1, k2, k5⟩ z <;> rw [hlz] at HB
            · have Hlz := hide hlz
              clear hlz
              go_upto_region 11 with fail
              (refine wp_region_after (by kernel_rfl) (by kernel_rfl) ?_
               repeat (any_goals (first | go_big_quiet_skip | (go_big_quiet_want; go_big_quiet_op; first | go_big_quiet_on | go_big_quiet_call ((go_at_call 70; exact Calls.after (HB _)))) | quiet_step ((go_at_call 70; exact Calls.after (HB _))) | (refine wpQuiet_step (fun K hK => ?_); go_simp; split <;> (refine hK _ ?_; clear hK K))))
               all_goals (refine wpQuiet_nil ?_; intro _ hw'; obtain ⟨u', hw''⟩ := hw'; subst hw''; obtain ⟨wd, hbd⟩ := u'; simp only [After.val_mk]))
              have ld := later hbd
              have ldd : Later wd wd := Later.refl
              have hsrc : ∀ u [Later w11 u], SlAt InsetE.cells 3 u (if IC = a then some ⟨b2, o2, none⟩ else some ⟨b2, o2 + a * 3, none⟩) (il.drop a) := fun u i => by
                split
                · rw [List.drop_eq_nil_of_le (by omega)]; exact SlAt.nil
                · exact SlAt.drop (HI u) a
              have H2 := hide (show ∀ p' z', p' + 1 = a → il[p']? = some z' → ltIn ⟨k1, k2, k5⟩ z' = false from fun p' z' h hz' => by
                have : p' = p := by have := Hp.out; omega
                subst this
                rw [Hz.out] at hz'; injection hz' with hz'; subst hz'; exact Hlz.out)
              have HD := hide (show il.drop a = il.drop a from rfl)
              have htk : (il.take a).length = a := by rw [List.length_take]; omega
              have hdk : (il.drop a).length = il.length - a := by rw [List.length_drop]
              have hk0 : (0 : Int) ≤ (a : Int) := by omega
              have hkc : (a : Int) ≤ (IC : Int) := by omega
              have hkll : (a : Int) ≤ (il.length : Int) := by omega
              have lw9d : Later w9 wd := (l11 w9).trans (inferInstance : Later w11 wd)
              have hSd := blk_below hbx9 lw9d.below
              have BSd := boxed hSd
              have B13d : Boxed wd w9.heap.size #[.int .i64 k1, .int .u64 k2, .int .i64 k5] 58 := boxed_later B13
              have hne13 : w9.heap.size ≠ gS := by have := blk_lt hbx9; omega
              go_upto_region 14 with (at_builtin; refine wpList_appE rfl (.tmp 81) (.tmp 85) rfl InsetE.enc insT _ _ (il.take a) rfl (by rw [htk]; rfl) ((HI _).take _) (by omega) (by unfold maxLen; omega) ?_; intro Ab cb w12 ho12 hm12 hb12; rw [htk] at ho12; have l12 := later hb12; have l1212 : Later w12 w12 := Later.refl)
              have hz12 : wd.heap.size ≤ w12.heap.size := hb12.size
              refine wp_region_held_drew (S := fun w' => ∀ i : Nat, w'.cell? ⟨w9.heap.size, i, none⟩ = (#[.int .i64 k1, .int .u64 k2, .int .i64 k5] : Array Value)[i]?) (by kernel_rfl) (fun i => ((B13d _).2 i).1) (fun hHeld => ?_)
              refine wpAnyH_take (i := 0) (oi := _) (v := ?_) rfl (by kernel_rfl) (by kernel_rfl) (by kernel_rfl) (fun _ _ _ h => h) (Or.inl ⟨by rfl, ?_⟩) (by assumption) ?_
              rotate_left 1
              · (intro wy hSw; (try dsimp only at hSw); go_simp; try with_reducible rfl)
              (try simp only [Act.put])
              refine wpAnyH_take (i := 1) (oi := _) (v := ?_) rfl (by kernel_rfl) (by kernel_rfl) (by kernel_rfl) (fun _ _ _ h => h) (Or.inl ⟨by rfl, ?_⟩) (by assumption) ?_
              rotate_left 1
              · (intro wy hSw; (try dsimp only at hSw); go_simp; try with_reducible rfl)
              (try simp only [Act.put])
              refine wpAnyH_take (i := 4) (oi := _) (v := ?_) rfl (by kernel_rfl) (by kernel_rfl) (by kernel_rfl) (fun _ _ _ h => h) (Or.inl ⟨by rfl, ?_⟩) (by assumption) ?_
              rotate_left 1
              · (intro wy hSw; (try dsimp only at hSw); go_simp; try with_reducible rfl)
              (try simp only [Act.put])
              refine wpAnyH_take (i := 6) (oi := _) (v := ?_) rfl (by kernel_rfl) (by kernel_rfl) (by kernel_rfl) (fun _ _ _ h => h) (Or.inl ⟨by rfl, ?_⟩) (by assumption) ?_
              rotate_left 1
              · (intro wy hSw; (try dsimp only at hSw); go_simp; try with_reducible rfl)
              (try simp only [Act.put])
              refine wpAnyH_ready (rs := [2, 5]) (by kernel_rfl) (by simp) ?_
              refine AllReadyH.cons (o := _) rfl (fun K9 hK9 => ?_) (AllReadyH.cons (o := _) rfl (fun K9 hK9 => ?_) AllReadyH.nil)
              · go_simp
                refine hK9.out _ _ (fun i => ((B13d _).2 i).1) (fun hHeld => ?_)
                clear hK9 K9
                (try simp only [Act.put])
                refine wpAnyH_ready (rs := [3, 5]) (by kernel_rfl) (by simp) ?_
                refine AllReadyH.cons (o := _) rfl (fun K9 hK9 => ?_) (AllReadyH.cons (o := _) rfl (fun K9 hK9 => ?_) AllReadyH.nil)
                · refine step_app (P := Try.prog) rfl (.tmp 87) (.tmp 89) (by rfl) InsetE.enc insT _ _ [⟨k1, k2, k5⟩] (il.take a) (.slice Ab a cb) (by rfl) (by rfl) (m := 1) (n := a + 1) rfl (by rw [htk]) (ho12.later _) (blk_slAt InsetE.enc (fr := (0, 0)) (e := 58) (heap_alloc_new _ _) [⟨k1, k2, k5⟩] rfl) (by omega) (by unfold maxLen; omega) (by simp only [heap_drew, World.size_alloc]; omega) ?_
                  intro A2 c2 w13 ho13 hm13 hb13 hg13
                  have l13 := later_base (W := wd) hb13
                  have l1313 : Later w13 w13 := Later.refl
                  have hz13' : wd.heap.size ≤ w13.heap.size := (l13 wd).below.size
                  refine hK9.out _ _ (fun i => ((B13d _).2 i).1) (fun hHeld => ?_)
                  clear hK9 K9
                  (try simp only [Act.put])
                  refine wpAnyH_ready (rs := [5]) (by kernel_rfl) (by simp) ?_
                  refine AllReadyH.cons (o := _) rfl (fun K9 hK9 => ?_) AllReadyH.nil
                  go_simp
                  refine hK9.out _ _ (fun i => ((B13d _).2 i).1) (fun hHeld => ?_)
                  clear hK9 K9
                  (try simp only [Act.put])
                  refine wpAnyH_take (i := 7) (oi := _) (v := ?_) rfl (by kernel_rfl) (by kernel_rfl) (by kernel_rfl) (fun _ _ _ h => h) (Or.inl ⟨by rfl, ?_⟩) (by assumption) ?_
                  rotate_left 1
                  · (intro wy hSw; (try dsimp only at hSw); go_simp; try with_reducible rfl)
                  (try simp only [Act.put])
                  refine wpAnyH_ready (rs := [8]) (by kernel_rfl) (by simp) ?_
                  refine AllReadyH.cons (o := _) rfl (fun K9 hK9 => ?_) AllReadyH.nil
                  refine step_app (P := Try.prog) rfl (.tmp 90) (.tmp 94) (by rfl) InsetE.enc insT (if IC = a then some ⟨b2, o2, none⟩ else some ⟨b2, o2 + a * 3, none⟩) (IC - a) (il.drop a) (il.take a ++ [⟨k1, k2, k5⟩]) (.slice A2 (a + 1) c2) (by rfl) (by rfl) (m := il.length - a) (n := il.length + 1) hdk (by simp only [List.length_append, htk, List.length_singleton] <;> omega) (ho13.later _) (hsrc _) (by omega) (by unfold maxLen; omega) (by (try simp only [heap_drew, World.size_alloc]); omega) ?_
                  intro A3 c3 w14 ho14 hm14 hb14 hg14
                  have l14 := later_base (W := wd) hb14
                  have l1414 : Later w14 w14 := Later.refl
                  refine hK9.out _ _ (fun i => ((B13d _).2 i).1) (fun hHeld => ?_)
                  clear hK9 K9
                  (try simp only [Act.put])
                  refine wpAnyH_take (i := 9) (oi := _) (v := ?_) rfl (by kernel_rfl) (by kernel_rfl) (by kernel_rfl) (fun _ _ _ h => h) (Or.inl ⟨by rfl, ?_⟩) (by assumption) ?_
                  rotate_left 1
                  · (intro wy hSw; (try dsimp only at hSw); go_simp; try with_reducible rfl)
                  (try simp only [Act.put])
                  refine wpAnyH_ready (rs := [10]) (by kernel_rfl) (by simp) ?_
                  refine AllReadyH.cons (o := _) rfl (fun K9 hK9 => ?_) AllReadyH.nil
                  go_simp
                  refine hK9.out _ _ (fun i => blk_cell ((blk_far (p := ⟨gS, 4, none⟩) hne13 _).trans (B13d w14).1) i) (fun hHeld => ?_)
                  clear hK9 K9
                  (try simp only [Act.put])
                  refine wpAnyH_done (by kernel_rfl) ?_ _
                  go_wp2_with fail
                  have hbd14 : Below wd.heap.size wd w14 := (l14 wd).below
                  have ho9d := (ho9.below lw9d.below).below hbd14
                  have hS14 := blk_below hSd hbd14
                  have ho9e := ho9d.far (p := ⟨gS, 4, none⟩) (own_off ho9d hS14 (by decide)) (.slice A3 (il.length + 1) c3)
                  have hz0d : w0.heap.size ≤ wd.heap.size := (hb09.trans (lw9d.below.mono hb09.size)).size
                  have ho14m := ho14.mono hz0d
                  have ho14e := ho14m.far (p := ⟨gS, 4, none⟩) (own_off ho14m hS14 (by decide)) (.slice A3 (il.length + 1) c3)
                  have hNL := hide (ho14.at_ InsetE.enc).1
                  have hbE := ((hb09.trans (lw9d.below.mono hb09.size)).trans (hbd14.mono hz0d)).setCell (p := ⟨gS, 4, none⟩) hgS (.slice A3 (il.length + 1) c3)
                  have hins := insert_sortL (show Go.Sort.SWO ltIn from cmpIn_swo) (M := (insL (conL l) (ks.take k) ⟨e3, e4⟩).map toIn) (y := ⟨k1, k2, k5⟩) (a := a) (by rw [← hil.out]; omega) (by rw [← hil.out]; exact hab.out) (by rw [← hil.out]; exact H2.out)
                  rw [← hil.out, HD.out] at hins
                  go_roundw
                  case rel => exact ⟨k + 1, fl ++ [k7], A9, c9, il.take a ++ [⟨k1, k2, k5⟩] ++ (il.drop a), A3, c3, by omega, by rw [List.length_append]; rfl, by go_num, hide (by rw [HT2.out, List.map_append, ← hfl.out]; rfl), hide (by rw [HT2.out, List.map_append]; exact hins), hide (by rw [← hNL.out, List.length_append, List.length_singleton]; omega), by rw [List.length_append]; exact ho9e, by rw [← hNL.out]; exact ho14e, by rw [← hNL.out]; exact (blk_set hS14 4 _).trans rfl, hbE⟩
                  case measure => simp [intOf]; omega
                · go_simp
                  refine hK9.out _ _ (fun i => ((B13d _).2 i).1) (fun hHeld => ?_)
                  clear hK9 K9
                  (try simp only [Act.put])
                  refine wpAnyH_take (i := 7) (oi := _) (v := ?_) rfl (by kernel_rfl) (by kernel_rfl) (by kernel_rfl) (fun _ _ _ h => h) (Or.inl ⟨by rfl, ?_⟩) (by assumption) ?_
                  rotate_left 1
                  · (intro wy hSw; (try dsimp only at hSw); go_simp; try with_reducible rfl)
                  (try simp only [Act.put])
                  refine wpAnyH_ready (rs := [3]) (by kernel_rfl) (by simp) ?_
                  refine AllReadyH.cons (o := _) rfl (fun K9 hK9 => ?_) AllReadyH.nil
                  refine step_app (P := Try.prog) rfl (.tmp 87) (.tmp 89) (by rfl) InsetE.enc insT _ _ [⟨k1, k2, k5⟩] (il.take a) (.slice Ab a cb) (by rfl) (by rfl) (m := 1) (n := a + 1) rfl (by rw [htk]) (ho12.later _) (blk_slAt InsetE.enc (fr := (0, 0)) (e := 58) (heap_alloc_new _ _) [⟨k1, k2, k5⟩] rfl) (by omega) (by unfold maxLen; omega) (by simp only [heap_drew, World.size_alloc]; omega) ?_
                  intro A2 c2 w13 ho13 hm13 hb13 hg13
                  have l13 := later_base (W := wd) hb13
                  have l1313 : Later w13 w13 := Later.refl
                  have hz13' : wd.heap.size ≤ w13.heap.size := (l13 wd).below.size
                  refine hK9.out _ _ (fun i => ((B13d _).2 i).1) (fun hHeld => ?_)
                  clear hK9 K9
                  (try simp only [Act.put])
                  refine wpAnyH_ready (rs := [8]) (by kernel_rfl) (by simp) ?_
                  refine AllReadyH.cons (o := _) rfl (fun K9 hK9 => ?_) AllReadyH.nil
                  refine step_app (P := Try.prog) rfl (.tmp 90) (.tmp 94) (by rfl) InsetE.enc insT (if IC = a then some ⟨b2, o2, none⟩ else some ⟨b2, o2 + a * 3, none⟩) (IC - a) (il.drop a) (il.take a ++ [⟨k1, k2, k5⟩]) (.slice A2 (a + 1) c2) (by rfl) (by rfl) (m := il.length - a) (n := il.length + 1) hdk (by simp only [List.length_append, htk, List.length_singleton] <;> omega) (ho13.later _) (hsrc _) (by omega) (by unfold maxLen; omega) (by (try simp only [heap_drew, World.size_alloc]); omega) ?_
                  intro A3 c3 w14 ho14 hm14 hb14 hg14
                  have l14 := later_base (W := wd) hb14
                  have l1414 : Later w14 w14 := Later.refl
                  refine hK9.out _ _ (fun i => ((B13d _).2 i).1) (fun hHeld => ?_)
                  clear hK9 K9
                  (try simp only [Act.put])
                  refine wpAnyH_take (i := 9) (oi := _) (v := ?_) rfl (by kernel_rfl) (by kernel_rfl) (by kernel_rfl) (fun _ _ _ h => h) (Or.inl ⟨by rfl, ?_⟩) (by assumption) ?_
                  rotate_left 1
                  · (intro wy hSw; (try dsimp only at hSw); go_simp; try with_reducible rfl)
                  (try simp only [Act.put])
                  refine wpAnyH_ready (rs := [10]) (by kernel_rfl) (by simp) ?_
                  refine AllReadyH.cons (o := _) rfl (fun K9 hK9 => ?_) AllReadyH.nil
                  go_simp
                  refine hK9.out _ _ (fun i => blk_cell ((blk_far (p := ⟨gS, 4, none⟩) hne13 _).trans (B13d w14).1) i) (fun hHeld => ?_)
                  clear hK9 K9
                  (try simp only [Act.put])
                  refine wpAnyH_done (by kernel_rfl) ?_ _
                  go_wp2_with fail
                  have hbd14 : Below wd.heap.size wd w14 := (l14 wd).below
                  have ho9d := (ho9.below lw9d.below).below hbd14
                  have hS14 := blk_below hSd hbd14
                  have ho9e := ho9d.far (p := ⟨gS, 4, none⟩) (own_off ho9d hS14 (by decide)) (.slice A3 (il.length + 1) c3)
                  have hz0d : w0.heap.size ≤ wd.heap.size := (hb09.trans (lw9d.below.mono hb09.size)).size
                  have ho14m := ho14.mono hz0d
                  have ho14e := ho14m.far (p := ⟨gS, 4, none⟩) (own_off ho14m hS14 (by decide)) (.slice A3 (il.length + 1) c3)
                  have hNL := hide (ho14.at_ InsetE.enc).1
                  have hbE := ((hb09.trans (lw9d.below.mono hb09.size)).trans (hbd14.mono hz0d)).setCell (p := ⟨gS, 4, none⟩) hgS (.slice A3 (il.length + 1) c3)
                  have hins := insert_sortL (show Go.Sort.SWO ltIn from cmpIn_swo) (M := (insL (conL l) (ks.take k) ⟨e3, e4⟩).map toIn) (y := ⟨k1, k2, k5⟩) (a := a) (by rw [← hil.out]; omega) (by rw [← hil.out]; exact hab.out) (by rw [← hil.out]; exact H2.out)
                  rw [← hil.out, HD.out] at hins
                  go_roundw
                  case rel => exact ⟨k + 1, fl ++ [k7], A9, c9, il.take a ++ [⟨k1, k2, k5⟩] ++ (il.drop a), A3, c3, by omega, by rw [List.length_append]; rfl, by go_num, hide (by rw [HT2.out, List.map_append, ← hfl.out]; rfl), hide (by rw [HT2.out, List.map_append]; exact hins), hide (by rw [← hNL.out, List.length_append, List.length_singleton]; omega), by rw [List.length_append]; exact ho9e, by rw [← hNL.out]; exact ho14e, by rw [← hNL.out]; exact (blk_set hS14 4 _).trans rfl, hbE⟩
                  case measure => simp [intOf]; omega
              · go_simp
                refine hK9.out _ _ (fun i => ((B13d _).2 i).1) (fun hHeld => ?_)
                clear hK9 K9
                (try simp only [Act.put])
                refine wpAnyH_take (i := 7) (oi := _) (v := ?_) rfl (by kernel_rfl) (by kernel_rfl) (by kernel_rfl) (fun _ _ _ h => h) (Or.inl ⟨by rfl, ?_⟩) (by assumption) ?_
                rotate_left 1
                · (intro wy hSw; (try dsimp only at hSw); go_simp; try with_reducible rfl)
                (try simp only [Act.put])
                refine wpAnyH_ready (rs := [2]) (by kernel_rfl) (by simp) ?_
                refine AllReadyH.cons (o := _) rfl (fun K9 hK9 => ?_) AllReadyH.nil
                go_simp
                refine hK9.out _ _ (fun i => ((B13d _).2 i).1) (fun hHeld => ?_)
                clear hK9 K9
                (try simp only [Act.put])
                refine wpAnyH_ready (rs := [3]) (by kernel_rfl) (by simp) ?_
                refine AllReadyH.cons (o := _) rfl (fun K9 hK9 => ?_) AllReadyH.nil
                refine step_app (P := Try.prog) rfl (.tmp 87) (.tmp 89) (by rfl) InsetE.enc insT _ _ [⟨k1, k2, k5⟩] (il.take a) (.slice Ab a cb) (by rfl) (by rfl) (m := 1) (n := a + 1) rfl (by rw [htk]) (ho12.later _) (blk_slAt InsetE.enc (fr := (0, 0)) (e := 58) (heap_alloc_new _ _) [⟨k1, k2, k5⟩] rfl) (by omega) (by unfold maxLen; omega) (by simp only [heap_drew, World.size_alloc]; omega) ?_
                intro A2 c2 w13 ho13 hm13 hb13 hg13
                have l13 := later_base (W := wd) hb13
                have l1313 : Later w13 w13 := Later.refl
                have hz13' : wd.heap.size ≤ w13.heap.size := (l13 wd).below.size
                refine hK9.out _ _ (fun i => ((B13d _).2 i).1) (fun hHeld => ?_)
                clear hK9 K9
                (try simp only [Act.put])
                refine wpAnyH_ready (rs := [8]) (by kernel_rfl) (by simp) ?_
                refine AllReadyH.cons (o := _) rfl (fun K9 hK9 => ?_) AllReadyH.nil
                refine step_app (P := Try.prog) rfl (.tmp 90) (.tmp 94) (by rfl) InsetE.enc insT (if IC = a then some ⟨b2, o2, none⟩ else some ⟨b2, o2 + a * 3, none⟩) (IC - a) (il.drop a) (il.take a ++ [⟨k1, k2, k5⟩]) (.slice A2 (a + 1) c2) (by rfl) (by rfl) (m := il.length - a) (n := il.length + 1) hdk (by simp only [List.length_append, htk, List.length_singleton] <;> omega) (ho13.later _) (hsrc _) (by omega) (by unfold maxLen; omega) (by (try simp only [heap_drew, World.size_alloc]); omega) ?_
                intro A3 c3 w14 ho14 hm14 hb14 hg14
                have l14 := later_base (W := wd) hb14
                have l1414 : Later w14 w14 := Later.refl
                refine hK9.out _ _ (fun i => ((B13d _).2 i).1) (fun hHeld => ?_)
                clear hK9 K9
                (try simp only [Act.put])
                refine wpAnyH_take (i := 9) (oi := _) (v := ?_) rfl (by kernel_rfl) (by kernel_rfl) (by kernel_rfl) (fun _ _ _ h => h) (Or.inl ⟨by rfl, ?_⟩) (by assumption) ?_
                rotate_left 1
                · (intro wy hSw; (try dsimp only at hSw); go_simp; try with_reducible rfl)
                (try simp only [Act.put])
                refine wpAnyH_ready (rs := [10]) (by kernel_rfl) (by simp) ?_
                refine AllReadyH.cons (o := _) rfl (fun K9 hK9 => ?_) AllReadyH.nil
                go_simp
                refine hK9.out _ _ (fun i => blk_cell ((blk_far (p := ⟨gS, 4, none⟩) hne13 _).trans (B13d w14).1) i) (fun hHeld => ?_)
                clear hK9 K9
                (try simp only [Act.put])
                refine wpAnyH_done (by kernel_rfl) ?_ _
                go_wp2_with fail
                have hbd14 : Below wd.heap.size wd w14 := (l14 wd).below
                have ho9d := (ho9.below lw9d.below).below hbd14
                have hS14 := blk_below hSd hbd14
                have ho9e := ho9d.far (p := ⟨gS, 4, none⟩) (own_off ho9d hS14 (by decide)) (.slice A3 (il.length + 1) c3)
                have hz0d : w0.heap.size ≤ wd.heap.size := (hb09.trans (lw9d.below.mono hb09.size)).size
                have ho14m := ho14.mono hz0d
                have ho14e := ho14m.far (p := ⟨gS, 4, none⟩) (own_off ho14m hS14 (by decide)) (.slice A3 (il.length + 1) c3)
                have hNL := hide (ho14.at_ InsetE.enc).1
                have hbE := ((hb09.trans (lw9d.below.mono hb09.size)).trans (hbd14.mono hz0d)).setCell (p := ⟨gS, 4, none⟩) hgS (.slice A3 (il.length + 1) c3)
                have hins := insert_sortL (show Go.Sort.SWO ltIn from cmpIn_swo) (M := (insL (conL l) (ks.take k) ⟨e3, e4⟩).map toIn) (y := ⟨k1, k2, k5⟩) (a := a) (by rw [← hil.out]; omega) (by rw [← hil.out]; exact hab.out) (by rw [← hil.out]; exact H2.out)
                rw [← hil.out, HD.out] at hins
                go_roundw
                case rel => exact ⟨k + 1, fl ++ [k7], A9, c9, il.take a ++ [⟨k1, k2, k5⟩] ++ (il.drop a), A3, c3, by omega, by rw [List.length_append]; rfl, by go_num, hide (by rw [HT2.out, List.map_append, ← hfl.out]; rfl), hide (by rw [HT2.out, List.map_append]; exact hins), hide (by rw [← hNL.out, List.length_append, List.length_singleton]; omega), by rw [List.length_append]; exact ho9e, by rw [← hNL.out]; exact ho14e, by rw [← hNL.out]; exact (blk_set hS14 4 _).trans rfl, hbE⟩
                case measure => simp [intOf]; omega
            · have Hab := hide (show ∀ j z, p ≤ j → il[j]? = some z → ltIn ⟨k1, k2, k5⟩ z = true from fun j z' h hz' => by
                rcases Nat.lt_or_ge p j with h1 | h1
                · exact hab.out j z' (by have := Hp.out; omega) hz'
                · have : j = p := by omega
                  subst this
                  rw [Hz.out] at hz'; injection hz' with hz'; subst hz'; exact hlz)
              clear hlz
              go_upto_region 11 with fail
              (refine wp_region_after (by kernel_rfl) (by kernel_rfl) ?_
               repeat (any_goals (first | go_big_quiet_skip | (go_big_quiet_want; go_big_quiet_op; first | go_big_quiet_on | go_big_quiet_call ((go_at_call 70; exact Calls.after (HB _)))) | quiet_step ((go_at_call 70; exact Calls.after (HB _))) | (refine wpQuiet_step (fun K hK => ?_); go_simp; split <;> (refine hK _ ?_; clear hK K))))
               all_goals (refine wpQuiet_nil ?_; intro _ hw'; obtain ⟨u', hw''⟩ := hw'; subst hw''; obtain ⟨wd, hbd⟩ := u'; simp only [After.val_mk]))
              have ld := later hbd
              go_wp2_with fail
              go_roundw
              case rel => exact ⟨p, by omega, by go_num, Hab, below_of⟩
              case measure => simp [intOf]; have := Hp.out; omega
          · have ha0 : a = 0 := by omega
            subst ha0
            have H2 := hide (show ∀ p' z', p' + 1 = 0 → il[p']? = some z' → ltIn ⟨k1, k2, k5⟩ z' = false from fun p' z' h hz' => absurd h (by omega))
            by_cases hne : il = []
            · have Hne := hide hne
              clear hne
              have HD := hide (show il.drop 0 = [] by rw [Hne.out]; rfl)
              rcases IA with _ | ad
              · go_upto_region 11 with fail
                (refine wp_region_after (by kernel_rfl) (by kernel_rfl) ?_
                 repeat (any_goals (first | go_big_quiet_skip | (go_big_quiet_want; go_big_quiet_op; first | go_big_quiet_on | go_big_quiet_call (fail)) | quiet_step (fail) | (refine wpQuiet_step (fun K hK => ?_); go_simp; split <;> (refine hK _ ?_; clear hK K))))
                 all_goals (refine wpQuiet_nil ?_; intro _ hw'; obtain ⟨u', hw''⟩ := hw'; subst hw''; obtain ⟨wd, hbd⟩ := u'; simp only [After.val_mk]))
                have ld := later hbd
                have ldd : Later wd wd := Later.refl
                have htk : (il.take 0).length = 0 := by rw [List.length_take]; omega
                have hdk : (il.drop 0).length = il.length - 0 := by rw [List.length_drop]
                have hk0 : (0 : Int) ≤ (0 : Int) := by omega
                have hkc : (0 : Int) ≤ (IC : Int) := by omega
                have hkll : (0 : Int) ≤ (il.length : Int) := by omega
                have lw9d : Later w9 wd := (l11 w9).trans (inferInstance : Later w11 wd)
                have hSd := blk_below hbx9 lw9d.below
                have BSd := boxed hSd
                have B13d : Boxed wd w9.heap.size #[.int .i64 k1, .int .u64 k2, .int .i64 k5] 58 := boxed_later B13
                have hne13 : w9.heap.size ≠ gS := by have := blk_lt hbx9; omega
                go_upto_region 14 with (at_builtin; refine wpList_appE rfl (.tmp 81) (.tmp 85) rfl InsetE.enc insT _ _ (il.take 0) rfl (by rw [htk]; rfl) ((HI _).take _) (by omega) (by unfold maxLen; omega) ?_; intro Ab cb w12 ho12 hm12 hb12; rw [htk] at ho12; have l12 := later hb12; have l1212 : Later w12 w12 := Later.refl)
                have hz12 : wd.heap.size ≤ w12.heap.size := hb12.size
                refine wp_region_held_drew (S := fun w' => ∀ i : Nat, w'.cell? ⟨w9.heap.size, i, none⟩ = (#[.int .i64 k1, .int .u64 k2, .int .i64 k5] : Array Value)[i]?) (by kernel_rfl) (fun i => ((B13d _).2 i).1) (fun hHeld => ?_)
                refine wpAnyH_take (i := 0) (oi := _) (v := ?_) rfl (by kernel_rfl) (by kernel_rfl) (by kernel_rfl) (fun _ _ _ h => h) (Or.inl ⟨by rfl, ?_⟩) (by assumption) ?_
                rotate_left 1
                · (intro wy hSw; (try dsimp only at hSw); go_simp; try with_reducible rfl)
                (try simp only [Act.put])
                refine wpAnyH_take (i := 1) (oi := _) (v := ?_) rfl (by kernel_rfl) (by kernel_rfl) (by kernel_rfl) (fun _ _ _ h => h) (Or.inl ⟨by rfl, ?_⟩) (by assumption) ?_
                rotate_left 1
                · (intro wy hSw; (try dsimp only at hSw); go_simp; try with_reducible rfl)
                (try simp only [Act.put])
                refine wpAnyH_take (i := 4) (oi := _) (v := ?_) rfl (by kernel_rfl) (by kernel_rfl) (by kernel_rfl) (fun _ _ _ h => h) (Or.inl ⟨by rfl, ?_⟩) (by assumption) ?_
                rotate_left 1
                · (intro wy hSw; (try dsimp only at hSw); go_simp; try with_reducible rfl)
                (try simp only [Act.put])
                refine wpAnyH_take (i := 6) (oi := _) (v := ?_) rfl (by kernel_rfl) (by kernel_rfl) (by kernel_rfl) (fun _ _ _ h => h) (Or.inl ⟨by rfl, ?_⟩) (by assumption) ?_
                rotate_left 1
                · (intro wy hSw; (try dsimp only at hSw); go_simp; try with_reducible rfl)
                (try simp only [Act.put])
                refine wpAnyH_ready (rs := [2, 5]) (by kernel_rfl) (by simp) ?_
                refine AllReadyH.cons (o := _) rfl (fun K9 hK9 => ?_) (AllReadyH.cons (o := _) rfl (fun K9 hK9 => ?_) AllReadyH.nil)
                · go_simp
                  refine hK9.out _ _ (fun i => ((B13d _).2 i).1) (fun hHeld => ?_)
                  clear hK9 K9
                  (try simp only [Act.put])
                  refine wpAnyH_ready (rs := [3, 5]) (by kernel_rfl) (by simp) ?_
                  refine AllReadyH.cons (o := _) rfl (fun K9 hK9 => ?_) (AllReadyH.cons (o := _) rfl (fun K9 hK9 => ?_) AllReadyH.nil)
                  · refine step_app (P := Try.prog) rfl (.tmp 87) (.tmp 89) (by rfl) InsetE.enc insT _ _ [⟨k1, k2, k5⟩] (il.take 0) (.slice Ab 0 cb) (by rfl) (by rfl) (m := 1) (n := 0 + 1) rfl (by rw [htk]) (ho12.later _) (blk_slAt InsetE.enc (fr := (0, 0)) (e := 58) (heap_alloc_new _ _) [⟨k1, k2, k5⟩] rfl) (by omega) (by unfold maxLen; omega) (by simp only [heap_drew, World.size_alloc]; omega) ?_
                    intro A2 c2 w13 ho13 hm13 hb13 hg13
                    have l13 := later_base (W := wd) hb13
                    have l1313 : Later w13 w13 := Later.refl
                    have hz13' : wd.heap.size ≤ w13.heap.size := (l13 wd).below.size
                    refine hK9.out _ _ (fun i => ((B13d _).2 i).1) (fun hHeld => ?_)
                    clear hK9 K9
                    (try simp only [Act.put])
                    refine wpAnyH_ready (rs := [5]) (by kernel_rfl) (by simp) ?_
                    refine AllReadyH.cons (o := _) rfl (fun K9 hK9 => ?_) AllReadyH.nil
                    go_simp
                    refine hK9.out _ _ (fun i => ((B13d _).2 i).1) (fun hHeld => ?_)
                    clear hK9 K9
                    (try simp only [Act.put])
                    refine wpAnyH_take (i := 7) (oi := _) (v := ?_) rfl (by kernel_rfl) (by kernel_rfl) (by kernel_rfl) (fun _ _ _ h => h) (Or.inl ⟨by rfl, ?_⟩) (by assumption) ?_
                    rotate_left 1
                    · (intro wy hSw; (try dsimp only at hSw); go_simp; try with_reducible rfl)
                    (try simp only [Act.put])
                    refine wpAnyH_ready (rs := [8]) (by kernel_rfl) (by simp) ?_
                    refine AllReadyH.cons (o := _) rfl (fun K9 hK9 => ?_) AllReadyH.nil
                    refine step_app (P := Try.prog) rfl (.tmp 90) (.tmp 94) (by rfl) InsetE.enc insT _ _ ([] : List InsetE) (il.take 0 ++ [⟨k1, k2, k5⟩]) (.slice A2 (0 + 1) c2) (by rfl) (by rfl) (m := il.length) (n := il.length + 1) (by rw [Hne.out]) (by simp only [List.length_append, htk, List.length_singleton] <;> omega) (ho13.later _) SlAt.nil (by omega) (by unfold maxLen; omega) (by (try simp only [heap_drew, World.size_alloc]); omega) ?_
                    intro A3 c3 w14 ho14 hm14 hb14 hg14
                    have l14 := later_base (W := wd) hb14
                    have l1414 : Later w14 w14 := Later.refl
                    refine hK9.out _ _ (fun i => ((B13d _).2 i).1) (fun hHeld => ?_)
                    clear hK9 K9
                    (try simp only [Act.put])
                    refine wpAnyH_take (i := 9) (oi := _) (v := ?_) rfl (by kernel_rfl) (by kernel_rfl) (by kernel_rfl) (fun _ _ _ h => h) (Or.inl ⟨by rfl, ?_⟩) (by assumption) ?_
                    rotate_left 1
                    · (intro wy hSw; (try dsimp only at hSw); go_simp; try with_reducible rfl)
                    (try simp only [Act.put])
                    refine wpAnyH_ready (rs := [10]) (by kernel_rfl) (by simp) ?_
                    refine AllReadyH.cons (o := _) rfl (fun K9 hK9 => ?_) AllReadyH.nil
                    go_simp
                    refine hK9.out _ _ (fun i => blk_cell ((blk_far (p := ⟨gS, 4, none⟩) hne13 _).trans (B13d w14).1) i) (fun hHeld => ?_)
                    clear hK9 K9
                    (try simp only [Act.put])
                    refine wpAnyH_done (by kernel_rfl) ?_ _
                    go_wp2_with fail
                    have hbd14 : Below wd.heap.size wd w14 := (l14 wd).below
                    have ho9d := (ho9.below lw9d.below).below hbd14
                    have hS14 := blk_below hSd hbd14
                    have ho9e := ho9d.far (p := ⟨gS, 4, none⟩) (own_off ho9d hS14 (by decide)) (.slice A3 (il.length + 1) c3)
                    have hz0d : w0.heap.size ≤ wd.heap.size := (hb09.trans (lw9d.below.mono hb09.size)).size
                    have ho14m := ho14.mono hz0d
                    have ho14e := ho14m.far (p := ⟨gS, 4, none⟩) (own_off ho14m hS14 (by decide)) (.slice A3 (il.length + 1) c3)
                    have hNL := hide (ho14.at_ InsetE.enc).1
                    have hbE := ((hb09.trans (lw9d.below.mono hb09.size)).trans (hbd14.mono hz0d)).setCell (p := ⟨gS, 4, none⟩) hgS (.slice A3 (il.length + 1) c3)
                    have hins := insert_sortL (show Go.Sort.SWO ltIn from cmpIn_swo) (M := (insL (conL l) (ks.take k) ⟨e3, e4⟩).map toIn) (y := ⟨k1, k2, k5⟩) (a := 0) (by rw [← hil.out]; omega) (by rw [← hil.out]; exact hab.out) (by rw [← hil.out]; exact H2.out)
                    rw [← hil.out, HD.out] at hins
                    go_roundw
                    case rel => exact ⟨k + 1, fl ++ [k7], A9, c9, il.take 0 ++ [⟨k1, k2, k5⟩] ++ ([] : List InsetE), A3, c3, by omega, by rw [List.length_append]; rfl, by go_num, hide (by rw [HT2.out, List.map_append, ← hfl.out]; rfl), hide (by rw [HT2.out, List.map_append]; exact hins), hide (by rw [← hNL.out, List.length_append, List.length_singleton]; omega), by rw [List.length_append]; exact ho9e, by rw [← hNL.out]; exact ho14e, by rw [← hNL.out]; exact (blk_set hS14 4 _).trans rfl, hbE⟩
                    case measure => simp [intOf]; omega
                  · go_simp
                    refine hK9.out _ _ (fun i => ((B13d _).2 i).1) (fun hHeld => ?_)
                    clear hK9 K9
                    (try simp only [Act.put])
                    refine wpAnyH_take (i := 7) (oi := _) (v := ?_) rfl (by kernel_rfl) (by kernel_rfl) (by kernel_rfl) (fun _ _ _ h => h) (Or.inl ⟨by rfl, ?_⟩) (by assumption) ?_
                    rotate_left 1
                    · (intro wy hSw; (try dsimp only at hSw); go_simp; try with_reducible rfl)
                    (try simp only [Act.put])
                    refine wpAnyH_ready (rs := [3]) (by kernel_rfl) (by simp) ?_
                    refine AllReadyH.cons (o := _) rfl (fun K9 hK9 => ?_) AllReadyH.nil
                    refine step_app (P := Try.prog) rfl (.tmp 87) (.tmp 89) (by rfl) InsetE.enc insT _ _ [⟨k1, k2, k5⟩] (il.take 0) (.slice Ab 0 cb) (by rfl) (by rfl) (m := 1) (n := 0 + 1) rfl (by rw [htk]) (ho12.later _) (blk_slAt InsetE.enc (fr := (0, 0)) (e := 58) (heap_alloc_new _ _) [⟨k1, k2, k5⟩] rfl) (by omega) (by unfold maxLen; omega) (by simp only [heap_drew, World.size_alloc]; omega) ?_
                    intro A2 c2 w13 ho13 hm13 hb13 hg13
                    have l13 := later_base (W := wd) hb13
                    have l1313 : Later w13 w13 := Later.refl
                    have hz13' : wd.heap.size ≤ w13.heap.size := (l13 wd).below.size
                    refine hK9.out _ _ (fun i => ((B13d _).2 i).1) (fun hHeld => ?_)
                    clear hK9 K9
                    (try simp only [Act.put])
                    refine wpAnyH_ready (rs := [8]) (by kernel_rfl) (by simp) ?_
                    refine AllReadyH.cons (o := _) rfl (fun K9 hK9 => ?_) AllReadyH.nil
                    refine step_app (P := Try.prog) rfl (.tmp 90) (.tmp 94) (by rfl) InsetE.enc insT _ _ ([] : List InsetE) (il.take 0 ++ [⟨k1, k2, k5⟩]) (.slice A2 (0 + 1) c2) (by rfl) (by rfl) (m := il.length) (n := il.length + 1) (by rw [Hne.out]) (by simp only [List.length_append, htk, List.length_singleton] <;> omega) (ho13.later _) SlAt.nil (by omega) (by unfold maxLen; omega) (by (try simp only [heap_drew, World.size_alloc]); omega) ?_
                    intro A3 c3 w14 ho14 hm14 hb14 hg14
                    have l14 := later_base (W := wd) hb14
                    have l1414 : Later w14 w14 := Later.refl
                    refine hK9.out _ _ (fun i => ((B13d _).2 i).1) (fun hHeld => ?_)
                    clear hK9 K9
                    (try simp only [Act.put])
                    refine wpAnyH_take (i := 9) (oi := _) (v := ?_) rfl (by kernel_rfl) (by kernel_rfl) (by kernel_rfl) (fun _ _ _ h => h) (Or.inl ⟨by rfl, ?_⟩) (by assumption) ?_
                    rotate_left 1
                    · (intro wy hSw; (try dsimp only at hSw); go_simp; try with_reducible rfl)
                    (try simp only [Act.put])
                    refine wpAnyH_ready (rs := [10]) (by kernel_rfl) (by simp) ?_
                    refine AllReadyH.cons (o := _) rfl (fun K9 hK9 => ?_) AllReadyH.nil
                    go_simp
                    refine hK9.out _ _ (fun i => blk_cell ((blk_far (p := ⟨gS, 4, none⟩) hne13 _).trans (B13d w14).1) i) (fun hHeld => ?_)
                    clear hK9 K9
                    (try simp only [Act.put])
                    refine wpAnyH_done (by kernel_rfl) ?_ _
                    go_wp2_with fail
                    have hbd14 : Below wd.heap.size wd w14 := (l14 wd).below
                    have ho9d := (ho9.below lw9d.below).below hbd14
                    have hS14 := blk_below hSd hbd14
                    have ho9e := ho9d.far (p := ⟨gS, 4, none⟩) (own_off ho9d hS14 (by decide)) (.slice A3 (il.length + 1) c3)
                    have hz0d : w0.heap.size ≤ wd.heap.size := (hb09.trans (lw9d.below.mono hb09.size)).size
                    have ho14m := ho14.mono hz0d
                    have ho14e := ho14m.far (p := ⟨gS, 4, none⟩) (own_off ho14m hS14 (by decide)) (.slice A3 (il.length + 1) c3)
                    have hNL := hide (ho14.at_ InsetE.enc).1
                    have hbE := ((hb09.trans (lw9d.below.mono hb09.size)).trans (hbd14.mono hz0d)).setCell (p := ⟨gS, 4, none⟩) hgS (.slice A3 (il.length + 1) c3)
                    have hins := insert_sortL (show Go.Sort.SWO ltIn from cmpIn_swo) (M := (insL (conL l) (ks.take k) ⟨e3, e4⟩).map toIn) (y := ⟨k1, k2, k5⟩) (a := 0) (by rw [← hil.out]; omega) (by rw [← hil.out]; exact hab.out) (by rw [← hil.out]; exact H2.out)
                    rw [← hil.out, HD.out] at hins
                    go_roundw
                    case rel => exact ⟨k + 1, fl ++ [k7], A9, c9, il.take 0 ++ [⟨k1, k2, k5⟩] ++ ([] : List InsetE), A3, c3, by omega, by rw [List.length_append]; rfl, by go_num, hide (by rw [HT2.out, List.map_append, ← hfl.out]; rfl), hide (by rw [HT2.out, List.map_append]; exact hins), hide (by rw [← hNL.out, List.length_append, List.length_singleton]; omega), by rw [List.length_append]; exact ho9e, by rw [← hNL.out]; exact ho14e, by rw [← hNL.out]; exact (blk_set hS14 4 _).trans rfl, hbE⟩
                    case measure => simp [intOf]; omega
                · go_simp
                  refine hK9.out _ _ (fun i => ((B13d _).2 i).1) (fun hHeld => ?_)
                  clear hK9 K9
                  (try simp only [Act.put])
                  refine wpAnyH_take (i := 7) (oi := _) (v := ?_) rfl (by kernel_rfl) (by kernel_rfl) (by kernel_rfl) (fun _ _ _ h => h) (Or.inl ⟨by rfl, ?_⟩) (by assumption) ?_
                  rotate_left 1
                  · (intro wy hSw; (try dsimp only at hSw); go_simp; try with_reducible rfl)
                  (try simp only [Act.put])
                  refine wpAnyH_ready (rs := [2]) (by kernel_rfl) (by simp) ?_
                  refine AllReadyH.cons (o := _) rfl (fun K9 hK9 => ?_) AllReadyH.nil
                  go_simp
                  refine hK9.out _ _ (fun i => ((B13d _).2 i).1) (fun hHeld => ?_)
                  clear hK9 K9
                  (try simp only [Act.put])
                  refine wpAnyH_ready (rs := [3]) (by kernel_rfl) (by simp) ?_
                  refine AllReadyH.cons (o := _) rfl (fun K9 hK9 => ?_) AllReadyH.nil
                  refine step_app (P := Try.prog) rfl (.tmp 87) (.tmp 89) (by rfl) InsetE.enc insT _ _ [⟨k1, k2, k5⟩] (il.take 0) (.slice Ab 0 cb) (by rfl) (by rfl) (m := 1) (n := 0 + 1) rfl (by rw [htk]) (ho12.later _) (blk_slAt InsetE.enc (fr := (0, 0)) (e := 58) (heap_alloc_new _ _) [⟨k1, k2, k5⟩] rfl) (by omega) (by unfold maxLen; omega) (by simp only [heap_drew, World.size_alloc]; omega) ?_
                  intro A2 c2 w13 ho13 hm13 hb13 hg13
                  have l13 := later_base (W := wd) hb13
                  have l1313 : Later w13 w13 := Later.refl
                  have hz13' : wd.heap.size ≤ w13.heap.size := (l13 wd).below.size
                  refine hK9.out _ _ (fun i => ((B13d _).2 i).1) (fun hHeld => ?_)
                  clear hK9 K9
                  (try simp only [Act.put])
                  refine wpAnyH_ready (rs := [8]) (by kernel_rfl) (by simp) ?_
                  refine AllReadyH.cons (o := _) rfl (fun K9 hK9 => ?_) AllReadyH.nil
                  refine step_app (P := Try.prog) rfl (.tmp 90) (.tmp 94) (by rfl) InsetE.enc insT _ _ ([] : List InsetE) (il.take 0 ++ [⟨k1, k2, k5⟩]) (.slice A2 (0 + 1) c2) (by rfl) (by rfl) (m := il.length) (n := il.length + 1) (by rw [Hne.out]) (by simp only [List.length_append, htk, List.length_singleton] <;> omega) (ho13.later _) SlAt.nil (by omega) (by unfold maxLen; omega) (by (try simp only [heap_drew, World.size_alloc]); omega) ?_
                  intro A3 c3 w14 ho14 hm14 hb14 hg14
                  have l14 := later_base (W := wd) hb14
                  have l1414 : Later w14 w14 := Later.refl
                  refine hK9.out _ _ (fun i => ((B13d _).2 i).1) (fun hHeld => ?_)
                  clear hK9 K9
                  (try simp only [Act.put])
                  refine wpAnyH_take (i := 9) (oi := _) (v := ?_) rfl (by kernel_rfl) (by kernel_rfl) (by kernel_rfl) (fun _ _ _ h => h) (Or.inl ⟨by rfl, ?_⟩) (by assumption) ?_
                  rotate_left 1
                  · (intro wy hSw; (try dsimp only at hSw); go_simp; try with_reducible rfl)
                  (try simp only [Act.put])
                  refine wpAnyH_ready (rs := [10]) (by kernel_rfl) (by simp) ?_
                  refine AllReadyH.cons (o := _) rfl (fun K9 hK9 => ?_) AllReadyH.nil
                  go_simp
                  refine hK9.out _ _ (fun i => blk_cell ((blk_far (p := ⟨gS, 4, none⟩) hne13 _).trans (B13d w14).1) i) (fun hHeld => ?_)
                  clear hK9 K9
                  (try simp only [Act.put])
                  refine wpAnyH_done (by kernel_rfl) ?_ _
                  go_wp2_with fail
                  have hbd14 : Below wd.heap.size wd w14 := (l14 wd).below
                  have ho9d := (ho9.below lw9d.below).below hbd14
                  have hS14 := blk_below hSd hbd14
                  have ho9e := ho9d.far (p := ⟨gS, 4, none⟩) (own_off ho9d hS14 (by decide)) (.slice A3 (il.length + 1) c3)
                  have hz0d : w0.heap.size ≤ wd.heap.size := (hb09.trans (lw9d.below.mono hb09.size)).size
                  have ho14m := ho14.mono hz0d
                  have ho14e := ho14m.far (p := ⟨gS, 4, none⟩) (own_off ho14m hS14 (by decide)) (.slice A3 (il.length + 1) c3)
                  have hNL := hide (ho14.at_ InsetE.enc).1
                  have hbE := ((hb09.trans (lw9d.below.mono hb09.size)).trans (hbd14.mono hz0d)).setCell (p := ⟨gS, 4, none⟩) hgS (.slice A3 (il.length + 1) c3)
                  have hins := insert_sortL (show Go.Sort.SWO ltIn from cmpIn_swo) (M := (insL (conL l) (ks.take k) ⟨e3, e4⟩).map toIn) (y := ⟨k1, k2, k5⟩) (a := 0) (by rw [← hil.out]; omega) (by rw [← hil.out]; exact hab.out) (by rw [← hil.out]; exact H2.out)
                  rw [← hil.out, HD.out] at hins
                  go_roundw
                  case rel => exact ⟨k + 1, fl ++ [k7], A9, c9, il.take 0 ++ [⟨k1, k2, k5⟩] ++ ([] : List InsetE), A3, c3, by omega, by rw [List.length_append]; rfl, by go_num, hide (by rw [HT2.out, List.map_append, ← hfl.out]; rfl), hide (by rw [HT2.out, List.map_append]; exact hins), hide (by rw [← hNL.out, List.length_append, List.length_singleton]; omega), by rw [List.length_append]; exact ho9e, by rw [← hNL.out]; exact ho14e, by rw [← hNL.out]; exact (blk_set hS14 4 _).trans rfl, hbE⟩
                  case measure => simp [intOf]; omega
              · go_upto_region 11 with fail
                (refine wp_region_after (by kernel_rfl) (by kernel_rfl) ?_
                 repeat (any_goals (first | go_big_quiet_skip | (go_big_quiet_want; go_big_quiet_op; first | go_big_quiet_on | go_big_quiet_call (fail)) | quiet_step (fail) | (refine wpQuiet_step (fun K hK => ?_); go_simp; split <;> (refine hK _ ?_; clear hK K))))
                 all_goals (refine wpQuiet_nil ?_; intro _ hw'; obtain ⟨u', hw''⟩ := hw'; subst hw''; obtain ⟨wd, hbd⟩ := u'; simp only [After.val_mk]))
                have ld := later hbd
                have ldd : Later wd wd := Later.refl
                have htk : (il.take 0).length = 0 := by rw [List.length_take]; omega
                have hdk : (il.drop 0).length = il.length - 0 := by rw [List.length_drop]
                have hk0 : (0 : Int) ≤ (0 : Int) := by omega
                have hkc : (0 : Int) ≤ (IC : Int) := by omega
                have hkll : (0 : Int) ≤ (il.length : Int) := by omega
                have lw9d : Later w9 wd := (l11 w9).trans (inferInstance : Later w11 wd)
                have hSd := blk_below hbx9 lw9d.below
                have BSd := boxed hSd
                have B13d : Boxed wd w9.heap.size #[.int .i64 k1, .int .u64 k2, .int .i64 k5] 58 := boxed_later B13
                have hne13 : w9.heap.size ≠ gS := by have := blk_lt hbx9; omega
                go_upto_region 14 with (at_builtin; refine wpList_appE rfl (.tmp 81) (.tmp 85) rfl InsetE.enc insT _ _ (il.take 0) rfl (by rw [htk]; rfl) ((HI _).take _) (by omega) (by unfold maxLen; omega) ?_; intro Ab cb w12 ho12 hm12 hb12; rw [htk] at ho12; have l12 := later hb12; have l1212 : Later w12 w12 := Later.refl)
                have hz12 : wd.heap.size ≤ w12.heap.size := hb12.size
                refine wp_region_held_drew (S := fun w' => ∀ i : Nat, w'.cell? ⟨w9.heap.size, i, none⟩ = (#[.int .i64 k1, .int .u64 k2, .int .i64 k5] : Array Value)[i]?) (by kernel_rfl) (fun i => ((B13d _).2 i).1) (fun hHeld => ?_)
                refine wpAnyH_take (i := 0) (oi := _) (v := ?_) rfl (by kernel_rfl) (by kernel_rfl) (by kernel_rfl) (fun _ _ _ h => h) (Or.inl ⟨by rfl, ?_⟩) (by assumption) ?_
                rotate_left 1
                · (intro wy hSw; (try dsimp only at hSw); go_simp; try with_reducible rfl)
                (try simp only [Act.put])
                refine wpAnyH_take (i := 1) (oi := _) (v := ?_) rfl (by kernel_rfl) (by kernel_rfl) (by kernel_rfl) (fun _ _ _ h => h) (Or.inl ⟨by rfl, ?_⟩) (by assumption) ?_
                rotate_left 1
                · (intro wy hSw; (try dsimp only at hSw); go_simp; try with_reducible rfl)
                (try simp only [Act.put])
                refine wpAnyH_take (i := 4) (oi := _) (v := ?_) rfl (by kernel_rfl) (by kernel_rfl) (by kernel_rfl) (fun _ _ _ h => h) (Or.inl ⟨by rfl, ?_⟩) (by assumption) ?_
                rotate_left 1
                · (intro wy hSw; (try dsimp only at hSw); go_simp; try with_reducible rfl)
                (try simp only [Act.put])
                refine wpAnyH_take (i := 6) (oi := _) (v := ?_) rfl (by kernel_rfl) (by kernel_rfl) (by kernel_rfl) (fun _ _ _ h => h) (Or.inl ⟨by rfl, ?_⟩) (by assumption) ?_
                rotate_left 1
                · (intro wy hSw; (try dsimp only at hSw); go_simp; try with_reducible rfl)
                (try simp only [Act.put])
                refine wpAnyH_ready (rs := [2, 5]) (by kernel_rfl) (by simp) ?_
                refine AllReadyH.cons (o := _) rfl (fun K9 hK9 => ?_) (AllReadyH.cons (o := _) rfl (fun K9 hK9 => ?_) AllReadyH.nil)
                · go_simp
                  refine hK9.out _ _ (fun i => ((B13d _).2 i).1) (fun hHeld => ?_)
                  clear hK9 K9
                  (try simp only [Act.put])
                  refine wpAnyH_ready (rs := [3, 5]) (by kernel_rfl) (by simp) ?_
                  refine AllReadyH.cons (o := _) rfl (fun K9 hK9 => ?_) (AllReadyH.cons (o := _) rfl (fun K9 hK9 => ?_) AllReadyH.nil)
                  · refine step_app (P := Try.prog) rfl (.tmp 87) (.tmp 89) (by rfl) InsetE.enc insT _ _ [⟨k1, k2, k5⟩] (il.take 0) (.slice Ab 0 cb) (by rfl) (by rfl) (m := 1) (n := 0 + 1) rfl (by rw [htk]) (ho12.later _) (blk_slAt InsetE.enc (fr := (0, 0)) (e := 58) (heap_alloc_new _ _) [⟨k1, k2, k5⟩] rfl) (by omega) (by unfold maxLen; omega) (by simp only [heap_drew, World.size_alloc]; omega) ?_
                    intro A2 c2 w13 ho13 hm13 hb13 hg13
                    have l13 := later_base (W := wd) hb13
                    have l1313 : Later w13 w13 := Later.refl
                    have hz13' : wd.heap.size ≤ w13.heap.size := (l13 wd).below.size
                    refine hK9.out _ _ (fun i => ((B13d _).2 i).1) (fun hHeld => ?_)
                    clear hK9 K9
                    (try simp only [Act.put])
                    refine wpAnyH_ready (rs := [5]) (by kernel_rfl) (by simp) ?_
                    refine AllReadyH.cons (o := _) rfl (fun K9 hK9 => ?_) AllReadyH.nil
                    go_simp
                    refine hK9.out _ _ (fun i => ((B13d _).2 i).1) (fun hHeld => ?_)
                    clear hK9 K9
                    (try simp only [Act.put])
                    refine wpAnyH_take (i := 7) (oi := _) (v := ?_) rfl (by kernel_rfl) (by kernel_rfl) (by kernel_rfl) (fun _ _ _ h => h) (Or.inl ⟨by rfl, ?_⟩) (by assumption) ?_
                    rotate_left 1
                    · (intro wy hSw; (try dsimp only at hSw); go_simp; try with_reducible rfl)
                    (try simp only [Act.put])
                    refine wpAnyH_ready (rs := [8]) (by kernel_rfl) (by simp) ?_
                    refine AllReadyH.cons (o := _) rfl (fun K9 hK9 => ?_) AllReadyH.nil
                    refine step_app (P := Try.prog) rfl (.tmp 90) (.tmp 94) (by rfl) InsetE.enc insT _ _ ([] : List InsetE) (il.take 0 ++ [⟨k1, k2, k5⟩]) (.slice A2 (0 + 1) c2) (by rfl) (by rfl) (m := il.length) (n := il.length + 1) (by rw [Hne.out]) (by simp only [List.length_append, htk, List.length_singleton] <;> omega) (ho13.later _) SlAt.nil (by omega) (by unfold maxLen; omega) (by (try simp only [heap_drew, World.size_alloc]); omega) ?_
                    intro A3 c3 w14 ho14 hm14 hb14 hg14
                    have l14 := later_base (W := wd) hb14
                    have l1414 : Later w14 w14 := Later.refl
                    refine hK9.out _ _ (fun i => ((B13d _).2 i).1) (fun hHeld => ?_)
                    clear hK9 K9
                    (try simp only [Act.put])
                    refine wpAnyH_take (i := 9) (oi := _) (v := ?_) rfl (by kernel_rfl) (by kernel_rfl) (by kernel_rfl) (fun _ _ _ h => h) (Or.inl ⟨by rfl, ?_⟩) (by assumption) ?_
                    rotate_left 1
                    · (intro wy hSw; (try dsimp only at hSw); go_simp; try with_reducible rfl)
                    (try simp only [Act.put])
                    refine wpAnyH_ready (rs := [10]) (by kernel_rfl) (by simp) ?_
                    refine AllReadyH.cons (o := _) rfl (fun K9 hK9 => ?_) AllReadyH.nil
                    go_simp
                    refine hK9.out _ _ (fun i => blk_cell ((blk_far (p := ⟨gS, 4, none⟩) hne13 _).trans (B13d w14).1) i) (fun hHeld => ?_)
                    clear hK9 K9
                    (try simp only [Act.put])
                    refine wpAnyH_done (by kernel_rfl) ?_ _
                    go_wp2_with fail
                    have hbd14 : Below wd.heap.size wd w14 := (l14 wd).below
                    have ho9d := (ho9.below lw9d.below).below hbd14
                    have hS14 := blk_below hSd hbd14
                    have ho9e := ho9d.far (p := ⟨gS, 4, none⟩) (own_off ho9d hS14 (by decide)) (.slice A3 (il.length + 1) c3)
                    have hz0d : w0.heap.size ≤ wd.heap.size := (hb09.trans (lw9d.below.mono hb09.size)).size
                    have ho14m := ho14.mono hz0d
                    have ho14e := ho14m.far (p := ⟨gS, 4, none⟩) (own_off ho14m hS14 (by decide)) (.slice A3 (il.length + 1) c3)
                    have hNL := hide (ho14.at_ InsetE.enc).1
                    have hbE := ((hb09.trans (lw9d.below.mono hb09.size)).trans (hbd14.mono hz0d)).setCell (p := ⟨gS, 4, none⟩) hgS (.slice A3 (il.length + 1) c3)
                    have hins := insert_sortL (show Go.Sort.SWO ltIn from cmpIn_swo) (M := (insL (conL l) (ks.take k) ⟨e3, e4⟩).map toIn) (y := ⟨k1, k2, k5⟩) (a := 0) (by rw [← hil.out]; omega) (by rw [← hil.out]; exact hab.out) (by rw [← hil.out]; exact H2.out)
                    rw [← hil.out, HD.out] at hins
                    go_roundw
                    case rel => exact ⟨k + 1, fl ++ [k7], A9, c9, il.take 0 ++ [⟨k1, k2, k5⟩] ++ ([] : List InsetE), A3, c3, by omega, by rw [List.length_append]; rfl, by go_num, hide (by rw [HT2.out, List.map_append, ← hfl.out]; rfl), hide (by rw [HT2.out, List.map_append]; exact hins), hide (by rw [← hNL.out, List.length_append, List.length_singleton]; omega), by rw [List.length_append]; exact ho9e, by rw [← hNL.out]; exact ho14e, by rw [← hNL.out]; exact (blk_set hS14 4 _).trans rfl, hbE⟩
                    case measure => simp [intOf]; omega
                  · go_simp
                    refine hK9.out _ _ (fun i => ((B13d _).2 i).1) (fun hHeld => ?_)
                    clear hK9 K9
                    (try simp only [Act.put])
                    refine wpAnyH_take (i := 7) (oi := _) (v := ?_) rfl (by kernel_rfl) (by kernel_rfl) (by kernel_rfl) (fun _ _ _ h => h) (Or.inl ⟨by rfl, ?_⟩) (by assumption) ?_
                    rotate_left 1
                    · (intro wy hSw; (try dsimp only at hSw); go_simp; try with_reducible rfl)
                    (try simp only [Act.put])
                    refine wpAnyH_ready (rs := [3]) (by kernel_rfl) (by simp) ?_
                    refine AllReadyH.cons (o := _) rfl (fun K9 hK9 => ?_) AllReadyH.nil
                    refine step_app (P := Try.prog) rfl (.tmp 87) (.tmp 89) (by rfl) InsetE.enc insT _ _ [⟨k1, k2, k5⟩] (il.take 0) (.slice Ab 0 cb) (by rfl) (by rfl) (m := 1) (n := 0 + 1) rfl (by rw [htk]) (ho12.later _) (blk_slAt InsetE.enc (fr := (0, 0)) (e := 58) (heap_alloc_new _ _) [⟨k1, k2, k5⟩] rfl) (by omega) (by unfold maxLen; omega) (by simp only [heap_drew, World.size_alloc]; omega) ?_
                    intro A2 c2 w13 ho13 hm13 hb13 hg13
                    have l13 := later_base (W := wd) hb13
                    have l1313 : Later w13 w13 := Later.refl
                    have hz13' : wd.heap.size ≤ w13.heap.size := (l13 wd).below.size
                    refine hK9.out _ _ (fun i => ((B13d _).2 i).1) (fun hHeld => ?_)
                    clear hK9 K9
                    (try simp only [Act.put])
                    refine wpAnyH_ready (rs := [8]) (by kernel_rfl) (by simp) ?_
                    refine AllReadyH.cons (o := _) rfl (fun K9 hK9 => ?_) AllReadyH.nil
                    refine step_app (P := Try.prog) rfl (.tmp 90) (.tmp 94) (by rfl) InsetE.enc insT _ _ ([] : List InsetE) (il.take 0 ++ [⟨k1, k2, k5⟩]) (.slice A2 (0 + 1) c2) (by rfl) (by rfl) (m := il.length) (n := il.length + 1) (by rw [Hne.out]) (by simp only [List.length_append, htk, List.length_singleton] <;> omega) (ho13.later _) SlAt.nil (by omega) (by unfold maxLen; omega) (by (try simp only [heap_drew, World.size_alloc]); omega) ?_
                    intro A3 c3 w14 ho14 hm14 hb14 hg14
                    have l14 := later_base (W := wd) hb14
                    have l1414 : Later w14 w14 := Later.refl
                    refine hK9.out _ _ (fun i => ((B13d _).2 i).1) (fun hHeld => ?_)
                    clear hK9 K9
                    (try simp only [Act.put])
                    refine wpAnyH_take (i := 9) (oi := _) (v := ?_) rfl (by kernel_rfl) (by kernel_rfl) (by kernel_rfl) (fun _ _ _ h => h) (Or.inl ⟨by rfl, ?_⟩) (by assumption) ?_
                    rotate_left 1
                    · (intro wy hSw; (try dsimp only at hSw); go_simp; try with_reducible rfl)
                    (try simp only [Act.put])
                    refine wpAnyH_ready (rs := [10]) (by kernel_rfl) (by simp) ?_
                    refine AllReadyH.cons (o := _) rfl (fun K9 hK9 => ?_) AllReadyH.nil
                    go_simp
                    refine hK9.out _ _ (fun i => blk_cell ((blk_far (p := ⟨gS, 4, none⟩) hne13 _).trans (B13d w14).1) i) (fun hHeld => ?_)
                    clear hK9 K9
                    (try simp only [Act.put])
                    refine wpAnyH_done (by kernel_rfl) ?_ _
                    go_wp2_with fail
                    have hbd14 : Below wd.heap.size wd w14 := (l14 wd).below
                    have ho9d := (ho9.below lw9d.below).below hbd14
                    have hS14 := blk_below hSd hbd14
                    have ho9e := ho9d.far (p := ⟨gS, 4, none⟩) (own_off ho9d hS14 (by decide)) (.slice A3 (il.length + 1) c3)
                    have hz0d : w0.heap.size ≤ wd.heap.size := (hb09.trans (lw9d.below.mono hb09.size)).size
                    have ho14m := ho14.mono hz0d
                    have ho14e := ho14m.far (p := ⟨gS, 4, none⟩) (own_off ho14m hS14 (by decide)) (.slice A3 (il.length + 1) c3)
                    have hNL := hide (ho14.at_ InsetE.enc).1
                    have hbE := ((hb09.trans (lw9d.below.mono hb09.size)).trans (hbd14.mono hz0d)).setCell (p := ⟨gS, 4, none⟩) hgS (.slice A3 (il.length + 1) c3)
                    have hins := insert_sortL (show Go.Sort.SWO ltIn from cmpIn_swo) (M := (insL (conL l) (ks.take k) ⟨e3, e4⟩).map toIn) (y := ⟨k1, k2, k5⟩) (a := 0) (by rw [← hil.out]; omega) (by rw [← hil.out]; exact hab.out) (by rw [← hil.out]; exact H2.out)
                    rw [← hil.out, HD.out] at hins
                    go_roundw
                    case rel => exact ⟨k + 1, fl ++ [k7], A9, c9, il.take 0 ++ [⟨k1, k2, k5⟩] ++ ([] : List InsetE), A3, c3, by omega, by rw [List.length_append]; rfl, by go_num, hide (by rw [HT2.out, List.map_append, ← hfl.out]; rfl), hide (by rw [HT2.out, List.map_append]; exact hins), hide (by rw [← hNL.out, List.length_append, List.length_singleton]; omega), by rw [List.length_append]; exact ho9e, by rw [← hNL.out]; exact ho14e, by rw [← hNL.out]; exact (blk_set hS14 4 _).trans rfl, hbE⟩
                    case measure => simp [intOf]; omega
                · go_simp
                  refine hK9.out _ _ (fun i => ((B13d _).2 i).1) (fun hHeld => ?_)
                  clear hK9 K9
                  (try simp only [Act.put])
                  refine wpAnyH_take (i := 7) (oi := _) (v := ?_) rfl (by kernel_rfl) (by kernel_rfl) (by kernel_rfl) (fun _ _ _ h => h) (Or.inl ⟨by rfl, ?_⟩) (by assumption) ?_
                  rotate_left 1
                  · (intro wy hSw; (try dsimp only at hSw); go_simp; try with_reducible rfl)
                  (try simp only [Act.put])
                  refine wpAnyH_ready (rs := [2]) (by kernel_rfl) (by simp) ?_
                  refine AllReadyH.cons (o := _) rfl (fun K9 hK9 => ?_) AllReadyH.nil
                  go_simp
                  refine hK9.out _ _ (fun i => ((B13d _).2 i).1) (fun hHeld => ?_)
                  clear hK9 K9
                  (try simp only [Act.put])
                  refine wpAnyH_ready (rs := [3]) (by kernel_rfl) (by simp) ?_
                  refine AllReadyH.cons (o := _) rfl (fun K9 hK9 => ?_) AllReadyH.nil
                  refine step_app (P := Try.prog) rfl (.tmp 87) (.tmp 89) (by rfl) InsetE.enc insT _ _ [⟨k1, k2, k5⟩] (il.take 0) (.slice Ab 0 cb) (by rfl) (by rfl) (m := 1) (n := 0 + 1) rfl (by rw [htk]) (ho12.later _) (blk_slAt InsetE.enc (fr := (0, 0)) (e := 58) (heap_alloc_new _ _) [⟨k1, k2, k5⟩] rfl) (by omega) (by unfold maxLen; omega) (by simp only [heap_drew, World.size_alloc]; omega) ?_
                  intro A2 c2 w13 ho13 hm13 hb13 hg13
                  have l13 := later_base (W := wd) hb13
                  have l1313 : Later w13 w13 := Later.refl
                  have hz13' : wd.heap.size ≤ w13.heap.size := (l13 wd).below.size
                  refine hK9.out _ _ (fun i => ((B13d _).2 i).1) (fun hHeld => ?_)
                  clear hK9 K9
                  (try simp only [Act.put])
                  refine wpAnyH_ready (rs := [8]) (by kernel_rfl) (by simp) ?_
                  refine AllReadyH.cons (o := _) rfl (fun K9 hK9 => ?_) AllReadyH.nil
                  refine step_app (P := Try.prog) rfl (.tmp 90) (.tmp 94) (by rfl) InsetE.enc insT _ _ ([] : List InsetE) (il.take 0 ++ [⟨k1, k2, k5⟩]) (.slice A2 (0 + 1) c2) (by rfl) (by rfl) (m := il.length) (n := il.length + 1) (by rw [Hne.out]) (by simp only [List.length_append, htk, List.length_singleton] <;> omega) (ho13.later _) SlAt.nil (by omega) (by unfold maxLen; omega) (by (try simp only [heap_drew, World.size_alloc]); omega) ?_
                  intro A3 c3 w14 ho14 hm14 hb14 hg14
                  have l14 := later_base (W := wd) hb14
                  have l1414 : Later w14 w14 := Later.refl
                  refine hK9.out _ _ (fun i => ((B13d _).2 i).1) (fun hHeld => ?_)
                  clear hK9 K9
                  (try simp only [Act.put])
                  refine wpAnyH_take (i := 9) (oi := _) (v := ?_) rfl (by kernel_rfl) (by kernel_rfl) (by kernel_rfl) (fun _ _ _ h => h) (Or.inl ⟨by rfl, ?_⟩) (by assumption) ?_
                  rotate_left 1
                  · (intro wy hSw; (try dsimp only at hSw); go_simp; try with_reducible rfl)
                  (try simp only [Act.put])
                  refine wpAnyH_ready (rs := [10]) (by kernel_rfl) (by simp) ?_
                  refine AllReadyH.cons (o := _) rfl (fun K9 hK9 => ?_) AllReadyH.nil
                  go_simp
                  refine hK9.out _ _ (fun i => blk_cell ((blk_far (p := ⟨gS, 4, none⟩) hne13 _).trans (B13d w14).1) i) (fun hHeld => ?_)
                  clear hK9 K9
                  (try simp only [Act.put])
                  refine wpAnyH_done (by kernel_rfl) ?_ _
                  go_wp2_with fail
                  have hbd14 : Below wd.heap.size wd w14 := (l14 wd).below
                  have ho9d := (ho9.below lw9d.below).below hbd14
                  have hS14 := blk_below hSd hbd14
                  have ho9e := ho9d.far (p := ⟨gS, 4, none⟩) (own_off ho9d hS14 (by decide)) (.slice A3 (il.length + 1) c3)
                  have hz0d : w0.heap.size ≤ wd.heap.size := (hb09.trans (lw9d.below.mono hb09.size)).size
                  have ho14m := ho14.mono hz0d
                  have ho14e := ho14m.far (p := ⟨gS, 4, none⟩) (own_off ho14m hS14 (by decide)) (.slice A3 (il.length + 1) c3)
                  have hNL := hide (ho14.at_ InsetE.enc).1
                  have hbE := ((hb09.trans (lw9d.below.mono hb09.size)).trans (hbd14.mono hz0d)).setCell (p := ⟨gS, 4, none⟩) hgS (.slice A3 (il.length + 1) c3)
                  have hins := insert_sortL (show Go.Sort.SWO ltIn from cmpIn_swo) (M := (insL (conL l) (ks.take k) ⟨e3, e4⟩).map toIn) (y := ⟨k1, k2, k5⟩) (a := 0) (by rw [← hil.out]; omega) (by rw [← hil.out]; exact hab.out) (by rw [← hil.out]; exact H2.out)
                  rw [← hil.out, HD.out] at hins
                  go_roundw
                  case rel => exact ⟨k + 1, fl ++ [k7], A9, c9, il.take 0 ++ [⟨k1, k2, k5⟩] ++ ([] : List InsetE), A3, c3, by omega, by rw [List.length_append]; rfl, by go_num, hide (by rw [HT2.out, List.map_append, ← hfl.out]; rfl), hide (by rw [HT2.out, List.map_append]; exact hins), hide (by rw [← hNL.out, List.length_append, List.length_singleton]; omega), by rw [List.length_append]; exact ho9e, by rw [← hNL.out]; exact ho14e, by rw [← hNL.out]; exact (blk_set hS14 4 _).trans rfl, hbE⟩
                  case measure => simp [intOf]; omega
            · obtain ⟨b2, o2, hIA, -, -⟩ := HI w11 hne
              subst hIA
              have HD := hide (show il.drop 0 = il from rfl)
              go_upto_region 11 with fail
              (refine wp_region_after (by kernel_rfl) (by kernel_rfl) ?_
               repeat (any_goals (first | go_big_quiet_skip | (go_big_quiet_want; go_big_quiet_op; first | go_big_quiet_on | go_big_quiet_call (fail)) | quiet_step (fail) | (refine wpQuiet_step (fun K hK => ?_); go_simp; split <;> (refine hK _ ?_; clear hK K))))
               all_goals (refine wpQuiet_nil ?_; intro _ hw'; obtain ⟨u', hw''⟩ := hw'; subst hw''; obtain ⟨wd, hbd⟩ := u'; simp only [After.val_mk]))
              have ld := later hbd
              have ldd : Later wd wd := Later.refl
              have htk : (il.take 0).length = 0 := by rw [List.length_take]; omega
              have hdk : (il.drop 0).length = il.length - 0 := by rw [List.length_drop]
              have hk0 : (0 : Int) ≤ (0 : Int) := by omega
              have hkc : (0 : Int) ≤ (IC : Int) := by omega
              have hkll : (0 : Int) ≤ (il.length : Int) := by omega
              have lw9d : Later w9 wd := (l11 w9).trans (inferInstance : Later w11 wd)
              have hSd := blk_below hbx9 lw9d.below
              have BSd := boxed hSd
              have B13d : Boxed wd w9.heap.size #[.int .i64 k1, .int .u64 k2, .int .i64 k5] 58 := boxed_later B13
              have hne13 : w9.heap.size ≠ gS := by have := blk_lt hbx9; omega
              go_upto_region 14 with (at_builtin; refine wpList_appE rfl (.tmp 81) (.tmp 85) rfl InsetE.enc insT _ _ (il.take 0) rfl (by rw [htk]; rfl) ((HI _).take _) (by omega) (by unfold maxLen; omega) ?_; intro Ab cb w12 ho12 hm12 hb12; rw [htk] at ho12; have l12 := later hb12; have l1212 : Later w12 w12 := Later.refl)
              have hz12 : wd.heap.size ≤ w12.heap.size := hb12.size
              refine wp_region_held_drew (S := fun w' => ∀ i : Nat, w'.cell? ⟨w9.heap.size, i, none⟩ = (#[.int .i64 k1, .int .u64 k2, .int .i64 k5] : Array Value)[i]?) (by kernel_rfl) (fun i => ((B13d _).2 i).1) (fun hHeld => ?_)
              refine wpAnyH_take (i := 0) (oi := _) (v := ?_) rfl (by kernel_rfl) (by kernel_rfl) (by kernel_rfl) (fun _ _ _ h => h) (Or.inl ⟨by rfl, ?_⟩) (by assumption) ?_
              rotate_left 1
              · (intro wy hSw; (try dsimp only at hSw); go_simp; try with_reducible rfl)
              (try simp only [Act.put])
              refine wpAnyH_take (i := 1) (oi := _) (v := ?_) rfl (by kernel_rfl) (by kernel_rfl) (by kernel_rfl) (fun _ _ _ h => h) (Or.inl ⟨by rfl, ?_⟩) (by assumption) ?_
              rotate_left 1
              · (intro wy hSw; (try dsimp only at hSw); go_simp; try with_reducible rfl)
              (try simp only [Act.put])
              refine wpAnyH_take (i := 4) (oi := _) (v := ?_) rfl (by kernel_rfl) (by kernel_rfl) (by kernel_rfl) (fun _ _ _ h => h) (Or.inl ⟨by rfl, ?_⟩) (by assumption) ?_
              rotate_left 1
              · (intro wy hSw; (try dsimp only at hSw); go_simp; try with_reducible rfl)
              (try simp only [Act.put])
              refine wpAnyH_take (i := 6) (oi := _) (v := ?_) rfl (by kernel_rfl) (by kernel_rfl) (by kernel_rfl) (fun _ _ _ h => h) (Or.inl ⟨by rfl, ?_⟩) (by assumption) ?_
              rotate_left 1
              · (intro wy hSw; (try dsimp only at hSw); go_simp; try with_reducible rfl)
              (try simp only [Act.put])
              refine wpAnyH_ready (rs := [2, 5]) (by kernel_rfl) (by simp) ?_
              refine AllReadyH.cons (o := _) rfl (fun K9 hK9 => ?_) (AllReadyH.cons (o := _) rfl (fun K9 hK9 => ?_) AllReadyH.nil)
              · go_simp
                refine hK9.out _ _ (fun i => ((B13d _).2 i).1) (fun hHeld => ?_)
                clear hK9 K9
                (try simp only [Act.put])
                refine wpAnyH_ready (rs := [3, 5]) (by kernel_rfl) (by simp) ?_
                refine AllReadyH.cons (o := _) rfl (fun K9 hK9 => ?_) (AllReadyH.cons (o := _) rfl (fun K9 hK9 => ?_) AllReadyH.nil)
                · refine step_app (P := Try.prog) rfl (.tmp 87) (.tmp 89) (by rfl) InsetE.enc insT _ _ [⟨k1, k2, k5⟩] (il.take 0) (.slice Ab 0 cb) (by rfl) (by rfl) (m := 1) (n := 0 + 1) rfl (by rw [htk]) (ho12.later _) (blk_slAt InsetE.enc (fr := (0, 0)) (e := 58) (heap_alloc_new _ _) [⟨k1, k2, k5⟩] rfl) (by omega) (by unfold maxLen; omega) (by simp only [heap_drew, World.size_alloc]; omega) ?_
                  intro A2 c2 w13 ho13 hm13 hb13 hg13
                  have l13 := later_base (W := wd) hb13
                  have l1313 : Later w13 w13 := Later.refl
                  have hz13' : wd.heap.size ≤ w13.heap.size := (l13 wd).below.size
                  refine hK9.out _ _ (fun i => ((B13d _).2 i).1) (fun hHeld => ?_)
                  clear hK9 K9
                  (try simp only [Act.put])
                  refine wpAnyH_ready (rs := [5]) (by kernel_rfl) (by simp) ?_
                  refine AllReadyH.cons (o := _) rfl (fun K9 hK9 => ?_) AllReadyH.nil
                  go_simp
                  refine hK9.out _ _ (fun i => ((B13d _).2 i).1) (fun hHeld => ?_)
                  clear hK9 K9
                  (try simp only [Act.put])
                  refine wpAnyH_take (i := 7) (oi := _) (v := ?_) rfl (by kernel_rfl) (by kernel_rfl) (by kernel_rfl) (fun _ _ _ h => h) (Or.inl ⟨by rfl, ?_⟩) (by assumption) ?_
                  rotate_left 1
                  · (intro wy hSw; (try dsimp only at hSw); go_simp; try with_reducible rfl)
                  (try simp only [Act.put])
                  refine wpAnyH_ready (rs := [8]) (by kernel_rfl) (by simp) ?_
                  refine AllReadyH.cons (o := _) rfl (fun K9 hK9 => ?_) AllReadyH.nil
                  refine step_app (P := Try.prog) rfl (.tmp 90) (.tmp 94) (by rfl) InsetE.enc insT (some ⟨b2, o2, none⟩) IC il (il.take 0 ++ [⟨k1, k2, k5⟩]) (.slice A2 (0 + 1) c2) (by rfl) (by rfl) (m := il.length) (n := il.length + 1) rfl (by simp only [List.length_append, htk, List.length_singleton] <;> omega) (ho13.later _) (HI _) (by omega) (by unfold maxLen; omega) (by (try simp only [heap_drew, World.size_alloc]); omega) ?_
                  intro A3 c3 w14 ho14 hm14 hb14 hg14
                  have l14 := later_base (W := wd) hb14
                  have l1414 : Later w14 w14 := Later.refl
                  refine hK9.out _ _ (fun i => ((B13d _).2 i).1) (fun hHeld => ?_)
                  clear hK9 K9
                  (try simp only [Act.put])
                  refine wpAnyH_take (i := 9) (oi := _) (v := ?_) rfl (by kernel_rfl) (by kernel_rfl) (by kernel_rfl) (fun _ _ _ h => h) (Or.inl ⟨by rfl, ?_⟩) (by assumption) ?_
                  rotate_left 1
                  · (intro wy hSw; (try dsimp only at hSw); go_simp; try with_reducible rfl)
                  (try simp only [Act.put])
                  refine wpAnyH_ready (rs := [10]) (by kernel_rfl) (by simp) ?_
                  refine AllReadyH.cons (o := _) rfl (fun K9 hK9 => ?_) AllReadyH.nil
                  go_simp
                  refine hK9.out _ _ (fun i => blk_cell ((blk_far (p := ⟨gS, 4, none⟩) hne13 _).trans (B13d w14).1) i) (fun hHeld => ?_)
                  clear hK9 K9
                  (try simp only [Act.put])
                  refine wpAnyH_done (by kernel_rfl) ?_ _
                  go_wp2_with fail
                  have hbd14 : Below wd.heap.size wd w14 := (l14 wd).below
                  have ho9d := (ho9.below lw9d.below).below hbd14
                  have hS14 := blk_below hSd hbd14
                  have ho9e := ho9d.far (p := ⟨gS, 4, none⟩) (own_off ho9d hS14 (by decide)) (.slice A3 (il.length + 1) c3)
                  have hz0d : w0.heap.size ≤ wd.heap.size := (hb09.trans (lw9d.below.mono hb09.size)).size
                  have ho14m := ho14.mono hz0d
                  have ho14e := ho14m.far (p := ⟨gS, 4, none⟩) (own_off ho14m hS14 (by decide)) (.slice A3 (il.length + 1) c3)
                  have hNL := hide (ho14.at_ InsetE.enc).1
                  have hbE := ((hb09.trans (lw9d.below.mono hb09.size)).trans (hbd14.mono hz0d)).setCell (p := ⟨gS, 4, none⟩) hgS (.slice A3 (il.length + 1) c3)
                  have hins := insert_sortL (show Go.Sort.SWO ltIn from cmpIn_swo) (M := (insL (conL l) (ks.take k) ⟨e3, e4⟩).map toIn) (y := ⟨k1, k2, k5⟩) (a := 0) (by rw [← hil.out]; omega) (by rw [← hil.out]; exact hab.out) (by rw [← hil.out]; exact H2.out)
                  rw [← hil.out, HD.out] at hins
                  go_roundw
                  case rel => exact ⟨k + 1, fl ++ [k7], A9, c9, il.take 0 ++ [⟨k1, k2, k5⟩] ++ il, A3, c3, by omega, by rw [List.length_append]; rfl, by go_num, hide (by rw [HT2.out, List.map_append, ← hfl.out]; rfl), hide (by rw [HT2.out, List.map_append]; exact hins), hide (by rw [← hNL.out, List.length_append, List.length_singleton]; omega), by rw [List.length_append]; exact ho9e, by rw [← hNL.out]; exact ho14e, by rw [← hNL.out]; exact (blk_set hS14 4 _).trans rfl, hbE⟩
                  case measure => simp [intOf]; omega
                · go_simp
                  refine hK9.out _ _ (fun i => ((B13d _).2 i).1) (fun hHeld => ?_)
                  clear hK9 K9
                  (try simp only [Act.put])
                  refine wpAnyH_take (i := 7) (oi := _) (v := ?_) rfl (by kernel_rfl) (by kernel_rfl) (by kernel_rfl) (fun _ _ _ h => h) (Or.inl ⟨by rfl, ?_⟩) (by assumption) ?_
                  rotate_left 1
                  · (intro wy hSw; (try dsimp only at hSw); go_simp; try with_reducible rfl)
                  (try simp only [Act.put])
                  refine wpAnyH_ready (rs := [3]) (by kernel_rfl) (by simp) ?_
                  refine AllReadyH.cons (o := _) rfl (fun K9 hK9 => ?_) AllReadyH.nil
                  refine step_app (P := Try.prog) rfl (.tmp 87) (.tmp 89) (by rfl) InsetE.enc insT _ _ [⟨k1, k2, k5⟩] (il.take 0) (.slice Ab 0 cb) (by rfl) (by rfl) (m := 1) (n := 0 + 1) rfl (by rw [htk]) (ho12.later _) (blk_slAt InsetE.enc (fr := (0, 0)) (e := 58) (heap_alloc_new _ _) [⟨k1, k2, k5⟩] rfl) (by omega) (by unfold maxLen; omega) (by simp only [heap_drew, World.size_alloc]; omega) ?_
                  intro A2 c2 w13 ho13 hm13 hb13 hg13
                  have l13 := later_base (W := wd) hb13
                  have l1313 : Later w13 w13 := Later.refl
                  have hz13' : wd.heap.size ≤ w13.heap.size := (l13 wd).below.size
                  refine hK9.out _ _ (fun i => ((B13d _).2 i).1) (fun hHeld => ?_)
                  clear hK9 K9
                  (try simp only [Act.put])
                  refine wpAnyH_ready (rs := [8]) (by kernel_rfl) (by simp) ?_
                  refine AllReadyH.cons (o := _) rfl (fun K9 hK9 => ?_) AllReadyH.nil
                  refine step_app (P := Try.prog) rfl (.tmp 90) (.tmp 94) (by rfl) InsetE.enc insT (some ⟨b2, o2, none⟩) IC il (il.take 0 ++ [⟨k1, k2, k5⟩]) (.slice A2 (0 + 1) c2) (by rfl) (by rfl) (m := il.length) (n := il.length + 1) rfl (by simp only [List.length_append, htk, List.length_singleton] <;> omega) (ho13.later _) (HI _) (by omega) (by unfold maxLen; omega) (by (try simp only [heap_drew, World.size_alloc]); omega) ?_
                  intro A3 c3 w14 ho14 hm14 hb14 hg14
                  have l14 := later_base (W := wd) hb14
                  have l1414 : Later w14 w14 := Later.refl
                  refine hK9.out _ _ (fun i => ((B13d _).2 i).1) (fun hHeld => ?_)
                  clear hK9 K9
                  (try simp only [Act.put])
                  refine wpAnyH_take (i := 9) (oi := _) (v := ?_) rfl (by kernel_rfl) (by kernel_rfl) (by kernel_rfl) (fun _ _ _ h => h) (Or.inl ⟨by rfl, ?_⟩) (by assumption) ?_
                  rotate_left 1
                  · (intro wy hSw; (try dsimp only at hSw); go_simp; try with_reducible rfl)
                  (try simp only [Act.put])
                  refine wpAnyH_ready (rs := [10]) (by kernel_rfl) (by simp) ?_
                  refine AllReadyH.cons (o := _) rfl (fun K9 hK9 => ?_) AllReadyH.nil
                  go_simp
                  refine hK9.out _ _ (fun i => blk_cell ((blk_far (p := ⟨gS, 4, none⟩) hne13 _).trans (B13d w14).1) i) (fun hHeld => ?_)
                  clear hK9 K9
                  (try simp only [Act.put])
                  refine wpAnyH_done (by kernel_rfl) ?_ _
                  go_wp2_with fail
                  have hbd14 : Below wd.heap.size wd w14 := (l14 wd).below
                  have ho9d := (ho9.below lw9d.below).below hbd14
                  have hS14 := blk_below hSd hbd14
                  have ho9e := ho9d.far (p := ⟨gS, 4, none⟩) (own_off ho9d hS14 (by decide)) (.slice A3 (il.length + 1) c3)
                  have hz0d : w0.heap.size ≤ wd.heap.size := (hb09.trans (lw9d.below.mono hb09.size)).size
                  have ho14m := ho14.mono hz0d
                  have ho14e := ho14m.far (p := ⟨gS, 4, none⟩) (own_off ho14m hS14 (by decide)) (.slice A3 (il.length + 1) c3)
                  have hNL := hide (ho14.at_ InsetE.enc).1
                  have hbE := ((hb09.trans (lw9d.below.mono hb09.size)).trans (hbd14.mono hz0d)).setCell (p := ⟨gS, 4, none⟩) hgS (.slice A3 (il.length + 1) c3)
                  have hins := insert_sortL (show Go.Sort.SWO ltIn from cmpIn_swo) (M := (insL (conL l) (ks.take k) ⟨e3, e4⟩).map toIn) (y := ⟨k1, k2, k5⟩) (a := 0) (by rw [← hil.out]; omega) (by rw [← hil.out]; exact hab.out) (by rw [← hil.out]; exact H2.out)
                  rw [← hil.out, HD.out] at hins
                  go_roundw
                  case rel => exact ⟨k + 1, fl ++ [k7], A9, c9, il.take 0 ++ [⟨k1, k2, k5⟩] ++ il, A3, c3, by omega, by rw [List.length_append]; rfl, by go_num, hide (by rw [HT2.out, List.map_append, ← hfl.out]; rfl), hide (by rw [HT2.out, List.map_append]; exact hins), hide (by rw [← hNL.out, List.length_append, List.length_singleton]; omega), by rw [List.length_append]; exact ho9e, by rw [← hNL.out]; exact ho14e, by rw [← hNL.out]; exact (blk_set hS14 4 _).trans rfl, hbE⟩
                  case measure => simp [intOf]; omega
              · go_simp
                refine hK9.out _ _ (fun i => ((B13d _).2 i).1) (fun hHeld => ?_)
                clear hK9 K9
                (try simp only [Act.put])
                refine wpAnyH_take (i := 7) (oi := _) (v := ?_) rfl (by kernel_rfl) (by kernel_rfl) (by kernel_rfl) (fun _ _ _ h => h) (Or.inl ⟨by rfl, ?_⟩) (by assumption) ?_
                rotate_left 1
                · (intro wy hSw; (try dsimp only at hSw); go_simp; try with_reducible rfl)
                (try simp only [Act.put])
                refine wpAnyH_ready (rs := [2]) (by kernel_rfl) (by simp) ?_
                refine AllReadyH.cons (o := _) rfl (fun K9 hK9 => ?_) AllReadyH.nil
                go_simp
                refine hK9.out _ _ (fun i => ((B13d _).2 i).1) (fun hHeld => ?_)
                clear hK9 K9
                (try simp only [Act.put])
                refine wpAnyH_ready (rs := [3]) (by kernel_rfl) (by simp) ?_
                refine AllReadyH.cons (o := _) rfl (fun K9 hK9 => ?_) AllReadyH.nil
                refine step_app (P := Try.prog) rfl (.tmp 87) (.tmp 89) (by rfl) InsetE.enc insT _ _ [⟨k1, k2, k5⟩] (il.take 0) (.slice Ab 0 cb) (by rfl) (by rfl) (m := 1) (n := 0 + 1) rfl (by rw [htk]) (ho12.later _) (blk_slAt InsetE.enc (fr := (0, 0)) (e := 58) (heap_alloc_new _ _) [⟨k1, k2, k5⟩] rfl) (by omega) (by unfold maxLen; omega) (by simp only [heap_drew, World.size_alloc]; omega) ?_
                intro A2 c2 w13 ho13 hm13 hb13 hg13
                have l13 := later_base (W := wd) hb13
                have l1313 : Later w13 w13 := Later.refl
                have hz13' : wd.heap.size ≤ w13.heap.size := (l13 wd).below.size
                refine hK9.out _ _ (fun i => ((B13d _).2 i).1) (fun hHeld => ?_)
                clear hK9 K9
                (try simp only [Act.put])
                refine wpAnyH_ready (rs := [8]) (by kernel_rfl) (by simp) ?_
                refine AllReadyH.cons (o := _) rfl (fun K9 hK9 => ?_) AllReadyH.nil
                refine step_app (P := Try.prog) rfl (.tmp 90) (.tmp 94) (by rfl) InsetE.enc insT (some ⟨b2, o2, none⟩) IC il (il.take 0 ++ [⟨k1, k2, k5⟩]) (.slice A2 (0 + 1) c2) (by rfl) (by rfl) (m := il.length) (n := il.length + 1) rfl (by simp only [List.length_append, htk, List.length_singleton] <;> omega) (ho13.later _) (HI _) (by omega) (by unfold maxLen; omega) (by (try simp only [heap_drew, World.size_alloc]); omega) ?_
                intro A3 c3 w14 ho14 hm14 hb14 hg14
                have l14 := later_base (W := wd) hb14
                have l1414 : Later w14 w14 := Later.refl
                refine hK9.out _ _ (fun i => ((B13d _).2 i).1) (fun hHeld => ?_)
                clear hK9 K9
                (try simp only [Act.put])
                refine wpAnyH_take (i := 9) (oi := _) (v := ?_) rfl (by kernel_rfl) (by kernel_rfl) (by kernel_rfl) (fun _ _ _ h => h) (Or.inl ⟨by rfl, ?_⟩) (by assumption) ?_
                rotate_left 1
                · (intro wy hSw; (try dsimp only at hSw); go_simp; try with_reducible rfl)
                (try simp only [Act.put])
                refine wpAnyH_ready (rs := [10]) (by kernel_rfl) (by simp) ?_
                refine AllReadyH.cons (o := _) rfl (fun K9 hK9 => ?_) AllReadyH.nil
                go_simp
                refine hK9.out _ _ (fun i => blk_cell ((blk_far (p := ⟨gS, 4, none⟩) hne13 _).trans (B13d w14).1) i) (fun hHeld => ?_)
                clear hK9 K9
                (try simp only [Act.put])
                refine wpAnyH_done (by kernel_rfl) ?_ _
                go_wp2_with fail
                have hbd14 : Below wd.heap.size wd w14 := (l14 wd).below
                have ho9d := (ho9.below lw9d.below).below hbd14
                have hS14 := blk_below hSd hbd14
                have ho9e := ho9d.far (p := ⟨gS, 4, none⟩) (own_off ho9d hS14 (by decide)) (.slice A3 (il.length + 1) c3)
                have hz0d : w0.heap.size ≤ wd.heap.size := (hb09.trans (lw9d.below.mono hb09.size)).size
                have ho14m := ho14.mono hz0d
                have ho14e := ho14m.far (p := ⟨gS, 4, none⟩) (own_off ho14m hS14 (by decide)) (.slice A3 (il.length + 1) c3)
                have hNL := hide (ho14.at_ InsetE.enc).1
                have hbE := ((hb09.trans (lw9d.below.mono hb09.size)).trans (hbd14.mono hz0d)).setCell (p := ⟨gS, 4, none⟩) hgS (.slice A3 (il.length + 1) c3)
                have hins := insert_sortL (show Go.Sort.SWO ltIn from cmpIn_swo) (M := (insL (conL l) (ks.take k) ⟨e3, e4⟩).map toIn) (y := ⟨k1, k2, k5⟩) (a := 0) (by rw [← hil.out]; omega) (by rw [← hil.out]; exact hab.out) (by rw [← hil.out]; exact H2.out)
                rw [← hil.out, HD.out] at hins
                go_roundw
                case rel => exact ⟨k + 1, fl ++ [k7], A9, c9, il.take 0 ++ [⟨k1, k2, k5⟩] ++ il, A3, c3, by omega, by rw [List.length_append]; rfl, by go_num, hide (by rw [HT2.out, List.map_append, ← hfl.out]; rfl), hide (by rw [HT2.out, List.map_append]; exact hins), hide (by rw [← hNL.out, List.length_append, List.length_singleton]; omega), by rw [List.length_append]; exact ho9e, by rw [← hNL.out]; exact ho14e, by rw [← hNL.out]; exact (blk_set hS14 4 _).trans rfl, hbE⟩
                case measure => simp [intOf]; omega
      · have hkk : k = ks.length := by omega
        subst hkk
        have hlf := hln.out.1
        have hRS : ∀ u [Later wr u], Calls Try.prog 71 #[.bool V, .slice FA fl.length FC] u fun e w' => e = .returned (.int .i64 (farD V fl)) ∧ Below u.heap.size u w' := fun u i => rstub_any V FA FC fl u ((hof.below i.below).at_ I64.enc).2.2 (by omega)
        go_upto_region 16 with (go_at_call 71; refine (hRS _).mono ?_; rintro r w3 ⟨rfl, hb3⟩; have l3 := later hb3)
        refine wp_name ?_
        intro w5 hw5
        have hS3 := blk_below hbx hb3
        have hoi3 := hoi.below hb3
        have hoi5 := hoi3.far (p := ⟨gS, 3, none⟩) (own_off hoi3 hS3 (by decide)) (.int .i64 (farD V fl))
        have hb05 := (hbr.trans (hb3.mono hbr.size)).setCell (p := ⟨gS, 3, none⟩) hgS (.int .i64 (farD V fl))
        have hS5 : w5.heap[gS]? = some (.cells #[.int .i64 e1, .int .u64 e2, .bool V, .int .i64 (farD V fl), .slice IA il.length IC] 41 (0, 0)) := by rw [← hw5]; exact (blk_set hS3 3 _).trans (by simp)
        rw [hw5] at hoi5 hb05
        clear hw5 hbx BS hoi hof hS3 hoi3
        have BS5 := boxed hS5
        have l5 := later hb05
        have l55 : Later w5 w5 := Later.refl
        have hz2 : w.heap.size + 1 + 1 < w0.heap.size := boxed_lt B2
        go_wp2_with fail
        have hW := blk_set5 (v0 := .int .i64 e1) (v1 := .int .u64 e2) (v2 := .bool V) (v3 := .int .i64 (farD V fl)) (v4 := .slice IA il.length IC) (B2 w5).1
        have r0 := blk_cell hW 0
        have r1 := blk_cell hW 1
        have r2 := blk_cell hW 2
        have r3 := blk_cell hW 3
        have r4 := blk_cell hW 4
        simp at r0 r1 r2 r3 r4
        have hat := (((((hoi5.set (p := ⟨w.heap.size + 1 + 1, 0, none⟩) hz2 (.int .i64 e1)).set (p := ⟨w.heap.size + 1 + 1, 1, none⟩) hz2 (.int .u64 e2)).set (p := ⟨w.heap.size + 1 + 1, 2, none⟩) hz2 (.bool V)).set (p := ⟨w.heap.size + 1 + 1, 3, none⟩) hz2 (.int .i64 (farD V fl))).set (p := ⟨w.heap.size + 1 + 1, 4, none⟩) hz2 (.slice IA il.length IC))
        have hbw5 : Below w.heap.size w w5 := hb0.trans (hb05.mono hwz)
        refine bodyPost_ret (v := .agg #[.int .i64 e1, .int .u64 e2, .bool V, .int .i64 (farD V fl), .slice IA il.length IC]) (by simp [results, Try.results33, go_sem, r0, r1, r2, r3, r4]) rfl ?_
        have hfe := hfl.out
        have hie := hil.out
        rw [List.take_length] at hfe hie
        exact ⟨⟨e1, e2, V, farD V fl, IA, IC, il⟩, hide (by
          unfold sumOf SumE.con idS
          dsimp only
          rw [← hfe, ← hie, show V = hasB (conL l) roots ⟨e3, e4⟩ by rw [HV.out, HX.out]]), rfl, hat.mono hwz, below_set5 hbw5 (by omega)⟩
end Go.Proofs.Ytomgdkfoinojiaa
