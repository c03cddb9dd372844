/-
  Small texts of this seat, put into one. Conditions stand in each theorem.
-/
import Derived.Test.YtffnogjgnpbjlaaGrpZ
import Derived.Test.YtffnogjgnpbjlaaGFind2
import Derived.Test.YtffnogjgnpbjlaaD58Sizes
import Derived.Test.YtffnogjgnpbjlaaGReach
import Derived.Test.YtffnogjgnpbjlaaGrp1
import Derived.Test.YtffnogjgnpbjlaaD58Doms
set_option linter.unusedSimpArgs false
set_option linter.unusedVariables false
namespace Go.Proofs.Ytffnogjgnpbjlaa
open Go.RowKit
/-- What Set gives: the increasing list of the members, in a slice of the call's own. -/
def SetIPost (l : List IDE) (w : World) (r : Ending) (w' : World) : Prop := ∃ q A c, Hid (q = setI l) ∧ r = .returned (.slice A q.length c) ∧ Own IDE.cells 2 46 w.heap.size w' (.slice A q.length c) q ∧ Below w.heap.size w w'
set_option maxRecDepth 100000 in
set_option maxHeartbeats 2000000 in
theorem setI_any (A : Option Addr) (c : Nat) (l : List IDE) (w : World) (hs : SlAt IDE.cells 2 w A l) (hl : l.length ≤ 1000000000) :
    Calls Try.prog 42 #[.slice A l.length c] w (SetIPost l w) := by
  go_enter Try.func42, Try.ntmps42
  go_wp2_with (go_at_call 46; refine (cloneI_any A c l w hs hl).mono ?_)
  rintro r w1 ⟨A1, c1, rfl, h1, h2, ho1, hb1⟩
  go_wp2_with (go_at_call 47; refine (sortIds A1 c1 l w.heap.size w1 ho1 (by omega) hb1.size).mono ?_)
  rintro r w2 ⟨rfl, d, hp, hpw, ho2, hb2, hg2⟩
  have hdl := hide hp.length_eq
  have hb02 : Below w.heap.size w w2 := hb1.trans hb2
  rw [← hdl.out] at ho2 ⊢
  have hq : cpt d = setI l := setI_unique (cpt_strict (sortedJ hpw)) fun x => (cpt_mem d x).trans hp.mem_iff
  go_wp2_with (go_at_call 61; refine (compact_any A1 c1 d w.heap.size w2 ho2 (by rw [hdl.out]; exact hl) hb02.size).mono ?_)
  rintro r w3 ⟨q, hqq, rfl, ho3, hb3⟩
  go_wp2_with fail
  go_ret
  exact ⟨q, A1, c1, hide (hqq.out.trans hq), rfl, ho3, hb02.trans hb3⟩
end Go.Proofs.Ytffnogjgnpbjlaa

namespace Go.Proofs.Ytffnogjgnpbjlaa
open Go.RowKit
attribute [local go_sem] Oper.semAt_some
attribute [local simp] heap_drew
theorem wordsI_bnd {L : List NodeC} (hf : ∀ n ∈ L, n.fields.length ≤ 10000) (y : IDE) : 0 ≤ wordsI L y ∧ wordsI L y ≤ 10002 := by
  unfold wordsI
  split
  · rename_i n hn
    have := hf n (firstN_some hn).1
    unfold wordsN
    omega
  · omega
theorem sumW_bnd {L : List NodeC} (hf : ∀ n ∈ L, n.fields.length ≤ 10000) {q : List IDE} (hq : q.length ≤ 10000) : 0 ≤ sumW L q ∧ sumW L q ≤ 100020000 := by
  have := sum_bnd2 (M := 10002) (n := 10000) (l := q.map (wordsI L)) (fun x hx => by obtain ⟨v, _, rfl⟩ := List.mem_map.1 hx; exact wordsI_bnd hf v) (by rw [List.length_map]; exact hq) (by omega)
  unfold sumW
  omega
theorem conL_bnd {l : List NodeE} (hf : ∀ n ∈ l, n.fields.length ≤ 10000) : ∀ n ∈ conL l, n.fields.length ≤ 10000 := fun n hn => by
  obtain ⟨m, hm, rfl⟩ := List.mem_map.1 hn
  simpa [NodeE.con] using hf m hm
theorem setI_len (l : List IDE) : (setI l).length ≤ l.length := nodup_len (setI_sorted l).nodup fun x h => setI_mem.1 h
/-- What Words answers. -/
def WorP (L : List NodeC) (ids : List IDE) (w : World) (r : Ending) (w' : World) : Prop := ∃ s, r = .returned (.int .i64 s) ∧ Hid (s = sumW L (setI ids)) ∧ Below w.heap.size w w'
set_option maxRecDepth 100000 in
set_option maxHeartbeats 4000000 in
theorem Words_any (A : Option Addr) (c : Nat) (l : List NodeE) (IA : Option Addr) (ic : Nat) (ids : List IDE) (w : World) (H : NodesAt w A l) (hI : SlAt IDE.cells 2 w IA ids) (hl : l.length ≤ 10000) (hf : ∀ n ∈ l, n.fields.length ≤ 10000) (hi : ids.length ≤ 10000) :
    Calls Try.prog 20 #[.agg #[.slice A l.length c], .slice IA ids.length ic] w (WorP (conL l) ids w) := by
  have HF : ∀ (x : IDE) (u : World) [Later w u], Calls Try.prog 43 #[.agg #[.slice A l.length c], x.v] u (FindPost (conL l) x u) := fun x u j => find_any A c l x u (H.below j.below) (by omega) (fun n hn => Nat.le_trans (hf n hn) (by omega))
  have HS : ∀ u [Later w u], Calls Try.prog 42 #[.slice IA ids.length ic] u (SetIPost ids u) := fun u j => setI_any IA ic ids u (hI.below j.below) (by omega)
  go_enter Try.func20, Try.ntmps20
  go_upto_region 1 with fail
  refine wp_name ?_
  intro w1 hw1
  obtain ⟨B0, l1⟩ := box1 hw1
  clear hw1
  go_upto_region 3 with (go_at_call 42; refine (HS _).mono ?_; rintro r w2 ⟨q, QA, QC, hq, rfl, hoq, hb2⟩; have l2 := later hb2)
  have hql : q.length ≤ 10000 := by rw [hq.out]; exact Nat.le_trans (setI_len ids) hi
  go_loopw [5, 13] (fun sv kv wr => ∃ (k : Nat) (s : Int), k ≤ q.length ∧ kv = .int .i64 k ∧ sv = .int .i64 s ∧ Hid (s = sumW (conL l) (q.take k)) ∧ Below w2.heap.size w2 wr) (fun _ kv _ => q.length - (intOf kv).toNat)
  case atStart => exact ⟨0, 0, by omega, rfl, rfl, hide rfl, Below.refl _ _⟩
  case round =>
    obtain ⟨k, s, hk, rfl, rfl, hs, hbr⟩ := hrel
    have lr := later hbr
    have lrr : Later wr wr := Later.refl
    have lw : Later w wr := by infer_instance
    have hsb : 0 ≤ s ∧ s ≤ 100020000 := by rw [hs.out]; exact sumW_bnd (conL_bnd hf) (by rw [List.length_take]; omega)
    obtain ⟨hs0, hs1⟩ := hsb
    by_cases hlt : k < q.length
    · have hki : (k : Int) < (q.length : Int) := by omega
      obtain ⟨y, hy⟩ : ∃ y, q[k]? = some y := ⟨_, List.getElem?_eq_getElem hlt⟩
      obtain ⟨b9, o9, rfl, C1, C2⟩ := id_at ((hoq.at_ IDE.enc).2.2) hy
      have hsn := hide (show sumW (conL l) (q.take (k + 1)) = s + wordsI (conL l) y by rw [take_snoc_get hy, sumW_snoc, ← hs.out])
      have HFy := fun (u : World) (j : Later w u) => HF y u
      unfold FindPost at HFy
      have hwy := wordsI_bnd (conL_bnd hf) y
      clear hy
      cases hfn : firstN (conL l) y with
      | none =>
        simp only [hfn, Option.isSome_none] at HFy
        have hn0 := hide (show wordsI (conL l) y = 0 by unfold wordsI; rw [hfn])
        clear hfn hwy
        obtain ⟨y1, y2⟩ := y
        dsimp only at C1 C2 HFy
        go_upto_region 5 with fail
        refine wp_name ?_
        intro w4 hw4
        obtain ⟨B7, l4⟩ := box1 hw4
        clear hw4
        go_upto_region 6 with (go_at_call 43; refine (HFy _ inferInstance).mono ?_; rintro r w5 ⟨m, rfl, hmc, hom, hm1, hm2, hb5⟩; have l5 := later hb5)
        go_wp2_with fail
        go_roundw
        case rel => exact ⟨k + 1, s, by omega, by go_num, rfl, hide (by rw [hsn.out, hn0.out, Int.add_zero]), below_of⟩
        case measure => simp [intOf]; omega
      | some n =>
        simp only [hfn, Option.isSome_some, Option.getD_some] at HFy
        have hnw : wordsI (conL l) y = wordsN n := by unfold wordsI; rw [hfn]
        have hnf := conL_bnd hf n (firstN_some hfn).1
        obtain ⟨t, ht⟩ : ∃ t, t = wordsI (conL l) y := ⟨_, rfl⟩
        rw [← ht] at hwy
        obtain ⟨ht0, ht1⟩ := hwy
        have Ht := hide (ht.trans hnw)
        have hsn2 := hide (show sumW (conL l) (q.take (k + 1)) = s + t by rw [hsn.out, ht])
        clear hfn hnw ht hsn
        have HW := fun (m : NodeE) (hm : m.con = n) (u : World) => words_any m u (by have h := congrArg (fun x => x.fields.length) hm; simp [NodeE.con] at h; omega)
        obtain ⟨y1, y2⟩ := y
        dsimp only at C1 C2 HFy
        go_upto_region 5 with fail
        refine wp_name ?_
        intro w4 hw4
        obtain ⟨B7, l4⟩ := box1 hw4
        clear hw4
        have l44 : Later w4 w4 := Later.refl
        go_upto_region 6 with (go_at_call 43; refine (HFy _ inferInstance).mono ?_; rintro r w5 ⟨m, rfl, hmc, hom, hm1, hm2, hb5⟩; have l5 := later hb5)
        refine wp_name ?_
        intro w6 hw6
        obtain ⟨m1, m2, mk, mc, mA, mp, mf⟩ := m
        obtain ⟨B8, l6⟩ := box1 hw6
        clear hw6
        have HWm := HW _ hmc.out
        rw [hmc.out, ← Ht.out] at HWm
        dsimp only [NodeE.v] at HWm
        clear HW hmc hom hm1 hm2
        go_wp2_with (go_at_call 38; refine (HWm _).mono ?_; rintro r w7 ⟨rfl, hb7⟩; have l7 := later hb7)
        go_roundw
        case rel => exact ⟨k + 1, s + t, by omega, by go_num, by first | rfl | (congr 1; rw [IntKind.wrap_i64]; omega), hide hsn2.out.symm, below_of⟩
        case measure => simp [intOf]; omega
    · have hkk : k = q.length := by omega
      subst hkk
      go_wp2_with fail
      go_ret
      exact ⟨s, rfl, hide (by rw [hs.out, List.take_length, hq.out]), below_of⟩
end Go.Proofs.Ytffnogjgnpbjlaa

namespace Go.Proofs.Ytffnogjgnpbjlaa
open Go.RowKit
attribute [local go_sem] Oper.semAt_some
attribute [local go_sem ↓] run_eql_id run_neq_id
attribute [local simp] heap_drew
def IdxOf (l : List IDE) (x : IDE) (v : Int) : Prop := (∃ i : Nat, v = (i : Int) ∧ l[i]? = some x) ∨ (v = -1 ∧ x ∉ l)
set_option maxRecDepth 100000 in
set_option maxHeartbeats 2000000 in
theorem index_any (A : Option Addr) (c : Nat) (l : List IDE) (x : IDE) (w : World) (hS : SlAt IDE.cells 2 w A l) (hl : l.length ≤ 1000000) :
    Calls Try.prog 44 #[.slice A l.length c, x.v] w fun r w' => ∃ v, r = .returned (.int .i64 v) ∧ Hid (IdxOf l x v) ∧ Below w.heap.size w w' := by
  obtain ⟨x1, x2⟩ := x
  dsimp only [IDE.v]
  go_enter Try.func44, Try.ntmps44
  go_upto_region 1 with fail
  refine wp_name ?_
  intro w1 hw1
  obtain ⟨B0, l1⟩ := box1 hw1
  clear hw1
  have hb1 : Below w.heap.size w w1 := (l1 w).below
  go_upto_region 2 with fail
  go_loopw [8] (fun kv wr => ∃ k : Nat, k ≤ l.length ∧ kv = .int .i64 k ∧ Hid (∀ j, j < k → l[j]? ≠ some ⟨x1, x2⟩) ∧ Below w1.heap.size w1 wr) (fun kv _ => l.length - (intOf kv).toNat)
  case atStart => exact ⟨0, by omega, rfl, hide (fun j hj => by omega), Below.refl _ _⟩
  case round =>
    obtain ⟨k, hk, rfl, hno, hbr⟩ := hrel
    have lr := later hbr
    have lrr : Later wr wr := Later.refl
    by_cases hlt : k < l.length
    · have hki : (k : Int) < (l.length : Int) := by omega
      obtain ⟨y, hy⟩ : ∃ y, l[k]? = some y := ⟨_, List.getElem?_eq_getElem hlt⟩
      obtain ⟨b9, o9, rfl, C1, C2⟩ := id_at hS hy
      have Hy := hide hy
      clear hy
      obtain ⟨y1, y2⟩ := y
      dsimp only at C1 C2
      go_upto_region 4 with fail
      (refine wp_region_after (by kernel_rfl) (by kernel_rfl) ?_
       repeat (any_goals (first | go_big_quiet_skip | (go_big_quiet_want; go_big_quiet_op; first | go_big_quiet_on | go_big_quiet_call (fail)) | quiet_step (fail) | (refine wpQuiet_step (fun K hK => ?_); go_simp; split <;> (refine hK _ ?_; clear hK K))))
       all_goals (refine wpQuiet_nil ?_; intro _ hw'; obtain ⟨u', hw''⟩ := hw'; subst hw''; obtain ⟨wd, hbd⟩ := u'; simp only [After.val_mk]))
      have ld := later hbd
      have hiq := hide (ideq_iff (a := ⟨x1, x2⟩) (b := ⟨y1, y2⟩))
      cases he : ideq x1 x2 y1 y2 with
      | true =>
        have e : (⟨x1, x2⟩ : IDE) = ⟨y1, y2⟩ := of_decide_eq_true (hiq.out.symm.trans he)
        replace Hy := hide (Hy.out.trans (congrArg some e.symm))
        clear e
        go_wp2_with fail
        go_ret
        exact ⟨_, rfl, hide (.inl ⟨k, rfl, Hy.out⟩), below_of⟩
      | false =>
        have hne := hide (show (⟨y1, y2⟩ : IDE) ≠ ⟨x1, x2⟩ from fun e => of_decide_eq_false (hiq.out.symm.trans he) e.symm)
        go_wp2_with fail
        go_roundw
        case rel => exact ⟨k + 1, by omega, by go_num, hide (fun j hj => by
          by_cases e : j = k
          · subst e; rw [Hy.out]; intro e'; exact hne.out (Option.some.inj e')
          · exact hno.out j (by omega)), below_of⟩
        case measure => simp [intOf]; omega
    · have hkk : k = l.length := by omega
      subst hkk
      go_wp2_with fail
      go_ret
      exact ⟨_, rfl, hide (.inr ⟨rfl, fun hx => by
        obtain ⟨j, hj⟩ := List.getElem?_of_mem hx
        exact hno.out j (get_lt hj) hj⟩), below_of⟩
end Go.Proofs.Ytffnogjgnpbjlaa

namespace Go.Proofs.Ytffnogjgnpbjlaa
open Go.RowKit
attribute [local go_sem] Oper.semAt_some
attribute [local simp] heap_drew
theorem idTR : ElemT Try.prog 25 46 2 16 := ElemT.mk' (z := .agg #[.int .i64 0, .int .i64 0]) Try.underlying25 (by kernel_rfl) rfl
/-- What Retained answers. -/
def RetPP (L : List NodeC) (roots : List IDE) (x : IDE) (w : World) (r : Ending) (w' : World) : Prop :=
  ∃ (q : List IDE) (A : Option Addr) (c : Nat), r = .returned (.slice A q.length c) ∧ Hid (RetL L roots x q) ∧ Own IDE.cells 2 46 w.heap.size w' (.slice A q.length c) q ∧ Below w.heap.size w w'
open Classical in
/-- The retained among the first m. -/
noncomputable def retO (L : List NodeC) (roots : List IDE) (x : IDE) (ids : List IDE) (q : List Nat) (m : Nat) : List IDE := ((q.take m).filter fun i => decide (RetP L roots x (ids.getD i ⟨0, 0⟩))).map fun i => ids.getD i ⟨0, 0⟩
section
variable {L : List NodeC} {roots ids : List IDE} {x : IDE} {q : List Nat} {m i : Nat} {d : Nat → Int}
theorem retO_yes (h : q[m]? = some i) (hp : RetP L roots x (ids.getD i ⟨0, 0⟩)) : retO L roots x ids q (m + 1) = retO L roots x ids q m ++ [ids.getD i ⟨0, 0⟩] := by
  unfold retO
  rw [take_snoc_get h, List.filter_append, List.map_append]
  simp only [List.filter_cons, hp, decide_true, if_true, List.filter_nil, List.map_cons, List.map_nil]
theorem retO_no (h : q[m]? = some i) (hp : ¬ RetP L roots x (ids.getD i ⟨0, 0⟩)) : retO L roots x ids q (m + 1) = retO L roots x ids q m := by
  unfold retO
  rw [take_snoc_get h, List.filter_append, List.map_append]
  simp only [List.filter_cons, hp, decide_false, Bool.false_eq_true, if_false, List.filter_nil, List.map_nil, List.append_nil]
theorem retO_len : (retO L roots x ids q m).length ≤ m := by
  unfold retO
  rw [List.length_map]
  refine Nat.le_trans (List.length_filter_le _ _) ?_
  rw [List.length_take]; omega
theorem TreeOk.retO_all (T : TreeOk L roots ids d) (h : OrdL ids q) : RetL L roots x (retO L roots x ids q q.length) := by
  unfold retO
  rw [List.take_length]
  constructor
  · have := h.2
    unfold SortedI at this ⊢
    rw [List.pairwise_map] at this ⊢
    exact this.filter _
  · intro y
    rw [List.mem_map]
    constructor
    · rintro ⟨i, hi, rfl⟩
      have := (List.mem_filter.1 hi).2
      simpa using this
    · intro hy
      obtain ⟨i, hi⟩ := List.getElem?_of_mem ((T.dfs.mem y).2 hy.1)
      have e := getD_of (d := ⟨0, 0⟩) hi
      refine ⟨i, List.mem_filter.2 ⟨(h.1.mem_iff).2 (List.mem_range.2 (get_lt hi)), ?_⟩, e⟩
      rw [e]; simpa using hy
end
set_option maxRecDepth 100000 in
set_option maxHeartbeats 8000000 in
theorem ret_any (A : Option Addr) (c : Nat) (l : List NodeE) (x : IDE) (RA : Option Addr) (rc : Nat) (roots : List IDE) (w : World) (H : NodesAt w A l) (hR : SlAt IDE.cells 2 w RA roots) (hl : l.length ≤ 10000) (hf : ∀ n ∈ l, n.fields.length ≤ 10000) (hr : roots.length ≤ 10000) :
    Calls Try.prog 23 #[.agg #[.slice A l.length c], x.v, .slice RA roots.length rc] w (RetPP (conL l) roots x w) := by
  have HT : ∀ u [Later w u], Calls Try.prog 34 #[.agg #[.slice A l.length c], .slice RA roots.length rc] u (TreeP l roots u) := fun u i => dominators_any A c l RA rc roots u (H.below i.below) (hR.below i.below) hl hf hr
  obtain ⟨xx, hxx⟩ : ∃ xx, xx = x := ⟨_, rfl⟩
  have Hxx := hide hxx
  rw [← hxx]
  clear hxx
  obtain ⟨x1, x2⟩ := x
  have hxv : xx.v = .agg #[.int .i64 x1, .int .i64 x2] := by rw [Hxx.out]
  rw [hxv]
  clear hxv
  go_enter Try.func23, Try.ntmps23
  go_upto_region 1 with fail
  refine wp_name ?_
  intro w1 hw1
  obtain ⟨B0, B1, l1⟩ := box2 hw1
  clear hw1
  go_upto_region 2 with (go_at_call 34; refine (HT _).mono ?_; intro r w2 hh; obtain ⟨gt, ids, d, iA, iC, nA, nC, dA, dC, rfl, hT, hil, ht, hSi, hSn, hSd, hb2⟩ := hh; have l2 := later hb2)
  have XT := boxed ht
  have l22 : Later w2 w2 := Later.refl
  have HI : ∀ u [Later w2 u], Calls Try.prog 44 #[.slice iA ids.length iC, .agg #[.int .i64 x1, .int .i64 x2]] u (fun r w' => ∃ v, r = .returned (.int .i64 v) ∧ Hid (IdxOf ids ⟨x1, x2⟩ v) ∧ Below u.heap.size u w') := fun u i => index_any iA iC ids ⟨x1, x2⟩ u (hSi.below i.below) (by omega)
  have hOr : ∀ u [Later w2 u], Calls Try.prog 35 #[.pointer (some ⟨gt, 0, none⟩)] u (OrderP ids u) := fun u i => order_tree ids hT.out.dfs.nodup (by omega) iA iC _ _ gt u (blk_below ht i.below) (hSi.below i.below)
  go_region_held3 (fun w' => ∀ b [Later b w2], Later b w') ((intro b _; infer_instance))
    ((first | (go_at_call 44; refine (HI _).mono ?_; rintro r w3 ⟨v, rfl, hv, hb3⟩; have l3 := later hb3)))
  go_upto_region 5 with (go_at_call 35; refine (hOr _).mono ?_; intro r w4 hh; obtain ⟨q, QA, QC, rfl, hq, hoq, hb4⟩ := hh; have l4 := later hb4)
  have l24 : Later w2 w4 := by infer_instance
  have ht4 := blk_below ht l24.below
  have XT4 := boxed ht4
  have hSi4 := hSi.below l24.below
  have hSd4 := hSd.below l24.below
  have hql' := hide hq.out.len
  clear XT hSd hSn hSi l22 HI hOr
  rcases hv.out with ⟨a, rfl, ha⟩ | ⟨rfl, hnx⟩
  · have Ha := hide ha
    have hal := get_lt ha
    clear ha hv
    go_loopw [9, 25] (fun ov kv wr => ∃ (m : Nat) (qo : List IDE) (A1 : Option Addr) (c1 : Nat), m ≤ ids.length ∧ kv = .int .i64 m ∧ ov = .slice A1 qo.length c1 ∧ Hid (qo = retO (conL l) roots xx ids q m) ∧ Own IDE.cells 2 46 w4.heap.size wr (.slice A1 qo.length c1) qo ∧ Below w4.heap.size w4 wr) (fun _ kv _ => ids.length - (intOf kv).toNat)
    case atStart => exact ⟨0, [], none, 0, by omega, rfl, rfl, hide rfl, Own.nil, Below.refl _ _⟩
    case round =>
      obtain ⟨m, qo, A1, c1, hm, rfl, rfl, hqo, ho1, hbr⟩ := hrel
      have lr := later hbr
      have lrr : Later wr wr := Later.refl
      have hqm := hide (show qo.length ≤ m by rw [hqo.out]; exact retO_len)
      by_cases hlt : m < ids.length
      · have hki : (m : Int) < (ids.length : Int) := by omega
        obtain ⟨i, hi⟩ : ∃ i, q[m]? = some i := ⟨_, List.getElem?_eq_getElem (by rw [hql'.out]; exact hlt)⟩
        have Hi := hide hi
        have hil2 := hq.out.lt (List.mem_of_getElem? hi)
        obtain ⟨b7, o7, rfl, C7⟩ := int_at ((hoq.at_ I64.enc).2.2) (k := m) (x := (i : Int)) (by rw [List.getElem?_map, hi]; rfl)
        clear hi
        go_upto_region 8 with fail
        obtain ⟨w6, rfl⟩ : ∃ z, z = wr := ⟨_, rfl⟩
        go_loopw [12] (fun kv wr => ∃ k : Nat, k ≤ ids.length ∧ kv = .int .i64 k ∧ Hid (Anc d i a ↔ Anc d k a) ∧ w6 = wr) (fun kv _ => ids.length - (intOf kv).toNat)
        case atStart => exact ⟨i, by omega, rfl, hide Iff.rfl, rfl⟩
        case round =>
          obtain ⟨k, hk, rfl, hanc, rfl⟩ := hrel
          by_cases hka : k < a
          · have hkai : (k : Int) < (a : Int) := by omega
            obtain ⟨u, hu, hu1, hu2⟩ := hT.out.dend.next (show k < ids.length by omega)
            obtain ⟨b6, o6, rfl, C6⟩ := int_at hSd4 (k := k) (x := (u : Int)) (by rw [dList_get (by omega), hu])
            have hkk1 : (k : Int) < (ids.length : Int) + 1 := by omega
            have hn := hide (show Anc d i a ↔ Anc d u a from hanc.out.trans ⟨fun h => by
              rcases h.cases' with e | ⟨u', h3, h4⟩
              · omega
              · have : u' = u := by omega
                subst this; exact h4, fun h => .up hu h⟩)
            clear hu
            go_wp2_with fail
            go_roundw
            case rel => exact ⟨u, hu2, rfl, hn, by trivial⟩
            case measure => simp [intOf]; omega
          · have hkai : ¬ (k : Int) < (a : Int) := by omega
            obtain ⟨x', hx'⟩ : ∃ x', ids[i]? = some x' := ⟨_, List.getElem?_eq_getElem hil2⟩
            have hxd := hide (show ids.getD i ⟨0, 0⟩ = x' from getD_of hx')
            have hret := hide (hT.out.ret hx' (x := xx) (k := a) (by rw [Ha.out, Hxx.out]))
            by_cases hke : k = a
            · subst hke
              have Hyes := hide (show retO (conL l) roots xx ids q (m + 1) = qo ++ [x'] by rw [retO_yes Hi.out (by rw [hxd.out]; exact hret.out.1 (hanc.out.2 .refl)), ← hqo.out, hxd.out])
              obtain ⟨b9, o9, rfl, C1, C2⟩ := id_at hSi4 hx'
              have hii : (i : Int) < (ids.length : Int) := by omega
              clear hx'
              obtain ⟨y1, y2⟩ := x'
              dsimp only at C1 C2
              go_upto_region 12 with (at_builtin; refine wpList_app1 rfl (.tmp 47) (.tmp 55) rfl IDE.enc idTR ⟨y1, y2⟩ rfl rfl rfl (ho1.later _) (by rfl) (by have := hqm.out; omega) (by unfold maxLen; have := hqm.out; omega) (show w4.heap.size ≤ _ from (hbr.trans ((show Below w6.heap.size w6 _ from below_of).mono hbr.size)).size) ?_; intro A5 c5 w9 ho5 hm5 hb5 hg5 hat5)
              have hl9 := hide (show qo.length + 1 = (qo ++ [(⟨y1, y2⟩ : IDE)]).length by simp)
              go_wp2_with fail
              go_roundw
              case rel => exact ⟨m + 1, qo ++ [⟨y1, y2⟩], A5, c5, by omega, by go_num, by rw [← hl9.out], hide Hyes.out.symm, by rw [← hl9.out]; exact ho5, hbr.trans hb5⟩
              case measure => simp [intOf]; omega
            · have hkei : ((k : Int) == (a : Int)) = false := by simp; omega
              have Hnp := hide (show ¬ RetP (conL l) roots xx (ids.getD i ⟨0, 0⟩) from fun hp => by
                rw [hxd.out] at hp
                have := hT.out.dend.inv.anc_le (hanc.out.1 (hret.out.2 hp)) hk
                omega)
              clear hx'
              have Hno := hide (retO_no (L := conL l) (roots := roots) (x := xx) Hi.out Hnp.out)
              go_wp2_with fail
              go_roundw
              case rel => exact ⟨m + 1, qo, A1, c1, by omega, by go_num, rfl, hide (by rw [hqo.out]; exact Hno.out.symm), ho1, hbr⟩
              case measure => simp [intOf]; omega
      · have hmm : m = ids.length := by omega
        subst hmm
        have hbw : Below w.heap.size w w4 := below_of
        go_wp2_with fail
        go_ret
        exact ⟨qo, A1, c1, rfl, hide (by rw [hqo.out, ← hql'.out]; exact hT.out.retO_all hq.out), ho1.mono hbw.size, hbw.trans (hbr.mono hbw.size)⟩
  · have Hnx := hide hnx
    clear hnx hv
    go_loopw [9, 25] (fun ov kv wr => ∃ (m : Nat) (qo : List IDE) (A1 : Option Addr) (c1 : Nat), m ≤ ids.length ∧ kv = .int .i64 m ∧ ov = .slice A1 qo.length c1 ∧ Hid (qo = retO (conL l) roots xx ids q m) ∧ Own IDE.cells 2 46 w4.heap.size wr (.slice A1 qo.length c1) qo ∧ Below w4.heap.size w4 wr) (fun _ kv _ => ids.length - (intOf kv).toNat)
    case atStart => exact ⟨0, [], none, 0, by omega, rfl, rfl, hide rfl, Own.nil, Below.refl _ _⟩
    case round =>
      obtain ⟨m, qo, A1, c1, hm, rfl, rfl, hqo, ho1, hbr⟩ := hrel
      have lr := later hbr
      have lrr : Later wr wr := Later.refl
      have hqm := hide (show qo.length ≤ m by rw [hqo.out]; exact retO_len)
      by_cases hlt : m < ids.length
      · have hki : (m : Int) < (ids.length : Int) := by omega
        obtain ⟨i, hi⟩ : ∃ i, q[m]? = some i := ⟨_, List.getElem?_eq_getElem (by rw [hql'.out]; exact hlt)⟩
        have Hi := hide hi
        have hil2 := hq.out.lt (List.mem_of_getElem? hi)
        obtain ⟨b7, o7, rfl, C7⟩ := int_at ((hoq.at_ I64.enc).2.2) (k := m) (x := (i : Int)) (by rw [List.getElem?_map, hi]; rfl)
        clear hi
        go_upto_region 8 with fail
        obtain ⟨w6, rfl⟩ : ∃ z, z = wr := ⟨_, rfl⟩
        go_loopw [12] (fun kv wr => kv = .int .i64 i ∧ w6 = wr) (fun kv _ => 0)
        case atStart => exact ⟨rfl, rfl⟩
        case round =>
          obtain ⟨rfl, rfl⟩ := hrel
          have Hnp := hide (show ¬ RetP (conL l) roots xx (ids.getD i ⟨0, 0⟩) from fun hp => Hnx.out (by rw [← Hxx.out]; exact (hT.out.dfs.mem xx).2 hp.reach))
          have hkei : ((i : Int) == (-1 : Int)) = false := by simp
          have Hno := hide (retO_no (L := conL l) (roots := roots) (x := xx) Hi.out Hnp.out)
          go_wp2_with fail
          go_roundw
          case rel => exact ⟨m + 1, qo, A1, c1, by omega, by go_num, rfl, hide (by rw [hqo.out]; exact Hno.out.symm), ho1, hbr⟩
          case measure => simp [intOf]; omega
      · have hmm : m = ids.length := by omega
        subst hmm
        have hbw : Below w.heap.size w w4 := below_of
        go_wp2_with fail
        go_ret
        exact ⟨qo, A1, c1, rfl, hide (by rw [hqo.out, ← hql'.out]; exact hT.out.retO_all hq.out), ho1.mono hbw.size, hbw.trans (hbr.mono hbw.size)⟩
end Go.Proofs.Ytffnogjgnpbjlaa
