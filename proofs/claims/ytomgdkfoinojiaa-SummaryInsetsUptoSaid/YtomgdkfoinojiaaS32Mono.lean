/-
  Contracts of the functions of this seat that each theorem names: what a call returns, and that it writes nothing that was there before. The conditions stand in each theorem.
-/
import Derived.Test.YtomgdkfoinojiaaS32Awake2
import Derived.Test.YtomgdkfoinojiaaS32Few
import Derived.Test.YtomgdkfoinojiaaS32Grow
namespace Go.Proofs.Ytomgdkfoinojiaa
open Go.RowKit
attribute [local simp] heap_drew
theorem idT32 : ElemT Try.prog 25 45 2 16 := ElemT.mk' (z := .agg #[.int .i64 0, .int .i64 0]) Try.underlying25 (by kernel_rfl) rfl
theorem scT32 : ElemT Try.prog 26 48 12 80 := ElemT.mk' (z := .agg #[.int .i64 0, .int .u64 0, .int .i64 0, .int .i64 0, .int .i64 0, .int .i64 0, .int .i64 0, .bool false, .bool false, .bool false, .int .i64 0, .int .i64 0]) Try.underlying26 (by kernel_rfl) rfl
theorem sumL_get {L : List NodeC} {roots roots2 : List IDE} {ks ks2 : List ScionE} {es : List StubE} {q q2 : List SumE} {k : Nat} {x y : SumE} (h : q.map SumE.con = sumL L roots ks es) (h2 : q2.map SumE.con = sumL L roots2 ks2 es) (hx : q[k]? = some x) (hy : q2[k]? = some y) :
    ∃ e, x.con = sumOf L roots ks e ∧ y.con = sumOf L roots2 ks2 e := by
  rw [sumL_map] at h h2
  have a := congrArg (fun l => l[k]?) h
  have b := congrArg (fun l => l[k]?) h2
  simp only [List.getElem?_map, hx, hy, Option.map_some] at a b
  obtain ⟨e, he, ha⟩ := Option.map_eq_some_iff.1 a.symm
  refine ⟨e, ha.symm, ?_⟩
  rw [he] at b
  simpa using b
theorem sumL_len {L : List NodeC} {roots : List IDE} {ks : List ScionE} {es : List StubE} {q : List SumE} (h : q.map SumE.con = sumL L roots ks es) : q.length = (es.filter aliveB).length := by
  rw [sumL_map] at h
  have a := congrArg List.length h
  rw [List.length_map, List.length_map, sortL_len ltE_swo] at a
  exact a
theorem filter_le (es : List StubE) : (es.filter aliveB).length ≤ es.length := List.length_filter_le _ _
/-- The bounds that few gives. -/
theorem few32_bounds {L : List NodeE} {n : Nat} (h : n + L.length + fieldsN (conL L) ≤ 100) : L.length ≤ 100 ∧ ∀ x ∈ L, x.fields.length ≤ 10000 := by
  refine ⟨by omega, fun x hx => ?_⟩
  have : (x.con).fields.length ≤ fieldsN (conL L) := fieldsN_le (List.mem_map_of_mem hx)
  have h2 : x.con.fields.length = x.fields.length := rfl
  omega
set_option maxRecDepth 100000 in
set_option maxHeartbeats 4000000 in
theorem monotone_any (A : Option Addr) (c : Nat) (l : List NodeE) (RA : Option Addr) (rc : Nat) (roots : List IDE) (KA : Option Addr) (kc : Nat) (ks : List ScionE) (EA : Option Addr) (ec : Nat) (es : List StubE) (ep : Int) (MA : Option Addr) (mc : Nat) (more : List IDE) (TA : Option Addr) (tc : Nat) (kt : List ScionE) (w : World)
    (H : NodesAt w A l) (hR : SlAt IDE.cells 2 w RA roots) (hK : SlAt ScionE.cells 12 w KA ks) (hE : SlAt StubE.cells 12 w EA es) (hM : SlAt IDE.cells 2 w MA more) (hT : SlAt ScionE.cells 12 w TA kt) (hsum : roots.length + ks.length + es.length + l.length + fieldsN (conL l) ≤ 1000000000000000) (hml : more.length ≤ 1000000000000000) (htl : kt.length ≤ 1000000000000000) :
    Calls Try.prog 4 #[.agg #[.slice A l.length c, .slice RA roots.length rc, .slice KA ks.length kc, .slice EA es.length ec, .int .i64 ep], .slice MA more.length mc, .slice TA kt.length tc] w fun r w' => r = .returned (.bool true) ∧ Below w.heap.size w w' := by
  have HL := H.later
  have HR : ∀ u [Later w u], SlAt IDE.cells 2 u RA roots := fun u i => hR.below i.below
  have HM : ∀ u [Later w u], SlAt IDE.cells 2 u MA more := fun u i => hM.below i.below
  have HK : ∀ u [Later w u], SlAt ScionE.cells 12 u KA ks := fun u i => hK.below i.below
  have HT : ∀ u [Later w u], SlAt ScionE.cells 12 u TA kt := fun u i => hT.below i.below
  have HE : ∀ u [Later w u], SlAt StubE.cells 12 u EA es := fun u i => hE.below i.below
  have HF : ∀ u [Later w u], Calls Try.prog 11 #[.agg #[.slice A l.length c, .slice RA roots.length rc, .slice KA ks.length kc, .slice EA es.length ec, .int .i64 ep]] u fun r w' => r = .returned (.bool (decide (roots.length + ks.length + es.length + l.length + fieldsN (conL l) ≤ 100))) ∧ Below u.heap.size u w' := fun u i => few_any A c l RA KA EA _ rc _ kc _ ec ep u (HL u) hsum
  go_enter Try.func4, Try.ntmps4
  go_upto_region 1 with fail
  refine wp_name ?_
  intro w0 hw0
  obtain ⟨B0, l0⟩ := box1 hw0
  clear hw0
  by_cases hN : roots.length + ks.length + es.length + l.length + fieldsN (conL l) ≤ 100
  rotate_left
  · rw [decide_eq_false hN] at HF
    clear hN
    go_wp2_with (first | (go_at_call 11; refine (HF _).mono ?_; rintro r w2 ⟨rfl, hb2⟩; have l2 := later hb2) | (go_at_call 15; refine (awake_any _).mono ?_; rintro r w9 ⟨rfl, hb9⟩; have l9 := later hb9))
    go_ret
    exact ⟨rfl, below_of⟩
  rw [decide_eq_true hN] at HF
  by_cases hm : (10 : Int) < (more.length : Int)
  · clear hN
    go_wp2_with (first | (go_at_call 11; refine (HF _).mono ?_; rintro r w2 ⟨rfl, hb2⟩; have l2 := later hb2) | (go_at_call 15; refine (awake_any _).mono ?_; rintro r w9 ⟨rfl, hb9⟩; have l9 := later hb9))
    go_ret
    exact ⟨rfl, below_of⟩
  by_cases ht : (10 : Int) < (kt.length : Int)
  · clear hN
    go_wp2_with (first | (go_at_call 11; refine (HF _).mono ?_; rintro r w2 ⟨rfl, hb2⟩; have l2 := later hb2) | (go_at_call 15; refine (awake_any _).mono ?_; rintro r w9 ⟨rfl, hb9⟩; have l9 := later hb9))
    go_ret
    exact ⟨rfl, below_of⟩
  obtain ⟨hl1, hf1⟩ := few32_bounds hN
  have hrl : roots.length ≤ 100 := by omega
  have hkl : ks.length ≤ 100 := by omega
  have hel : es.length ≤ 100 := by omega
  have hml2 : more.length ≤ 10 := by omega
  have htl2 : kt.length ≤ 10 := by omega
  clear hN hsum hml htl
  have HS : ∀ u [Later w u], Calls Try.prog 13 #[.agg #[.slice A l.length c, .slice RA roots.length rc, .slice KA ks.length kc, .slice EA es.length ec, .int .i64 ep]] u (SumPost ep (sumL (conL l) roots ks es) u) := fun u i => of_any A c l RA rc roots KA kc ks EA ec es ep u (HL u) (HR u) (HK u) (HE u) (by omega) hf1 (by omega) (by omega) (by omega)
  go_upto_region 4 with (first | (go_at_call 11; refine (HF _).mono ?_; rintro r w2 ⟨rfl, hb2⟩; have l2 := later hb2) | (go_at_call 13; refine (HS _).mono ?_; rintro r w3 ⟨q, QA, Qc, hq, rfl, hoq, hiq, hb3⟩; have l3 := later hb3))
  have hqs : ∀ u [Later w3 u], SumsAt u QA q := fun u i => (hiq.below i.below).sums ((hoq.below i.below).at_ SumE.enc).2.2
  clear hoq hiq HF
  refine wp_name ?_
  intro w4 hw4
  obtain ⟨B7, l4⟩ := box1 hw4
  clear hw4
  go_upto_region 5 with fail
  refine wp_name ?_
  intro w5 hw5
  obtain ⟨B8, l5⟩ := box1 hw5
  clear hw5
  have l55 : Later w5 w5 := Later.refl
  go_upto_region 6 with (at_builtin; first
    | (refine wpList_appE rfl (.tmp 30) (.tmp 32) rfl IDE.enc idT32 _ _ roots rfl rfl (HR _) (by omega) (by unfold maxLen; omega) ?_; intro A6 c6 w6 ho6 hm6 hb6; have l6 := later hb6; have l66 : Later w6 w6 := Later.refl)
    | (refine wpList_app rfl (.tmp 33) (.tmp 34) rfl IDE.enc idT32 ho6 MA mc more (HM _) rfl rfl (by omega) (by unfold maxLen; omega) hb6.size ?_; intro v7 w7 ho7 hg7 hat7; obtain ⟨al, hal0⟩ : ∃ al, al = roots ++ more := ⟨_, rfl⟩; rw [← hal0] at ho7; have hal := hide hal0; clear hal0; obtain ⟨A7, c7, rfl, -, -, -⟩ := ho7.slAt IDE.enc; have hb57 : Below w5.heap.size w5 w7 := ho6.belowGrown hb6 hg7 (Nat.le_refl _) hb6.size; have l7 := later hb57; have l77 : Later w7 w7 := Later.refl))
  refine wp_name ?_
  intro w8 hw8
  have hz4 : w4.heap.size < w5.heap.size := boxed_lt B8
  have B8' := boxed_set B8 hw8
  have l8 := later_put (W := w4) (Nat.le_refl _) hw8
  have ho8 : Own IDE.cells 2 45 w5.heap.size w8 (.slice A7 al.length c7) al := hw8 ▸ ho7.set hz4 _
  simp at B8'
  have hall : al.length ≤ 110 := by rw [hal.out, List.length_append]; omega
  clear B8 hw8 hat7 hg7 ho7 hb57 l7 l77 hb6 ho6 l6 l66 l55 hm6
  have l88 : Later w8 w8 := Later.refl
  have l48 : Later w4 w8 := l8 w4
  go_upto_region 7 with (at_builtin; first
    | (refine wpList_appE rfl (.tmp 37) (.tmp 39) rfl ScionE.enc scT32 _ _ ks rfl rfl (HK _) (by omega) (by unfold maxLen; omega) ?_; intro A9 c9 w9 ho9 hm9 hb9; have l9 := later hb9; have l99 : Later w9 w9 := Later.refl)
    | (refine wpList_app rfl (.tmp 40) (.tmp 41) rfl ScionE.enc scT32 ho9 TA tc kt (HT _) rfl rfl (by omega) (by unfold maxLen; omega) hb9.size ?_; intro v7 w10 ho10 hg10 hat10; obtain ⟨bl, hbl0⟩ : ∃ bl, bl = ks ++ kt := ⟨_, rfl⟩; rw [← hbl0] at ho10; have hbl := hide hbl0; clear hbl0; obtain ⟨A10, c10, rfl, -, -, -⟩ := ho10.slAt ScionE.enc; have hb810 : Below w8.heap.size w8 w10 := ho9.belowGrown hb9 hg10 (Nat.le_refl _) hb9.size; have l10 := later hb810; have l1010 : Later w10 w10 := Later.refl))
  refine wp_name ?_
  intro w11 hw11
  have hz8 : w4.heap.size < w8.heap.size := boxed_lt B8'
  have B11 := boxed_set B8' hw11
  have l11 := later_put (W := w4) (Nat.le_refl _) hw11
  have ho11 : Own ScionE.cells 12 48 w8.heap.size w11 (.slice A10 bl.length c10) bl := hw11 ▸ ho10.set hz8 _
  have ho12 : Own IDE.cells 2 45 w5.heap.size w11 (.slice A7 al.length c7) al := hw11 ▸ (ho8.below hb810).set hz4 _
  simp at B11
  have hbll : bl.length ≤ 110 := by rw [hbl.out, List.length_append]; omega
  clear B8' hw11 hat10 hg10 ho10 hb810 l10 l1010 hb9 ho9 l9 l99 l88 hm9 ho8 l48
  have HA : ∀ u [Later w11 u], SlAt IDE.cells 2 u A7 al := fun u i => ((ho12.below i.below).at_ IDE.enc).2.2
  have HB : ∀ u [Later w11 u], SlAt ScionE.cells 12 u A10 bl := fun u i => ((ho11.below i.below).at_ ScionE.enc).2.2
  have l11w : Later w w11 := ⟨below_of⟩
  have l113 : Later w3 w11 := ⟨below_of⟩
  have HS2 : ∀ u [Later w11 u], Calls Try.prog 13 #[.agg #[.slice A l.length c, .slice A7 al.length c7, .slice A10 bl.length c10, .slice EA es.length ec, .int .i64 ep]] u (SumPost ep (sumL (conL l) al bl es) u) := fun u i => by
    haveI := l11w.trans i
    exact of_any A c l A7 c7 al A10 c10 bl EA ec es ep u (HL u) (HA u) (HB u) (HE u) (by omega) hf1 (by omega) (by omega) (by omega)
  have l1111 : Later w11 w11 := Later.refl
  clear HS
  go_upto_region 8 with (go_at_call 13; refine (HS2 _).mono ?_; rintro r w12 ⟨q2, PA, Pc, hq2, rfl, hoq2, hiq2, hb12⟩; have l12 := later hb12)
  have hqs2 : ∀ u [Later w12 u], SumsAt u PA q2 := fun u i => (hiq2.below i.below).sums ((hoq2.below i.below).at_ SumE.enc).2.2
  clear hoq2 hiq2 HS2
  refine wp_name ?_
  intro w13 hw13
  obtain ⟨B9, l13⟩ := box1 hw13
  clear hw13
  have l1313 : Later w13 w13 := Later.refl
  have hqq : q.length = q2.length := (sumL_len hq.out).trans (sumL_len hq2.out).symm
  have hqle : q2.length ≤ 100 := by rw [sumL_len hq2.out]; exact Nat.le_trans (filter_le es) hel
  have Hqq := hide hqq
  rw [hqq] at B7
  clear hqq
  have l133 : Later w3 w13 := ⟨below_of⟩
  have l134 : Later w4 w13 := ⟨below_of⟩
  have l1312 : Later w12 w13 := ⟨below_of⟩
  have hbw : Below w.heap.size w w13 := below_of
  have Q1 : ∀ u [Later w13 u], SumsAt u QA q := fun u i => by haveI := l133.trans i; exact hqs u
  have Q2 : ∀ u [Later w13 u], SumsAt u PA q2 := fun u i => by haveI := l1312.trans i; exact hqs2 u
  have B7' : Boxed w13 w3.heap.size #[.int .i64 ep, .slice QA q2.length Qc] 34 := boxed_later B7
  clear hqs hqs2 B7 B11 l11 l8 l5 l4 l0 B0 l12 l13 hb12 hb3 hb2 l2 l3
  have lw : Later w w13 := ⟨hbw⟩
  go_wp2_with fail
  go_loopw [56] (fun iv wr => ∃ k : Nat, k ≤ q2.length ∧ iv = .int .i64 k ∧ Below w13.heap.size w13 wr) (fun iv _ => q2.length - (intOf iv).toNat)
  case atStart => exact ⟨0, by omega, rfl, Below.refl _ _⟩
  case round =>
    obtain ⟨k, hk, rfl, hbr⟩ := hrel
    have lr := later hbr
    by_cases hlt : k < q2.length
    · have hki : (k : Int) < (q2.length : Int) := by omega
      obtain ⟨b1, o1, x, rfl, hx, C1, -, hx1, hx2⟩ := (Q1 wr).get (by rw [Hqq.out]; exact hlt)
      obtain ⟨b2, o2, y, rfl, hy, C2, -, hy1, hy2⟩ := (Q2 wr).get hlt
      obtain ⟨e, he1, he2⟩ := sumL_get hq.out hq2.out hx hy
      obtain ⟨m1, m2, m3⟩ := sumOf_more (conL l) roots more ks kt e
      rw [hal.out, hbl.out] at he2
      rw [← he1, ← he2] at m1 m2 m3
      obtain ⟨xo, xn, xr, xd, xA, xc, xi⟩ := x
      obtain ⟨yo, yn, yr, yd, yA, yc, yi⟩ := y
      dsimp only [SumE.con] at m1 m2 m3 C1 C2 hx1 hx2 hy1 hy2
      have hil : xi.length ≤ 9223372036854775807 := by unfold maxLen at hx2; omega
      have hjl : yi.length ≤ 9223372036854775807 := by unfold maxLen at hy2; omega
      have M2 : ¬ xd < yd := by omega
      have M3 : ¬ (yi.length : Int) < (xi.length : Int) := by omega
      clear he1 he2 hx hy m2 m3 hx1 hx2 hy1 hy2
      go_upto_region 13 with fail
      refine wp_name ?_
      intro w14 hw14
      obtain ⟨B11, l14⟩ := box1 hw14
      clear hw14
      go_upto_region 14 with fail
      refine wp_name ?_
      intro w15 hw15
      obtain ⟨B12, l15⟩ := box1 hw15
      clear hw15
      have l1515 : Later w15 w15 := Later.refl
      cases xr
      · clear m1
        go_wp2_with fail
        go_roundw
        case rel => exact ⟨k + 1, by omega, by go_num, below_of⟩
        case measure => simp [intOf]; omega
      · obtain rfl : yr = true := m1 rfl
        clear m1
        go_wp2_with fail
        go_roundw
        case rel => exact ⟨k + 1, by omega, by go_num, below_of⟩
        case measure => simp [intOf]; omega
    · have hkk : k = q2.length := by omega
      subst hkk
      go_wp2_with (go_at_call 15; refine (awake_any _).mono ?_; rintro r w9 ⟨rfl, hb9⟩; have l9 := later hb9)
      go_ret
      exact ⟨rfl, below_of⟩
end Go.Proofs.Ytomgdkfoinojiaa
