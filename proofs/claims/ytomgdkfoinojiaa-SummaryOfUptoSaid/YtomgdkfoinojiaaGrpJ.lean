/-
  Small texts of this seat, put into one. Conditions stand in each theorem.
-/
import Derived.Test.YtomgdkfoinojiaaS32Plain
import Derived.Test.YtomgdkfoinojiaaS32Awake2
import Derived.Test.YtomgdkfoinojiaaS32Few
import Derived.Test.YtomgdkfoinojiaaS32Find
namespace Go.Proofs.Ytomgdkfoinojiaa
open Go.RowKit Go.Sort
def ltE (a b : StubE) : Bool := decide (lexN a.owner a.number b.owner b.number)
instance : Inhabited StubE := ⟨⟨0, 0, 0, 0, 0, 0, 0, false, false, false, 0, 0⟩⟩
theorem ltE_swo : SWO ltE := ⟨fun x => by simp [ltE, lexN], fun x y z => by simp only [ltE, decide_eq_true_eq]; unfold lexN; omega, fun x y z => by simp only [ltE, decide_eq_false_iff_not]; unfold lexN; omega⟩
theorem sortL_map {α β : Type} [Inhabited α] [Inhabited β] {lt : α → α → Bool} {lt' : β → β → Bool} (O : SWO lt) (O' : SWO lt') (f : α → β) (h : ∀ x y, lt' (f x) (f y) = lt x y) (l : List α) : sortL lt' (l.map f) = (sortL lt l).map f :=
  (sortL_eq O' (Srt.map f h (sortL_ok O l).1) (Stb.map f h O' (sortL_ok O l).2)).symm
theorem sumL_map (L : List NodeC) (roots : List IDE) (ks : List ScionE) (es : List StubE) : sumL L roots ks es = (sortL ltE (es.filter aliveB)).map (sumOf L roots ks) :=
  sortL_map ltE_swo ltC_swo (sumOf L roots ks) (fun _ _ => rfl) _
theorem hasB_more {L : List NodeC} {roots more : List IDE} {x : IDE} (h : hasB L roots x = true) : hasB L (roots ++ more) x = true := by
  rw [hasB_iff] at h ⊢
  exact Reach.mono (fun y hy => List.mem_append_left _ hy) h
theorem leastD_app (l m : List Int) : leastD (l ++ m) ≤ leastD l := by
  induction m generalizing l with
  | nil => simp
  | cons d m ih =>
    rw [show l ++ d :: m = (l ++ [d]) ++ m by simp]
    refine Int.le_trans (ih _) ?_
    rw [leastD_snoc]; omega
theorem farD_one (r : Bool) (l : List Int) : 1 ≤ farD r l := by
  have := leastD_range l
  unfold farD; split <;> omega
theorem farD_more (r r' : Bool) (l m : List Int) (h : r = true → r' = true) : farD r' (l ++ m) ≤ farD r l := by
  have := leastD_app l m
  have h2 := farD_one r l
  unfold farD at *
  cases r' <;> cases r <;> simp_all <;> omega
/-- One summary, with more. -/
theorem sumOf_more (L : List NodeC) (roots more : List IDE) (ks kt : List ScionE) (e : StubE) :
    ((sumOf L roots ks e).rooted = true → (sumOf L (roots ++ more) (ks ++ kt) e).rooted = true) ∧ (sumOf L (roots ++ more) (ks ++ kt) e).distance ≤ (sumOf L roots ks e).distance ∧ (sumOf L roots ks e).inset.length ≤ (sumOf L (roots ++ more) (ks ++ kt) e).inset.length := by
  refine ⟨fun h => hasB_more h, ?_, ?_⟩
  · simp only [sumOf, insL, List.filter_append, List.map_append]
    exact farD_more _ _ _ _ (fun h => hasB_more h)
  · have O : SWO ltIn := cmpIn_swo
    simp only [sumOf, insL, List.filter_append, List.map_append]
    rw [sortL_len O, sortL_len O, List.length_append]
    omega
/-- A scion that lies one farther. -/
def upK (k : ScionE) : ScionE := { k with distance := k.distance + 1 }
theorem leastD_up (l : List Int) (h : ∀ d ∈ l, 0 ≤ d ∧ d ≤ 1048576) : min (leastD (l.map (· + 1)) + 1) 1048576 = min (min (leastD l + 1) 1048576 + 1) 1048576 := by
  have key : ∀ (l : List Int) (m m' : Int), (∀ d ∈ l, 0 ≤ d ∧ d ≤ 1048576) → 0 ≤ m → m ≤ 1048576 → m' = min (m + 1) 1048576 → (l.map (· + 1)).foldl (fun m d => min m (max d 0)) m' = min (l.foldl (fun m d => min m (max d 0)) m + 1) 1048576 := by
    intro l
    induction l with
    | nil => intro m m' _ _ _ h; simpa using h
    | cons d l ih =>
      intro m m' hl h0 h1 h2
      have hd := hl d List.mem_cons_self
      rw [List.map_cons, List.foldl_cons, List.foldl_cons]
      exact ih _ _ (fun x hx => hl x (List.mem_cons_of_mem _ hx)) (by omega) (by omega) (by omega)
  have := key l 1048576 1048576 h (by omega) (by omega) (by omega)
  unfold leastD
  rw [this]
theorem insL_up (L : List NodeC) (ks : List ScionE) (x : IDE) : insL L (ks.map upK) x = (insL L ks x).map upK := by
  unfold insL
  rw [List.filter_map]
  rfl
/-- One summary, the scions one farther. -/
theorem sumOf_up (L : List NodeC) (roots : List IDE) (ks : List ScionE) (e : StubE) (h : ∀ k ∈ ks, 0 ≤ k.distance ∧ k.distance ≤ 1048576) :
    sumOf L roots (ks.map upK) e = { sumOf L roots ks e with distance := if (sumOf L roots ks e).rooted then (sumOf L roots ks e).distance else min ((sumOf L roots ks e).distance + 1) 1048576 } := by
  simp only [sumOf, insL_up, List.map_map]
  have e1 : toIn ∘ upK = toIn := rfl
  have e2 : ScionE.distance ∘ upK = (· + 1) ∘ ScionE.distance := rfl
  rw [e1, e2, ← List.map_map]
  congr 1
  by_cases hB : hasB L roots (idS e) = true
  · simp only [hB, if_true, farD]
  · simp only [hB, farD, Bool.false_eq_true, if_false]
    refine leastD_up _ fun d hd => ?_
    obtain ⟨k, hk, rfl⟩ := List.mem_map.1 hd
    exact h k (List.mem_filter.1 hk).1
end Go.Proofs.Ytomgdkfoinojiaa

namespace Go.Proofs.Ytomgdkfoinojiaa
open Go.RowKit
attribute [local simp] heap_drew
theorem idT32 : ElemT Try.prog 25 45 2 16 := ElemT.mk' (z := .agg #[.int .i64 0, .int .i64 0]) Try.underlying25 (by kernel_rfl) rfl
theorem scT32 : ElemT Try.prog 26 48 12 80 := ElemT.mk' (z := .agg #[.int .i64 0, .int .u64 0, .int .i64 0, .int .i64 0, .int .i64 0, .int .i64 0, .int .i64 0, .bool false, .bool false, .bool false, .int .i64 0, .int .i64 0]) Try.underlying26 (by kernel_rfl) rfl
theorem sumL_get {L : List NodeC} {roots roots2 : List IDE} {ks ks2 : List ScionE} {es : List StubE} {q q2 : List SumE} {k : Nat} {x y : SumE} (h : q.map SumE.con = sumL L roots ks es) (h2 : q2.map SumE.con = sumL L roots2 ks2 es) (hx : q[k]? = some x) (hy : q2[k]? = some y) :
    ∃ e, x.con = sumOf L roots ks e ∧ y.con = sumOf L roots2 ks2 e := by
  rw [sumL_map] at h h2
  have a := congrArg (fun l => l[k]?) h
  have b := congrArg (fun l => l[k]?) h2
  simp only [List.getElem?_map, hx, hy, Option.map_some] at a b
  obtain ⟨e, he, ha⟩ := Option.map_eq_some_iff.1 a.symm
  refine ⟨e, ha.symm, ?_⟩
  rw [he] at b
  simpa using b
theorem sumL_len {L : List NodeC} {roots : List IDE} {ks : List ScionE} {es : List StubE} {q : List SumE} (h : q.map SumE.con = sumL L roots ks es) : q.length = (es.filter aliveB).length := by
  rw [sumL_map] at h
  have a := congrArg List.length h
  rw [List.length_map, List.length_map, sortL_len ltE_swo] at a
  exact a
theorem filter_le (es : List StubE) : (es.filter aliveB).length ≤ es.length := List.length_filter_le _ _
/-- The bounds that few gives. -/
theorem few32_bounds {L : List NodeE} {n : Nat} (h : n + L.length + fieldsN (conL L) ≤ 100) : L.length ≤ 100 ∧ ∀ x ∈ L, x.fields.length ≤ 10000 := by
  refine ⟨by omega, fun x hx => ?_⟩
  have : (x.con).fields.length ≤ fieldsN (conL L) := fieldsN_le (List.mem_map_of_mem hx)
  have h2 : x.con.fields.length = x.fields.length := rfl
  omega
set_option maxRecDepth 100000 in
set_option maxHeartbeats 4000000 in
theorem monotone_any (A : Option Addr) (c : Nat) (l : List NodeE) (RA : Option Addr) (rc : Nat) (roots : List IDE) (KA : Option Addr) (kc : Nat) (ks : List ScionE) (EA : Option Addr) (ec : Nat) (es : List StubE) (ep : Int) (MA : Option Addr) (mc : Nat) (more : List IDE) (TA : Option Addr) (tc : Nat) (kt : List ScionE) (w : World)
    (H : NodesAt w A l) (hR : SlAt IDE.cells 2 w RA roots) (hK : SlAt ScionE.cells 12 w KA ks) (hE : SlAt StubE.cells 12 w EA es) (hM : SlAt IDE.cells 2 w MA more) (hT : SlAt ScionE.cells 12 w TA kt) (hsum : roots.length + ks.length + es.length + l.length + fieldsN (conL l) ≤ 1000000000000000) (hml : more.length ≤ 1000000000000000) (htl : kt.length ≤ 1000000000000000) :
    Calls Try.prog 4 #[.agg #[.slice A l.length c, .slice RA roots.length rc, .slice KA ks.length kc, .slice EA es.length ec, .int .i64 ep], .slice MA more.length mc, .slice TA kt.length tc] w fun r w' => r = .returned (.bool true) ∧ Below w.heap.size w w' := by
  have HL := H.later
  have HR : ∀ u [Later w u], SlAt IDE.cells 2 u RA roots := fun u i => hR.below i.below
  have HM : ∀ u [Later w u], SlAt IDE.cells 2 u MA more := fun u i => hM.below i.below
  have HK : ∀ u [Later w u], SlAt ScionE.cells 12 u KA ks := fun u i => hK.below i.below
  have HT : ∀ u [Later w u], SlAt ScionE.cells 12 u TA kt := fun u i => hT.below i.below
  have HE : ∀ u [Later w u], SlAt StubE.cells 12 u EA es := fun u i => hE.below i.below
  have HF : ∀ u [Later w u], Calls Try.prog 11 #[.agg #[.slice A l.length c, .slice RA roots.length rc, .slice KA ks.length kc, .slice EA es.length ec, .int .i64 ep]] u fun r w' => r = .returned (.bool (decide (roots.length + ks.length + es.length + l.length + fieldsN (conL l) ≤ 100))) ∧ Below u.heap.size u w' := fun u i => few_any A c l RA KA EA _ rc _ kc _ ec ep u (HL u) hsum
  go_enter Try.func4, Try.ntmps4
  go_upto_region 1 with fail
  refine wp_name ?_
  intro w0 hw0
  obtain ⟨B0, l0⟩ := box1 hw0
  clear hw0
  by_cases hN : roots.length + ks.length + es.length + l.length + fieldsN (conL l) ≤ 100
  rotate_left
  · rw [decide_eq_false hN] at HF
    clear hN
    go_wp2_with (first | (go_at_call 11; refine (HF _).mono ?_; rintro r w2 ⟨rfl, hb2⟩; have l2 := later hb2) | (go_at_call 15; refine (awake_any _).mono ?_; rintro r w9 ⟨rfl, hb9⟩; have l9 := later hb9))
    go_ret
    exact ⟨rfl, below_of⟩
  rw [decide_eq_true hN] at HF
  by_cases hm : (10 : Int) < (more.length : Int)
  · clear hN
    go_wp2_with (first | (go_at_call 11; refine (HF _).mono ?_; rintro r w2 ⟨rfl, hb2⟩; have l2 := later hb2) | (go_at_call 15; refine (awake_any _).mono ?_; rintro r w9 ⟨rfl, hb9⟩; have l9 := later hb9))
    go_ret
    exact ⟨rfl, below_of⟩
  by_cases ht : (10 : Int) < (kt.length : Int)
  · clear hN
    go_wp2_with (first | (go_at_call 11; refine (HF _).mono ?_; rintro r w2 ⟨rfl, hb2⟩; have l2 := later hb2) | (go_at_call 15; refine (awake_any _).mono ?_; rintro r w9 ⟨rfl, hb9⟩; have l9 := later hb9))
    go_ret
    exact ⟨rfl, below_of⟩
  obtain ⟨hl1, hf1⟩ := few32_bounds hN
  have hrl : roots.length ≤ 100 := by omega
  have hkl : ks.length ≤ 100 := by omega
  have hel : es.length ≤ 100 := by omega
  have hml2 : more.length ≤ 10 := by omega
  have htl2 : kt.length ≤ 10 := by omega
  clear hN hsum hml htl
  have HS : ∀ u [Later w u], Calls Try.prog 13 #[.agg #[.slice A l.length c, .slice RA roots.length rc, .slice KA ks.length kc, .slice EA es.length ec, .int .i64 ep]] u (SumPost ep (sumL (conL l) roots ks es) u) := fun u i => of_any A c l RA rc roots KA kc ks EA ec es ep u (HL u) (HR u) (HK u) (HE u) (by omega) hf1 (by omega) (by omega) (by omega)
  go_upto_region 4 with (first | (go_at_call 11; refine (HF _).mono ?_; rintro r w2 ⟨rfl, hb2⟩; have l2 := later hb2) | (go_at_call 13; refine (HS _).mono ?_; rintro r w3 ⟨q, QA, Qc, hq, rfl, hoq, hiq, hb3⟩; have l3 := later hb3))
  have hqs : ∀ u [Later w3 u], SumsAt u QA q := fun u i => (hiq.below i.below).sums ((hoq.below i.below).at_ SumE.enc).2.2
  clear hoq hiq HF
  refine wp_name ?_
  intro w4 hw4
  obtain ⟨B7, l4⟩ := box1 hw4
  clear hw4
  go_upto_region 5 with fail
  refine wp_name ?_
  intro w5 hw5
  obtain ⟨B8, l5⟩ := box1 hw5
  clear hw5
  have l55 : Later w5 w5 := Later.refl
  go_upto_region 6 with (at_builtin; first
    | (refine wpList_appE rfl (.tmp 30) (.tmp 32) rfl IDE.enc idT32 _ _ roots rfl rfl (HR _) (by omega) (by unfold maxLen; omega) ?_; intro A6 c6 w6 ho6 hm6 hb6; have l6 := later hb6; have l66 : Later w6 w6 := Later.refl)
    | (refine wpList_app rfl (.tmp 33) (.tmp 34) rfl IDE.enc idT32 ho6 MA mc more (HM _) rfl rfl (by omega) (by unfold maxLen; omega) hb6.size ?_; intro v7 w7 ho7 hg7 hat7; obtain ⟨al, hal0⟩ : ∃ al, al = roots ++ more := ⟨_, rfl⟩; rw [← hal0] at ho7; have hal := hide hal0; clear hal0; obtain ⟨A7, c7, rfl, -, -, -⟩ := ho7.slAt IDE.enc; have hb57 : Below w5.heap.size w5 w7 := ho6.belowGrown hb6 hg7 (Nat.le_refl _) hb6.size; have l7 := later hb57; have l77 : Later w7 w7 := Later.refl))
  refine wp_name ?_
  intro w8 hw8
  have hz4 : w4.heap.size < w5.heap.size := boxed_lt B8
  have B8' := boxed_set B8 hw8
  have l8 := later_put (W := w4) (Nat.le_refl _) hw8
  have ho8 : Own IDE.cells 2 45 w5.heap.size w8 (.slice A7 al.length c7) al := hw8 ▸ ho7.set hz4 _
  simp at B8'
  have hall : al.length ≤ 110 := by rw [hal.out, List.length_append]; omega
  clear B8 hw8 hat7 hg7 ho7 hb57 l7 l77 hb6 ho6 l6 l66 l55 hm6
  have l88 : Later w8 w8 := Later.refl
  have l48 : Later w4 w8 := l8 w4
  go_upto_region 7 with (at_builtin; first
    | (refine wpList_appE rfl (.tmp 37) (.tmp 39) rfl ScionE.enc scT32 _ _ ks rfl rfl (HK _) (by omega) (by unfold maxLen; omega) ?_; intro A9 c9 w9 ho9 hm9 hb9; have l9 := later hb9; have l99 : Later w9 w9 := Later.refl)
    | (refine wpList_app rfl (.tmp 40) (.tmp 41) rfl ScionE.enc scT32 ho9 TA tc kt (HT _) rfl rfl (by omega) (by unfold maxLen; omega) hb9.size ?_; intro v7 w10 ho10 hg10 hat10; obtain ⟨bl, hbl0⟩ : ∃ bl, bl = ks ++ kt := ⟨_, rfl⟩; rw [← hbl0] at ho10; have hbl := hide hbl0; clear hbl0; obtain ⟨A10, c10, rfl, -, -, -⟩ := ho10.slAt ScionE.enc; have hb810 : Below w8.heap.size w8 w10 := ho9.belowGrown hb9 hg10 (Nat.le_refl _) hb9.size; have l10 := later hb810; have l1010 : Later w10 w10 := Later.refl))
  refine wp_name ?_
  intro w11 hw11
  have hz8 : w4.heap.size < w8.heap.size := boxed_lt B8'
  have B11 := boxed_set B8' hw11
  have l11 := later_put (W := w4) (Nat.le_refl _) hw11
  have ho11 : Own ScionE.cells 12 48 w8.heap.size w11 (.slice A10 bl.length c10) bl := hw11 ▸ ho10.set hz8 _
  have ho12 : Own IDE.cells 2 45 w5.heap.size w11 (.slice A7 al.length c7) al := hw11 ▸ (ho8.below hb810).set hz4 _
  simp at B11
  have hbll : bl.length ≤ 110 := by rw [hbl.out, List.length_append]; omega
  clear B8' hw11 hat10 hg10 ho10 hb810 l10 l1010 hb9 ho9 l9 l99 l88 hm9 ho8 l48
  have HA : ∀ u [Later w11 u], SlAt IDE.cells 2 u A7 al := fun u i => ((ho12.below i.below).at_ IDE.enc).2.2
  have HB : ∀ u [Later w11 u], SlAt ScionE.cells 12 u A10 bl := fun u i => ((ho11.below i.below).at_ ScionE.enc).2.2
  have l11w : Later w w11 := ⟨below_of⟩
  have l113 : Later w3 w11 := ⟨below_of⟩
  have HS2 : ∀ u [Later w11 u], Calls Try.prog 13 #[.agg #[.slice A l.length c, .slice A7 al.length c7, .slice A10 bl.length c10, .slice EA es.length ec, .int .i64 ep]] u (SumPost ep (sumL (conL l) al bl es) u) := fun u i => by
    haveI := l11w.trans i
    exact of_any A c l A7 c7 al A10 c10 bl EA ec es ep u (HL u) (HA u) (HB u) (HE u) (by omega) hf1 (by omega) (by omega) (by omega)
  have l1111 : Later w11 w11 := Later.refl
  clear HS
  go_upto_region 8 with (go_at_call 13; refine (HS2 _).mono ?_; rintro r w12 ⟨q2, PA, Pc, hq2, rfl, hoq2, hiq2, hb12⟩; have l12 := later hb12)
  have hqs2 : ∀ u [Later w12 u], SumsAt u PA q2 := fun u i => (hiq2.below i.below).sums ((hoq2.below i.below).at_ SumE.enc).2.2
  clear hoq2 hiq2 HS2
  refine wp_name ?_
  intro w13 hw13
  obtain ⟨B9, l13⟩ := box1 hw13
  clear hw13
  have l1313 : Later w13 w13 := Later.refl
  have hqq : q.length = q2.length := (sumL_len hq.out).trans (sumL_len hq2.out).symm
  have hqle : q2.length ≤ 100 := by rw [sumL_len hq2.out]; exact Nat.le_trans (filter_le es) hel
  have Hqq := hide hqq
  rw [hqq] at B7
  clear hqq
  have l133 : Later w3 w13 := ⟨below_of⟩
  have l134 : Later w4 w13 := ⟨below_of⟩
  have l1312 : Later w12 w13 := ⟨below_of⟩
  have hbw : Below w.heap.size w w13 := below_of
  have Q1 : ∀ u [Later w13 u], SumsAt u QA q := fun u i => by haveI := l133.trans i; exact hqs u
  have Q2 : ∀ u [Later w13 u], SumsAt u PA q2 := fun u i => by haveI := l1312.trans i; exact hqs2 u
  have B7' : Boxed w13 w3.heap.size #[.int .i64 ep, .slice QA q2.length Qc] 34 := boxed_later B7
  clear hqs hqs2 B7 B11 l11 l8 l5 l4 l0 B0 l12 l13 hb12 hb3 hb2 l2 l3
  have lw : Later w w13 := ⟨hbw⟩
  go_wp2_with fail
  go_loopw [56] (fun iv wr => ∃ k : Nat, k ≤ q2.length ∧ iv = .int .i64 k ∧ Below w13.heap.size w13 wr) (fun iv _ => q2.length - (intOf iv).toNat)
  case atStart => exact ⟨0, by omega, rfl, Below.refl _ _⟩
  case round =>
    obtain ⟨k, hk, rfl, hbr⟩ := hrel
    have lr := later hbr
    by_cases hlt : k < q2.length
    · have hki : (k : Int) < (q2.length : Int) := by omega
      obtain ⟨b1, o1, x, rfl, hx, C1, -, hx1, hx2⟩ := (Q1 wr).get (by rw [Hqq.out]; exact hlt)
      obtain ⟨b2, o2, y, rfl, hy, C2, -, hy1, hy2⟩ := (Q2 wr).get hlt
      obtain ⟨e, he1, he2⟩ := sumL_get hq.out hq2.out hx hy
      obtain ⟨m1, m2, m3⟩ := sumOf_more (conL l) roots more ks kt e
      rw [hal.out, hbl.out] at he2
      rw [← he1, ← he2] at m1 m2 m3
      obtain ⟨xo, xn, xr, xd, xA, xc, xi⟩ := x
      obtain ⟨yo, yn, yr, yd, yA, yc, yi⟩ := y
      dsimp only [SumE.con] at m1 m2 m3 C1 C2 hx1 hx2 hy1 hy2
      have hil : xi.length ≤ 9223372036854775807 := by unfold maxLen at hx2; omega
      have hjl : yi.length ≤ 9223372036854775807 := by unfold maxLen at hy2; omega
      have M2 : ¬ xd < yd := by omega
      have M3 : ¬ (yi.length : Int) < (xi.length : Int) := by omega
      clear he1 he2 hx hy m2 m3 hx1 hx2 hy1 hy2
      go_upto_region 13 with fail
      refine wp_name ?_
      intro w14 hw14
      obtain ⟨B11, l14⟩ := box1 hw14
      clear hw14
      go_upto_region 14 with fail
      refine wp_name ?_
      intro w15 hw15
      obtain ⟨B12, l15⟩ := box1 hw15
      clear hw15
      have l1515 : Later w15 w15 := Later.refl
      cases xr
      · clear m1
        go_wp2_with fail
        go_roundw
        case rel => exact ⟨k + 1, by omega, by go_num, below_of⟩
        case measure => simp [intOf]; omega
      · obtain rfl : yr = true := m1 rfl
        clear m1
        go_wp2_with fail
        go_roundw
        case rel => exact ⟨k + 1, by omega, by go_num, below_of⟩
        case measure => simp [intOf]; omega
    · have hkk : k = q2.length := by omega
      subst hkk
      go_wp2_with (go_at_call 15; refine (awake_any _).mono ?_; rintro r w9 ⟨rfl, hb9⟩; have l9 := later hb9)
      go_ret
      exact ⟨rfl, below_of⟩
end Go.Proofs.Ytomgdkfoinojiaa

namespace Go.Proofs.Ytomgdkfoinojiaa
open Go.RowKit
/-- No two of the first k stubs agree in owner and number with another one ahead of them. -/
def keyE (e f : StubE) : Bool := e.owner == f.owner && e.number == f.number
def DistTo (es : List StubE) (k : Nat) : Prop := ∀ i j e f, j < i → i < k → es[i]? = some e → es[j]? = some f → keyE e f = false
theorem DistTo.zero {es : List StubE} : DistTo es 0 := fun i j e f _ h => absurd h (by omega)
theorem DistTo.succ {es : List StubE} {k : Nat} {e : StubE} (h : DistTo es k) (he : es[k]? = some e) (hno : NoneTo (keyE e) es k) : DistTo es (k + 1) := by
  intro i j a b hji hi ha hb
  rcases Nat.lt_or_ge i k with h1 | h1
  · exact h i j a b hji h1 ha hb
  · have : i = k := by omega
    subst this
    rw [he] at ha; injection ha with ha; subst ha
    exact hno j b hji hb
theorem keyE_comm (e f : StubE) : keyE e f = keyE f e := by
  have h : ∀ a b : Int, (a == b) = (b == a) := fun a b => by rw [Bool.eq_iff_iff, beq_iff_eq, beq_iff_eq]; exact eq_comm
  unfold keyE
  rw [h, h e.number]
theorem DistTo.same {es : List StubE} (h : DistTo es es.length) {e f : StubE} (he : e ∈ es) (hf : f ∈ es) (hk : keyE e f = true) : e = f := by
  obtain ⟨i, hi⟩ := List.getElem?_of_mem he
  obtain ⟨j, hj⟩ := List.getElem?_of_mem hf
  rcases Nat.lt_trichotomy i j with h1 | h1 | h1
  · have := h j i f e h1 (List.getElem?_eq_some_iff.1 hj).1 hj hi
    rw [keyE_comm] at this
    rw [this] at hk; cases hk
  · subst h1; rw [hi] at hj; exact Option.some.inj hj
  · have := h i j e f h1 (List.getElem?_eq_some_iff.1 hi).1 hi hj
    rw [this] at hk; cases hk
theorem foundC_sum {L : List NodeC} {roots : List IDE} {ks : List ScionE} {es : List StubE} {q : List SumE} (h : q.map SumE.con = sumL L roots ks es) (o n : Int) : foundC o n q = ((sortL ltE (es.filter aliveB)).find? fun e => e.owner == o && e.number == n).map (sumOf L roots ks) := by
  have e1 : foundC o n q = (q.map SumE.con).find? fun x : SumC => x.owner == o && x.number == n := by
    unfold foundC
    rw [List.find?_map]
    rfl
  rw [e1, h, sumL_map, List.find?_map]
  rfl
theorem foundC_alive {L : List NodeC} {roots : List IDE} {ks : List ScionE} {es : List StubE} {q : List SumE} (h : q.map SumE.con = sumL L roots ks es) (hd : DistTo es es.length) {e : StubE} (he : e ∈ es) :
    foundC e.owner e.number q = if aliveB e then some (sumOf L roots ks e) else none := by
  rw [foundC_sum h]
  have hm : ∀ f, f ∈ sortL ltE (es.filter aliveB) ↔ f ∈ es ∧ aliveB f = true := fun f => by rw [sortL_mem ltE_swo, List.mem_filter]
  cases hf : (sortL ltE (es.filter aliveB)).find? fun f => f.owner == e.owner && f.number == e.number with
  | none =>
    split
    · rename_i ha
      rw [List.find?_eq_none] at hf
      have := hf e ((hm e).2 ⟨he, ha⟩)
      simp at this
    · rfl
  | some f =>
    have h1 := List.find?_some hf
    have h2 := (hm f).1 (List.mem_of_find?_eq_some hf)
    obtain rfl := hd.same h2.1 he h1
    rw [if_pos h2.2]
    rfl
theorem sumOf_inset_mem {L : List NodeC} {roots : List IDE} {ks : List ScionE} {e : StubE} {k : ScionE} (hk : k ∈ ks) (hi : insB L (idS e) k = true) : toIn k ∈ (sumOf L roots ks e).inset := by
  have O : Go.Sort.SWO ltIn := cmpIn_swo
  show toIn k ∈ sortL ltIn ((insL L ks (idS e)).map toIn)
  rw [sortL_mem O]
  exact List.mem_map_of_mem (List.mem_filter.2 ⟨hk, hi⟩)
theorem sumOf_inset_len {L : List NodeC} {roots : List IDE} {ks : List ScionE} {e : StubE} : (sumOf L roots ks e).inset.length = (insL L ks (idS e)).length := by
  have O : Go.Sort.SWO ltIn := cmpIn_swo
  show (sortL ltIn ((insL L ks (idS e)).map toIn)).length = _
  rw [sortL_len O, List.length_map]
theorem sumL_ins6 {L : List NodeC} {roots : List IDE} {ks : List ScionE} {es : List StubE} {q : List SumE} {k : Nat} {x : SumE} (h : q.map SumE.con = sumL L roots ks es) (hx : q[k]? = some x) (hk : ks.length ≤ 100) : x.inset.length ≤ 1000000000 := by
  obtain ⟨e, he, _⟩ := sumL_get h h hx hx
  have h2 : x.inset = x.con.inset := rfl
  rw [h2, he, sumOf_inset_len]
  have : (insL L ks (idS e)).length ≤ ks.length := List.length_filter_le _ _
  omega
theorem insL_take6 {L : List NodeC} {ks : List ScionE} {x : IDE} {k : Nat} {s : ScionE} (h : ks[k]? = some s) : (insL L (ks.take (k + 1)) x).length = (insL L (ks.take k) x).length + if insB L x s then 1 else 0 := by
  unfold insL
  rw [filter_take h, List.length_append]
  split <;> rfl
theorem insL_len6 {L : List NodeC} {ks : List ScionE} {x : IDE} {k : Nat} : (insL L (ks.take k) x).length ≤ k := Nat.le_trans (List.length_filter_le _ _) (by rw [List.length_take]; omega)
/-- Among the first m. -/
def anyTo (y : InsetE) (l : List InsetE) (m : Nat) : Bool := (l.take m).any fun z => z.beq y
theorem anyTo_succ {y z : InsetE} {l : List InsetE} {m : Nat} (h : l[m]? = some z) : anyTo y l (m + 1) = (anyTo y l m || z.beq y) := by
  unfold anyTo
  rw [take_snoc_get h, List.any_append]
  simp
theorem anyTo_all {y : InsetE} {l : List InsetE} (h : y ∈ l) : anyTo y l l.length = true := by
  unfold anyTo
  rw [List.take_length, List.any_eq_true]
  exact ⟨y, h, InsetE.beq_iff.2 rfl⟩
end Go.Proofs.Ytomgdkfoinojiaa
