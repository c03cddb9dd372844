/-
  Contracts of the functions of this seat that each theorem names: what a call returns, and that it writes nothing that was there before. The conditions stand in each theorem.
-/
import Derived.Test.YtomgdkfoinojiaaS32Mono
namespace Go.Proofs.Ytomgdkfoinojiaa
open Go.RowKit
attribute [local simp] heap_drew
theorem ne_new {w : World} {g : Nat} {x : Obj} (h : w.heap[g]? = some x) : w.heap.size ≠ g := by
  have h2 := blk_lt h
  omega
/-- A list of summaries that the call made itself, with their insets. -/
def QOwn (B : Nat) (w : World) (A : Option Addr) (c : Nat) (q : List SumE) : Prop := Own SumE.cells 5 41 B w (.slice A q.length c) q ∧ InsOwn B w q
theorem QOwn.mk {B B' : Nat} {w : World} {A : Option Addr} {c : Nat} {q : List SumE} (hB : B ≤ B') (h : Own SumE.cells 5 41 B' w (.slice A q.length c) q) (hi : InsOwn B' w q) : QOwn B w A c q := ⟨h.mono hB, fun n hn => (hi n hn).mono hB⟩
theorem QOwn.below {B : Nat} {w w' : World} {A : Option Addr} {c : Nat} {q : List SumE} (h : QOwn B w A c q) (hb : Below w.heap.size w w') : QOwn B w' A c q := ⟨h.1.below hb, h.2.below hb⟩
theorem QOwn.sums {B : Nat} {w : World} {A : Option Addr} {c : Nat} {q : List SumE} (h : QOwn B w A c q) : SumsAt w A q := h.2.sums (h.1.at_ SumE.enc).2.2
theorem QOwn.set {B : Nat} {w : World} {A : Option Addr} {c : Nat} {q : List SumE} (h : QOwn B w A c q) {g : Nat} {cs : Array Value} (hg : w.heap[g]? = some (.cells cs 34 (0, 0))) (i : Nat) (v : Value) : QOwn B (w.setCell ⟨g, i, none⟩ v) A c q :=
  ⟨h.1.far (p := ⟨g, i, none⟩) (own_off h.1 hg (by decide)) v, fun n hn => (h.2 n hn).far (p := ⟨g, i, none⟩) (own_off (h.2 n hn) hg (by decide)) v⟩
theorem set2_named {P : World → Prop} {w : World} {g : Nat} {a0 a1 v0 v1 : Value} (h : w.heap[g]? = some (.cells #[a0, a1] 34 (0, 0)))
    (hk : ∀ wn : World, wn.heap[g]? = some (.cells #[v0, v1] 34 (0, 0)) → (∀ k, k ≠ g → wn.heap[k]? = w.heap[k]?) → (∀ B w0, Below B w0 w → B ≤ g → Below B w0 wn) → (∀ B A c q, QOwn B w A c q → QOwn B wn A c q) → P wn) :
    P ((w.setCell ⟨g, 0, none⟩ v0).setCell ⟨g, 1, none⟩ v1) :=
  hk _ ((blk_set (blk_set h 0 v0) 1 v1).trans (by simp)) (fun k hne => (blk_far (p := ⟨g, 1, none⟩) hne v1).trans (blk_far (p := ⟨g, 0, none⟩) hne v0))
    (fun B w0 hb hg => (hb.setCell (p := ⟨g, 0, none⟩) hg v0).setCell (p := ⟨g, 1, none⟩) hg v1) (fun B A c q ho => (ho.set h 0 v0).set (blk_set h 0 v0) 1 v1)
theorem upK_cells (x : ScionE) : (upK x).cells = x.cells.set 6 (.int .i64 (x.distance + 1)) := rfl
theorem sumL_ins {L : List NodeC} {roots : List IDE} {ks : List ScionE} {es : List StubE} {q : List SumE} {k : Nat} {x : SumE} (h : q.map SumE.con = sumL L roots ks es) (hx : q[k]? = some x) (hk : ks.length ≤ 100) : x.inset.length ≤ 1000000000 := by
  obtain ⟨e, he, _⟩ := sumL_get h h hx hx
  have : x.con.inset.length ≤ ks.length := by
    rw [he]
    simp only [sumOf]
    have O : Go.Sort.SWO ltIn := cmpIn_swo
    rw [sortL_len O, List.length_map]
    unfold insL
    exact List.length_filter_le _ _
  have h2 : x.inset = x.con.inset := rfl
  rw [h2]; omega
theorem farD_range (r : Bool) (l : List Int) : 0 ≤ farD r l ∧ farD r l ≤ 1048576 := by
  have h := leastD_range l
  have h2 := farD_one r l
  unfold farD at *
  cases r <;> simp_all <;> omega
theorem grown_pair {L : List NodeC} {roots : List IDE} {ks up : List ScionE} {es : List StubE} {q p : List SumE} {k : Nat} {x y : SumE} (hq : q.map SumE.con = sumL L roots ks es) (hp : p.map SumE.con = sumL L roots up es) (hup : up = ks.map upK) (hall : ∀ x ∈ ks, 0 ≤ x.distance ∧ x.distance ≤ 1048576) (hx : q[k]? = some x) (hy : p[k]? = some y) :
    y.con = { x.con with distance := if x.rooted then x.distance else min (x.distance + 1) 1048576 } ∧ 0 ≤ x.distance ∧ x.distance ≤ 1048576 := by
  obtain ⟨e, h1, h2⟩ := sumL_get hq hp hx hy
  rw [hup, sumOf_up L roots ks e hall, ← h1] at h2
  refine ⟨h2, ?_⟩
  have h3 : x.distance = (sumOf L roots ks e).distance := congrArg SumC.distance h1
  rw [h3]
  exact farD_range _ _
set_option maxRecDepth 100000 in
set_option maxHeartbeats 16000000 in
theorem grows_any (A : Option Addr) (c : Nat) (l : List NodeE) (RA : Option Addr) (rc : Nat) (roots : List IDE) (KA : Option Addr) (kc : Nat) (ks : List ScionE) (EA : Option Addr) (ec : Nat) (es : List StubE) (ep : Int) (w : World)
    (H : NodesAt w A l) (hR : SlAt IDE.cells 2 w RA roots) (hK : SlAt ScionE.cells 12 w KA ks) (hE : SlAt StubE.cells 12 w EA es) (hsum : roots.length + ks.length + es.length + l.length + fieldsN (conL l) ≤ 1000000000000000) :
    Calls Try.prog 5 #[.agg #[.slice A l.length c, .slice RA roots.length rc, .slice KA ks.length kc, .slice EA es.length ec, .int .i64 ep]] w fun r w' => r = .returned (.bool true) ∧ Below w.heap.size w w' := by
  have HL := H.later
  have HR : ∀ u [Later w u], SlAt IDE.cells 2 u RA roots := fun u i => hR.below i.below
  have HK : ∀ u [Later w u], SlAt ScionE.cells 12 u KA ks := fun u i => hK.below i.below
  have HE : ∀ u [Later w u], SlAt StubE.cells 12 u EA es := fun u i => hE.below i.below
  have HF : ∀ u [Later w u], Calls Try.prog 11 #[.agg #[.slice A l.length c, .slice RA roots.length rc, .slice KA ks.length kc, .slice EA es.length ec, .int .i64 ep]] u fun r w' => r = .returned (.bool (decide (roots.length + ks.length + es.length + l.length + fieldsN (conL l) ≤ 100))) ∧ Below u.heap.size u w' := fun u i => few_any A c l RA KA EA _ rc _ kc _ ec ep u (HL u) hsum
  go_enter Try.func5, Try.ntmps5
  go_upto_region 1 with fail
  refine wp_name ?_
  intro w0 hw0
  obtain ⟨B0, l0⟩ := box1 hw0
  clear hw0
  by_cases hN : roots.length + ks.length + es.length + l.length + fieldsN (conL l) ≤ 100
  rotate_left
  · rw [decide_eq_false hN] at HF
    clear hN
    go_wp2_with (first | (go_at_call 11; refine (HF _).mono ?_; rintro r w2 ⟨rfl, hb2⟩; have l2 := later hb2) | (go_at_call 15; refine (awake_any _).mono ?_; rintro r w9 ⟨rfl, hb9⟩; have l9 := later hb9))
    go_ret
    exact ⟨rfl, below_of⟩
  rw [decide_eq_true hN] at HF
  obtain ⟨hl1, hf1⟩ := few32_bounds hN
  have hrl : roots.length ≤ 100 := by omega
  have hkl : ks.length ≤ 100 := by omega
  have hel : es.length ≤ 100 := by omega
  clear hN hsum
  go_upto_region 4 with (first | (go_at_call 11; refine (HF _).mono ?_; rintro r w2 ⟨rfl, hb2⟩; have l2 := later hb2))
  clear HF
  refine wp_name ?_
  intro w3 hw3
  obtain ⟨B3, l3⟩ := box1 hw3
  clear hw3
  have l33 : Later w3 w3 := Later.refl
  go_upto_region 5 with (at_builtin; refine wpList_appE rfl (.tmp 15) (.tmp 17) rfl ScionE.enc scT32 _ _ ks rfl rfl (HK _) (by omega) (by unfold maxLen; omega) ?_; intro A5 c5 w4 ho4 hm4 hb4; have l4 := later hb4; have l44 : Later w4 w4 := Later.refl)
  refine wp_name ?_
  intro w5 hw5
  have hz3 : w2.heap.size < w3.heap.size := boxed_lt B3
  have B5 := boxed_set B3 hw5
  have l5 := later_put (W := w2) (Nat.le_refl _) hw5
  have ho5 : Own ScionE.cells 12 48 w3.heap.size w5 (.slice A5 ks.length c5) ks := hw5 ▸ ho4.set hz3 _
  have hz35 : w3.heap.size ≤ w5.heap.size := by rw [← hw5, World.size_setCell]; exact hb4.size
  simp at B5
  have l25 : Later w2 w5 := l5 w2
  have lw2 : Later w w2 := ⟨below_of⟩
  clear B3 hw5 l4 l44 hb4 ho4 hm4 l33 l3 l5
  have l55 : Later w5 w5 := Later.refl
  have hb25 := l25.below
  have B05 : Boxed w5 w.heap.size #[.slice A l.length c, .slice RA roots.length rc, .slice KA ks.length kc, .slice EA es.length ec, .int .i64 ep] 29 := by
    haveI l00 : Later w0 w0 := Later.refl
    haveI : Later w0 w5 := (l2 w0).trans l25
    exact boxed_later B0
  have hzw : w.heap.size < w3.heap.size := Nat.lt_of_lt_of_le (boxed_lt B0) (Nat.le_trans (haveI l00 : Later w0 w0 := Later.refl; (l2 w0).below.size) (Nat.le_of_lt hz3))
  have lw5 : Below w.heap.size w w5 := (lw2.trans l25).below
  clear l0 l2 l25 B0 hb2
  go_wp2_with fail
  go_loopw [23] (fun iv wr => ∃ k : Nat, k ≤ ks.length ∧ iv = .int .i64 k ∧ Hid (∀ x ∈ ks.take k, 0 ≤ x.distance ∧ x.distance ≤ 1048576) ∧ Own ScionE.cells 12 48 w3.heap.size wr (.slice A5 ks.length c5) (mapTo upK ks k) ∧ Below w3.heap.size w5 wr) (fun iv _ => ks.length - (intOf iv).toNat)
  case atStart => exact ⟨0, by omega, rfl, hide (by simp), by rw [mapTo_zero]; exact ho5, Below.refl _ _⟩
  case round =>
    obtain ⟨k, hk, rfl, hdk, hown, hbr⟩ := hrel
    have By := boxed ((hbr.block _ hz3).trans (B5 w5).1)
    have Bx := boxed ((hbr.block _ hzw).trans (B05 w5).1)
    have lwr : Later w wr := ⟨lw5.trans (hbr.mono (Nat.le_of_lt hzw))⟩
    have lrr : Later wr wr := Later.refl
    by_cases hlt : k < ks.length
    · have hki : (k : Int) < (ks.length : Int) := by omega
      obtain ⟨g, rfl⟩ := hown.isSome (by intro h; have := congrArg List.length h; rw [mapTo_length] at this; simp at this; subst this; simp at hlt)
      obtain ⟨x, hx⟩ : ∃ x, ks[k]? = some x := ⟨_, List.getElem?_eq_getElem hlt⟩
      have Hx := hide hx
      have hmx := mapTo_get (F := upK) hx
      have C5 : wr.cell? ⟨g, k * 12 + 6, none⟩ = some (.int .i64 x.distance) := hown.cell ScionE.enc hmx (j := 6) rfl
      have F5 := hown.free (k * 12 + 6)
      have Hown := hide hown
      clear hx hown
      by_cases hd : 0 ≤ x.distance ∧ x.distance ≤ 1048576
      · obtain ⟨hd0, hd1⟩ := hd
        have hd0' : ¬ x.distance < 0 := by omega
        have hd1' : ¬ 1048576 < x.distance := by omega
        have hwr : IntKind.i64.wrap (x.distance + 1) = x.distance + 1 := by rw [IntKind.wrap_i64]; omega
        have Hdk := hide (show ∀ y ∈ ks.take (k + 1), 0 ≤ y.distance ∧ y.distance ≤ 1048576 by
          rw [take_snoc_get Hx.out]
          intro y hy
          rcases List.mem_append.1 hy with hy | hy
          · exact hdk.out y hy
          · rw [List.mem_singleton] at hy; subst hy; exact ⟨hd0, hd1⟩)
        have hset := Hown.out.store ScionE.enc hmx (show 6 < 12 by decide) (upK_cells x)
        rw [mapTo_set Hx.out] at hset
        have hgb := Hown.out.base_le
        have hbs : Below w3.heap.size w5 (wr.setCell ⟨g, k * 12 + 6, none⟩ (.int .i64 (x.distance + 1))) := hbr.setCell (p := ⟨g, k * 12 + 6, none⟩) hgb _
        have Hset := hide hset
        have Hbs := hide hbs
        clear hset hbs hmx hdk hgb hd0 hd1
        go_wp2_with fail
        go_roundw
        case rel => exact ⟨k + 1, by omega, by go_num, Hdk, Hset.out, Hbs.out⟩
        case measure => simp [intOf]; omega
      · by_cases hd0 : x.distance < 0
        · clear hd hmx
          go_wp2_with (first | (go_at_call 15; refine (awake_any _).mono ?_; rintro r w9 ⟨rfl, hb9⟩; have l9 := later hb9))
          go_ret
          exact ⟨rfl, below_of⟩
        · have hd1 : 1048576 < x.distance := by omega
          clear hd hmx
          go_wp2_with (first | (go_at_call 15; refine (awake_any _).mono ?_; rintro r w9 ⟨rfl, hb9⟩; have l9 := later hb9))
          go_ret
          exact ⟨rfl, below_of⟩
    · have hkk : k = ks.length := by omega
      subst hkk
      have hall : ∀ x ∈ ks, 0 ≤ x.distance ∧ x.distance ≤ 1048576 := by have := hdk.out; rwa [List.take_length] at this
      rw [mapTo_all] at hown
      obtain ⟨up, hup⟩ : ∃ up, up = ks.map upK := ⟨_, rfl⟩
      rw [← hup] at hown
      have hul : up.length = ks.length := by rw [hup, List.length_map]
      have Hup := hide hup
      have Hall := hide hall
      have HS1 : ∀ u, Below wr.heap.size wr u → Calls Try.prog 13 #[.agg #[.slice A l.length c, .slice RA roots.length rc, .slice KA ks.length kc, .slice EA es.length ec, .int .i64 ep]] u (SumPost ep (sumL (conL l) roots ks es) u) := fun u hb => by
        haveI : Later w u := ⟨lwr.below.trans (hb.mono lwr.below.size)⟩
        exact of_any A c l RA rc roots KA kc ks EA ec es ep u (HL u) (HR u) (HK u) (HE u) (by omega) hf1 (by omega) (by omega) (by omega)
      have HS2 : ∀ u, Below wr.heap.size wr u → Calls Try.prog 13 #[.agg #[.slice A l.length c, .slice RA roots.length rc, .slice A5 ks.length c5, .slice EA es.length ec, .int .i64 ep]] u (SumPost ep (sumL (conL l) roots up es) u) := fun u hb => by
        haveI : Later w u := ⟨lwr.below.trans (hb.mono lwr.below.size)⟩
        have h := of_any A c l RA rc roots A5 c5 up EA ec es ep u (HL u) (HR u) (((hown.below hb).at_ ScionE.enc).2.2) (HE u) (by omega) hf1 (by omega) (by omega) (by omega)
        rwa [hul] at h
      unfold SumPost at HS1 HS2
      clear hup hall hul hdk hbr B5 B05 l55 hown ho5 hf1 HK HR HE HL hz35 hz3
      obtain ⟨wq, rfl⟩ : ∃ x, x = wr := ⟨_, rfl⟩
      go_upto_region 13 with fail
      go_cut [6, 7] from 48 (fun s6 s7 wy => ∃ (g6 g7 : Nat) (q p : List SumE) (QA : Option Addr) (Qc : Nat) (PA : Option Addr) (Pc : Nat), s6 = .pointer (some ⟨g6, 0, none⟩) ∧ s7 = .pointer (some ⟨g7, 0, none⟩) ∧ wy.heap[g6]? = some (.cells #[.int .i64 ep, .slice QA q.length Qc] 34 (0, 0)) ∧ wy.heap[g7]? = some (.cells #[.int .i64 ep, .slice PA p.length Pc] 34 (0, 0)) ∧ Hid (q.map SumE.con = sumL (conL l) roots ks es) ∧ Hid (p.map SumE.con = sumL (conL l) roots up es) ∧ SumsAt wy QA q ∧ SumsAt wy PA p ∧ Below wq.heap.size wq wy)
      case first =>
        refine wp_region_held_drew (S := fun w' => ∀ b [Later b wq], Later b w') (by kernel_rfl) (by intro b _; infer_instance) (fun hHeld => ?_)
        have hbz : Below wq.heap.size wq wq.drew := (Below.refl _ _).drew
        generalize hwd : wq.drew = wz at hbz hHeld ⊢
        clear hwd
        refine wpAnyH_take (i := 0) (oi := _) (v := ?_) rfl (by kernel_rfl) (by kernel_rfl) (by kernel_rfl) (fun _ _ _ h => h) (Or.inl ⟨by rfl, ?_⟩) (by assumption) ?_
        rotate_left 1
        · (intro wy hSw; (try dsimp only at hSw); go_simp; try with_reducible rfl)
        (try simp only [Act.put])
        refine wpAnyH_take (i := 2) (oi := _) (v := ?_) rfl (by kernel_rfl) (by kernel_rfl) (by kernel_rfl) (fun _ _ _ h => h) (Or.inl ⟨by rfl, ?_⟩) (by assumption) ?_
        rotate_left 1
        · (intro wy hSw; (try dsimp only at hSw); go_simp; try with_reducible rfl)
        (try simp only [Act.put])
        clear Bx By
        refine wpAnyH_ready (rs := [1, 4, 5]) (by kernel_rfl) (by simp) ?_
        refine AllReadyH.cons (o := _) rfl (fun K9 hK9 => ?_) (AllReadyH.cons (o := _) rfl (fun K9 hK9 => ?_) (AllReadyH.cons (o := _) rfl (fun K9 hK9 => ?_) (AllReadyH.nil)))
        · as_aux_lemma =>
          go_simp
          refine (HS1 _ (by first | exact hbz | exact hbz.drew)).mono ?_
          rintro r wn ⟨q, QA, Qc, hq, rfl, ho1a, ho1b, hbn0⟩
          have ho1 := QOwn.mk (Nat.le_trans hbz.size (by first | exact Nat.le_refl _ | exact hbz.drew.size)) ho1a ho1b
          clear ho1a ho1b
          (try dsimp only)
          have hbn : Below wz.heap.size wz wn := by first | exact hbn0 | exact ((Below.refl _ wz).drew).trans hbn0
          replace hbz := hbz.trans (hbn.mono hbz.size)
          (try replace ho1 := ho1.below hbn)
          (try replace ho3 := ho3.below hbn)
          (try replace h6 := blk_below h6 hbn)
          (try replace h7 := blk_below h7 hbn)
          clear hbn0 hbn
          obtain ⟨wz, rfl⟩ : ∃ x, x = wn := ⟨_, rfl⟩
          refine hK9.out _ _ (by intro b i; exact later hbz b) (fun hHn => ?_)
          clear hK9 K9 hHeld
          have hHeld := hHn
          clear hHn
          (try simp only [Act.put])
          refine wpAnyH_ready (rs := [3, 4, 5]) (by kernel_rfl) (by simp) ?_
          refine AllReadyH.cons (o := _) rfl (fun K9 hK9 => ?_) (AllReadyH.cons (o := _) rfl (fun K9 hK9 => ?_) (AllReadyH.cons (o := _) rfl (fun K9 hK9 => ?_) (AllReadyH.nil)))
          · go_simp
            refine (HS2 _ (by first | exact hbz | exact hbz.drew)).mono ?_
            rintro r wn ⟨p, PA, Pc, hp, rfl, ho3a, ho3b, hbn0⟩
            have ho3 := QOwn.mk (Nat.le_trans hbz.size (by first | exact Nat.le_refl _ | exact hbz.drew.size)) ho3a ho3b
            clear ho3a ho3b
            (try dsimp only)
            have hbn : Below wz.heap.size wz wn := by first | exact hbn0 | exact ((Below.refl _ wz).drew).trans hbn0
            replace hbz := hbz.trans (hbn.mono hbz.size)
            (try replace ho1 := ho1.below hbn)
            (try replace ho3 := ho3.below hbn)
            (try replace h6 := blk_below h6 hbn)
            (try replace h7 := blk_below h7 hbn)
            clear hbn0 hbn
            obtain ⟨wz, rfl⟩ : ∃ x, x = wn := ⟨_, rfl⟩
            refine hK9.out _ _ (by intro b i; exact later hbz b) (fun hHn => ?_)
            clear hK9 K9 hHeld
            have hHeld := hHn
            clear hHn
            (try simp only [Act.put])
            refine wpAnyH_ready (rs := [4, 5]) (by kernel_rfl) (by simp) ?_
            refine AllReadyH.cons (o := _) rfl (fun K9 hK9 => ?_) (AllReadyH.cons (o := _) rfl (fun K9 hK9 => ?_) (AllReadyH.nil))
            · go_simp
              first | (obtain ⟨wn, hwx⟩ : ∃ x, x = (wz.alloc (.cells #[.int .i64 0, .slice none 0 0] 34)).drew := ⟨_, rfl⟩; rw [← hwx]) | (obtain ⟨wn, hwx⟩ : ∃ x, x = wz.alloc (.cells #[.int .i64 0, .slice none 0 0] 34) := ⟨_, rfl⟩; rw [← hwx])
              have hwn : wn.heap[wz.heap.size]? = some (.cells #[.int .i64 0, .slice none 0 0] 34 (0, 0)) := by rw [hwx]; exact heap_alloc_new _ _
              have hbn0 : Below wz.heap.size wz wn := by rw [hwx]; exact (by repeat (first | with_reducible exact Below.refl _ _ | (with_reducible refine Below.drew ?_) | (with_reducible refine below_drewN ?_ _) | (with_reducible refine Below.alloc ?_ ?_ _; rotate_left; (first | omega | (simp <;> omega))) | (with_reducible refine Below.setCell ?_ ?_ _; rotate_left; (first | omega | (simp <;> omega)))))
              clear hwx
              have hz6 : wq.heap.size ≤ wz.heap.size := hbz.size
              (try have hne := ne_new h7)
              obtain ⟨g6, hg⟩ : ∃ g, g = wz.heap.size := ⟨_, rfl⟩
              have h6 := hwn
              clear hwn
              rw [← hg] at h6 hz6 ⊢
              (try rw [← hg] at hne)
              clear hg
              have hbn : Below wz.heap.size wz wn := by first | exact hbn0 | exact ((Below.refl _ wz).drew).trans hbn0
              replace hbz := hbz.trans (hbn.mono hbz.size)
              (try replace ho1 := ho1.below hbn)
              (try replace ho3 := ho3.below hbn)
              (try replace h6 := blk_below h6 hbn)
              (try replace h7 := blk_below h7 hbn)
              clear hbn0 hbn
              obtain ⟨wz, rfl⟩ : ∃ x, x = wn := ⟨_, rfl⟩
              refine hK9.out _ _ (by intro b i; exact later hbz b) (fun hHn => ?_)
              clear hK9 K9 hHeld
              have hHeld := hHn
              clear hHn
              (try simp only [Act.put])
              refine wpAnyH_ready (rs := [5]) (by kernel_rfl) (by simp) ?_
              refine AllReadyH.cons (o := _) rfl (fun K9 hK9 => ?_) AllReadyH.nil
              go_simp
              first | (obtain ⟨wn, hwx⟩ : ∃ x, x = (wz.alloc (.cells #[.int .i64 0, .slice none 0 0] 34)).drew := ⟨_, rfl⟩; rw [← hwx]) | (obtain ⟨wn, hwx⟩ : ∃ x, x = wz.alloc (.cells #[.int .i64 0, .slice none 0 0] 34) := ⟨_, rfl⟩; rw [← hwx])
              have hwn : wn.heap[wz.heap.size]? = some (.cells #[.int .i64 0, .slice none 0 0] 34 (0, 0)) := by rw [hwx]; exact heap_alloc_new _ _
              have hbn0 : Below wz.heap.size wz wn := by rw [hwx]; exact (by repeat (first | with_reducible exact Below.refl _ _ | (with_reducible refine Below.drew ?_) | (with_reducible refine below_drewN ?_ _) | (with_reducible refine Below.alloc ?_ ?_ _; rotate_left; (first | omega | (simp <;> omega))) | (with_reducible refine Below.setCell ?_ ?_ _; rotate_left; (first | omega | (simp <;> omega)))))
              clear hwx
              have hz7 : wq.heap.size ≤ wz.heap.size := hbz.size
              (try have hne := (ne_new h6).symm)
              obtain ⟨g7, hg⟩ : ∃ g, g = wz.heap.size := ⟨_, rfl⟩
              have h7 := hwn
              clear hwn
              rw [← hg] at h7 hz7 ⊢
              (try rw [← hg] at hne)
              clear hg
              have hbn : Below wz.heap.size wz wn := by first | exact hbn0 | exact ((Below.refl _ wz).drew).trans hbn0
              replace hbz := hbz.trans (hbn.mono hbz.size)
              (try replace ho1 := ho1.below hbn)
              (try replace ho3 := ho3.below hbn)
              (try replace h6 := blk_below h6 hbn)
              (try replace h7 := blk_below h7 hbn)
              clear hbn0 hbn
              obtain ⟨wz, rfl⟩ : ∃ x, x = wn := ⟨_, rfl⟩
              refine hK9.out _ _ (by intro b i; exact later hbz b) (fun hHn => ?_)
              clear hK9 K9 hHeld
              have hHeld := hHn
              clear hHn
              (try simp only [Act.put])
              have B6 := boxed h6
              have lzz : Later wz wz := Later.refl
              refine wpAnyH_ready (rs := [6]) (by kernel_rfl) (by simp) ?_
              refine AllReadyH.cons (o := _) rfl (fun K9 hK9 => ?_) AllReadyH.nil
              go_simp
              refine set2_named (P := K9 _) h6 ?_
              intro wn hwn hfar hbel hown
              replace ho1 := hown _ _ _ _ ho1
              replace ho3 := hown _ _ _ _ ho3
              replace hbz := hbel _ _ hbz hz6
              replace h7 := (hfar _ hne.symm).trans h7
              clear B6 lzz h6 hfar hbel hown
              obtain ⟨wz, rfl⟩ : ∃ x, x = wn := ⟨_, rfl⟩
              refine hK9.out _ _ (by intro b i; exact later hbz b) (fun hHn => ?_)
              clear hK9 K9 hHeld
              have hHeld := hHn
              clear hHn
              (try simp only [Act.put])
              have B7 := boxed h7
              have lzz : Later wz wz := Later.refl
              refine wpAnyH_ready (rs := [7]) (by kernel_rfl) (by simp) ?_
              refine AllReadyH.cons (o := _) rfl (fun K9 hK9 => ?_) AllReadyH.nil
              have h6 := hwn
              go_simp
              refine set2_named (P := K9 _) h7 ?_
              intro wn hwn hfar hbel hown
              replace ho1 := hown _ _ _ _ ho1
              replace ho3 := hown _ _ _ _ ho3
              replace hbz := hbel _ _ hbz hz7
              replace h6 := (hfar _ hne).trans h6
              clear B7 lzz h7 hfar hbel hown
              obtain ⟨wz, rfl⟩ : ∃ x, x = wn := ⟨_, rfl⟩
              refine hK9.out _ _ (by intro b i; exact later hbz b) (fun hHn => ?_)
              clear hK9 K9 hHeld
              have hHeld := hHn
              clear hHn
              (try simp only [Act.put])
              refine wpAnyH_done (by kernel_rfl) ?_ _
              go_wp2_with fail
              go_meet
              exact ⟨g6, g7, q, p, QA, Qc, PA, Pc, rfl, rfl, h6, hwn, hq, hp, ho1.sums, ho3.sums, hbz⟩
            · go_simp
              first | (obtain ⟨wn, hwx⟩ : ∃ x, x = (wz.alloc (.cells #[.int .i64 0, .slice none 0 0] 34)).drew := ⟨_, rfl⟩; rw [← hwx]) | (obtain ⟨wn, hwx⟩ : ∃ x, x = wz.alloc (.cells #[.int .i64 0, .slice none 0 0] 34) := ⟨_, rfl⟩; rw [← hwx])
              have hwn : wn.heap[wz.heap.size]? = some (.cells #[.int .i64 0, .slice none 0 0] 34 (0, 0)) := by rw [hwx]; exact heap_alloc_new _ _
              have hbn0 : Below wz.heap.size wz wn := by rw [hwx]; exact (by repeat (first | with_reducible exact Below.refl _ _ | (with_reducible refine Below.drew ?_) | (with_reducible refine below_drewN ?_ _) | (with_reducible refine Below.alloc ?_ ?_ _; rotate_left; (first | omega | (simp <;> omega))) | (with_reducible refine Below.setCell ?_ ?_ _; rotate_left; (first | omega | (simp <;> omega)))))
              clear hwx
              have hz7 : wq.heap.size ≤ wz.heap.size := hbz.size
              (try have hne := (ne_new h6).symm)
              obtain ⟨g7, hg⟩ : ∃ g, g = wz.heap.size := ⟨_, rfl⟩
              have h7 := hwn
              clear hwn
              rw [← hg] at h7 hz7 ⊢
              (try rw [← hg] at hne)
              clear hg
              have hbn : Below wz.heap.size wz wn := by first | exact hbn0 | exact ((Below.refl _ wz).drew).trans hbn0
              replace hbz := hbz.trans (hbn.mono hbz.size)
              (try replace ho1 := ho1.below hbn)
              (try replace ho3 := ho3.below hbn)
              (try replace h6 := blk_below h6 hbn)
              (try replace h7 := blk_below h7 hbn)
              clear hbn0 hbn
              obtain ⟨wz, rfl⟩ : ∃ x, x = wn := ⟨_, rfl⟩
              refine hK9.out _ _ (by intro b i; exact later hbz b) (fun hHn => ?_)
              clear hK9 K9 hHeld
              have hHeld := hHn
              clear hHn
              (try simp only [Act.put])
              refine wpAnyH_ready (rs := [4]) (by kernel_rfl) (by simp) ?_
              refine AllReadyH.cons (o := _) rfl (fun K9 hK9 => ?_) AllReadyH.nil
              go_simp
              first | (obtain ⟨wn, hwx⟩ : ∃ x, x = (wz.alloc (.cells #[.int .i64 0, .slice none 0 0] 34)).drew := ⟨_, rfl⟩; rw [← hwx]) | (obtain ⟨wn, hwx⟩ : ∃ x, x = wz.alloc (.cells #[.int .i64 0, .slice none 0 0] 34) := ⟨_, rfl⟩; rw [← hwx])
              have hwn : wn.heap[wz.heap.size]? = some (.cells #[.int .i64 0, .slice none 0 0] 34 (0, 0)) := by rw [hwx]; exact heap_alloc_new _ _
              have hbn0 : Below wz.heap.size wz wn := by rw [hwx]; exact (by repeat (first | with_reducible exact Below.refl _ _ | (with_reducible refine Below.drew ?_) | (with_reducible refine below_drewN ?_ _) | (with_reducible refine Below.alloc ?_ ?_ _; rotate_left; (first | omega | (simp <;> omega))) | (with_reducible refine Below.setCell ?_ ?_ _; rotate_left; (first | omega | (simp <;> omega)))))
              clear hwx
              have hz6 : wq.heap.size ≤ wz.heap.size := hbz.size
              (try have hne := ne_new h7)
              obtain ⟨g6, hg⟩ : ∃ g, g = wz.heap.size := ⟨_, rfl⟩
              have h6 := hwn
              clear hwn
              rw [← hg] at h6 hz6 ⊢
              (try rw [← hg] at hne)
              clear hg
              have hbn : Below wz.heap.size wz wn := by first | exact hbn0 | exact ((Below.refl _ wz).drew).trans hbn0
              replace hbz := hbz.trans (hbn.mono hbz.size)
              (try replace ho1 := ho1.below hbn)
              (try replace ho3 := ho3.below hbn)
              (try replace h6 := blk_below h6 hbn)
              (try replace h7 := blk_below h7 hbn)
              clear hbn0 hbn
              obtain ⟨wz, rfl⟩ : ∃ x, x = wn := ⟨_, rfl⟩
              refine hK9.out _ _ (by intro b i; exact later hbz b) (fun hHn => ?_)
              clear hK9 K9 hHeld
              have hHeld := hHn
              clear hHn
              (try simp only [Act.put])
              have B6 := boxed h6
              have lzz : Later wz wz := Later.refl
              refine wpAnyH_ready (rs := [6]) (by kernel_rfl) (by simp) ?_
              refine AllReadyH.cons (o := _) rfl (fun K9 hK9 => ?_) AllReadyH.nil
              go_simp
              refine set2_named (P := K9 _) h6 ?_
              intro wn hwn hfar hbel hown
              replace ho1 := hown _ _ _ _ ho1
              replace ho3 := hown _ _ _ _ ho3
              replace hbz := hbel _ _ hbz hz6
              replace h7 := (hfar _ hne.symm).trans h7
              clear B6 lzz h6 hfar hbel hown
              obtain ⟨wz, rfl⟩ : ∃ x, x = wn := ⟨_, rfl⟩
              refine hK9.out _ _ (by intro b i; exact later hbz b) (fun hHn => ?_)
              clear hK9 K9 hHeld
              have hHeld := hHn
              clear hHn
              (try simp only [Act.put])
              have B7 := boxed h7
              have lzz : Later wz wz := Later.refl
              refine wpAnyH_ready (rs := [7]) (by kernel_rfl) (by simp) ?_
              refine AllReadyH.cons (o := _) rfl (fun K9 hK9 => ?_) AllReadyH.nil
              have h6 := hwn
              go_simp
              refine set2_named (P := K9 _) h7 ?_
              intro wn hwn hfar hbel hown
              replace ho1 := hown _ _ _ _ ho1
              replace ho3 := hown _ _ _ _ ho3
              replace hbz := hbel _ _ hbz hz7
              replace h6 := (hfar _ hne).trans h6
              clear B7 lzz h7 hfar hbel hown
              obtain ⟨wz, rfl⟩ : ∃ x, x = wn := ⟨_, rfl⟩
              refine hK9.out _ _ (by intro b i; exact later hbz b) (fun hHn => ?_)
              clear hK9 K9 hHeld
              have hHeld := hHn
              clear hHn
              (try simp only [Act.put])
              refine wpAnyH_done (by kernel_rfl) ?_ _
              go_wp2_with fail
              go_meet
              exact ⟨g6, g7, q, p, QA, Qc, PA, Pc, rfl, rfl, h6, hwn, hq, hp, ho1.sums, ho3.sums, hbz⟩
          · go_simp
            first | (obtain ⟨wn, hwx⟩ : ∃ x, x = (wz.alloc (.cells #[.int .i64 0, .slice none 0 0] 34)).drew := ⟨_, rfl⟩; rw [← hwx]) | (obtain ⟨wn, hwx⟩ : ∃ x, x = wz.alloc (.cells #[.int .i64 0, .slice none 0 0] 34) := ⟨_, rfl⟩; rw [← hwx])
            have hwn : wn.heap[wz.heap.size]? = some (.cells #[.int .i64 0, .slice none 0 0] 34 (0, 0)) := by rw [hwx]; exact heap_alloc_new _ _
            have hbn0 : Below wz.heap.size wz wn := by rw [hwx]; exact (by repeat (first | with_reducible exact Below.refl _ _ | (with_reducible refine Below.drew ?_) | (with_reducible refine below_drewN ?_ _) | (with_reducible refine Below.alloc ?_ ?_ _; rotate_left; (first | omega | (simp <;> omega))) | (with_reducible refine Below.setCell ?_ ?_ _; rotate_left; (first | omega | (simp <;> omega)))))
            clear hwx
            have hz6 : wq.heap.size ≤ wz.heap.size := hbz.size
            (try have hne := ne_new h7)
            obtain ⟨g6, hg⟩ : ∃ g, g = wz.heap.size := ⟨_, rfl⟩
            have h6 := hwn
            clear hwn
            rw [← hg] at h6 hz6 ⊢
            (try rw [← hg] at hne)
            clear hg
            have hbn : Below wz.heap.size wz wn := by first | exact hbn0 | exact ((Below.refl _ wz).drew).trans hbn0
            replace hbz := hbz.trans (hbn.mono hbz.size)
            (try replace ho1 := ho1.below hbn)
            (try replace ho3 := ho3.below hbn)
            (try replace h6 := blk_below h6 hbn)
            (try replace h7 := blk_below h7 hbn)
            clear hbn0 hbn
            obtain ⟨wz, rfl⟩ : ∃ x, x = wn := ⟨_, rfl⟩
            refine hK9.out _ _ (by intro b i; exact later hbz b) (fun hHn => ?_)
            clear hK9 K9 hHeld
            have hHeld := hHn
            clear hHn
            (try simp only [Act.put])
            refine wpAnyH_ready (rs := [3, 5]) (by kernel_rfl) (by simp) ?_
            refine AllReadyH.cons (o := _) rfl (fun K9 hK9 => ?_) (AllReadyH.cons (o := _) rfl (fun K9 hK9 => ?_) (AllReadyH.nil))
            · go_simp
              refine (HS2 _ (by first | exact hbz | exact hbz.drew)).mono ?_
              rintro r wn ⟨p, PA, Pc, hp, rfl, ho3a, ho3b, hbn0⟩
              have ho3 := QOwn.mk (Nat.le_trans hbz.size (by first | exact Nat.le_refl _ | exact hbz.drew.size)) ho3a ho3b
              clear ho3a ho3b
              (try dsimp only)
              have hbn : Below wz.heap.size wz wn := by first | exact hbn0 | exact ((Below.refl _ wz).drew).trans hbn0
              replace hbz := hbz.trans (hbn.mono hbz.size)
              (try replace ho1 := ho1.below hbn)
              (try replace ho3 := ho3.below hbn)
              (try replace h6 := blk_below h6 hbn)
              (try replace h7 := blk_below h7 hbn)
              clear hbn0 hbn
              obtain ⟨wz, rfl⟩ : ∃ x, x = wn := ⟨_, rfl⟩
              refine hK9.out _ _ (by intro b i; exact later hbz b) (fun hHn => ?_)
              clear hK9 K9 hHeld
              have hHeld := hHn
              clear hHn
              (try simp only [Act.put])
              refine wpAnyH_ready (rs := [5]) (by kernel_rfl) (by simp) ?_
              refine AllReadyH.cons (o := _) rfl (fun K9 hK9 => ?_) AllReadyH.nil
              go_simp
              first | (obtain ⟨wn, hwx⟩ : ∃ x, x = (wz.alloc (.cells #[.int .i64 0, .slice none 0 0] 34)).drew := ⟨_, rfl⟩; rw [← hwx]) | (obtain ⟨wn, hwx⟩ : ∃ x, x = wz.alloc (.cells #[.int .i64 0, .slice none 0 0] 34) := ⟨_, rfl⟩; rw [← hwx])
              have hwn : wn.heap[wz.heap.size]? = some (.cells #[.int .i64 0, .slice none 0 0] 34 (0, 0)) := by rw [hwx]; exact heap_alloc_new _ _
              have hbn0 : Below wz.heap.size wz wn := by rw [hwx]; exact (by repeat (first | with_reducible exact Below.refl _ _ | (with_reducible refine Below.drew ?_) | (with_reducible refine below_drewN ?_ _) | (with_reducible refine Below.alloc ?_ ?_ _; rotate_left; (first | omega | (simp <;> omega))) | (with_reducible refine Below.setCell ?_ ?_ _; rotate_left; (first | omega | (simp <;> omega)))))
              clear hwx
              have hz7 : wq.heap.size ≤ wz.heap.size := hbz.size
              (try have hne := (ne_new h6).symm)
              obtain ⟨g7, hg⟩ : ∃ g, g = wz.heap.size := ⟨_, rfl⟩
              have h7 := hwn
              clear hwn
              rw [← hg] at h7 hz7 ⊢
              (try rw [← hg] at hne)
              clear hg
              have hbn : Below wz.heap.size wz wn := by first | exact hbn0 | exact ((Below.refl _ wz).drew).trans hbn0
              replace hbz := hbz.trans (hbn.mono hbz.size)
              (try replace ho1 := ho1.below hbn)
              (try replace ho3 := ho3.below hbn)
              (try replace h6 := blk_below h6 hbn)
              (try replace h7 := blk_below h7 hbn)
              clear hbn0 hbn
              obtain ⟨wz, rfl⟩ : ∃ x, x = wn := ⟨_, rfl⟩
              refine hK9.out _ _ (by intro b i; exact later hbz b) (fun hHn => ?_)
              clear hK9 K9 hHeld
              have hHeld := hHn
              clear hHn
              (try simp only [Act.put])
              have B6 := boxed h6
              have lzz : Later wz wz := Later.refl
              refine wpAnyH_ready (rs := [6]) (by kernel_rfl) (by simp) ?_
              refine AllReadyH.cons (o := _) rfl (fun K9 hK9 => ?_) AllReadyH.nil
              go_simp
              refine set2_named (P := K9 _) h6 ?_
              intro wn hwn hfar hbel hown
              replace ho1 := hown _ _ _ _ ho1
              replace ho3 := hown _ _ _ _ ho3
              replace hbz := hbel _ _ hbz hz6
              replace h7 := (hfar _ hne.symm).trans h7
              clear B6 lzz h6 hfar hbel hown
              obtain ⟨wz, rfl⟩ : ∃ x, x = wn := ⟨_, rfl⟩
              refine hK9.out _ _ (by intro b i; exact later hbz b) (fun hHn => ?_)
              clear hK9 K9 hHeld
              have hHeld := hHn
              clear hHn
              (try simp only [Act.put])
              have B7 := boxed h7
              have lzz : Later wz wz := Later.refl
              refine wpAnyH_ready (rs := [7]) (by kernel_rfl) (by simp) ?_
              refine AllReadyH.cons (o := _) rfl (fun K9 hK9 => ?_) AllReadyH.nil
              have h6 := hwn
              go_simp
              refine set2_named (P := K9 _) h7 ?_
              intro wn hwn hfar hbel hown
              replace ho1 := hown _ _ _ _ ho1
              replace ho3 := hown _ _ _ _ ho3
              replace hbz := hbel _ _ hbz hz7
              replace h6 := (hfar _ hne).trans h6
              clear B7 lzz h7 hfar hbel hown
              obtain ⟨wz, rfl⟩ : ∃ x, x = wn := ⟨_, rfl⟩
              refine hK9.out _ _ (by intro b i; exact later hbz b) (fun hHn => ?_)
              clear hK9 K9 hHeld
              have hHeld := hHn
              clear hHn
              (try simp only [Act.put])
              refine wpAnyH_done (by kernel_rfl) ?_ _
              go_wp2_with fail
              go_meet
              exact ⟨g6, g7, q, p, QA, Qc, PA, Pc, rfl, rfl, h6, hwn, hq, hp, ho1.sums, ho3.sums, hbz⟩
            · go_simp
              first | (obtain ⟨wn, hwx⟩ : ∃ x, x = (wz.alloc (.cells #[.int .i64 0, .slice none 0 0] 34)).drew := ⟨_, rfl⟩; rw [← hwx]) | (obtain ⟨wn, hwx⟩ : ∃ x, x = wz.alloc (.cells #[.int .i64 0, .slice none 0 0] 34) := ⟨_, rfl⟩; rw [← hwx])
              have hwn : wn.heap[wz.heap.size]? = some (.cells #[.int .i64 0, .slice none 0 0] 34 (0, 0)) := by rw [hwx]; exact heap_alloc_new _ _
              have hbn0 : Below wz.heap.size wz wn := by rw [hwx]; exact (by repeat (first | with_reducible exact Below.refl _ _ | (with_reducible refine Below.drew ?_) | (with_reducible refine below_drewN ?_ _) | (with_reducible refine Below.alloc ?_ ?_ _; rotate_left; (first | omega | (simp <;> omega))) | (with_reducible refine Below.setCell ?_ ?_ _; rotate_left; (first | omega | (simp <;> omega)))))
              clear hwx
              have hz7 : wq.heap.size ≤ wz.heap.size := hbz.size
              (try have hne := (ne_new h6).symm)
              obtain ⟨g7, hg⟩ : ∃ g, g = wz.heap.size := ⟨_, rfl⟩
              have h7 := hwn
              clear hwn
              rw [← hg] at h7 hz7 ⊢
              (try rw [← hg] at hne)
              clear hg
              have hbn : Below wz.heap.size wz wn := by first | exact hbn0 | exact ((Below.refl _ wz).drew).trans hbn0
              replace hbz := hbz.trans (hbn.mono hbz.size)
              (try replace ho1 := ho1.below hbn)
              (try replace ho3 := ho3.below hbn)
              (try replace h6 := blk_below h6 hbn)
              (try replace h7 := blk_below h7 hbn)
              clear hbn0 hbn
              obtain ⟨wz, rfl⟩ : ∃ x, x = wn := ⟨_, rfl⟩
              refine hK9.out _ _ (by intro b i; exact later hbz b) (fun hHn => ?_)
              clear hK9 K9 hHeld
              have hHeld := hHn
              clear hHn
              (try simp only [Act.put])
              refine wpAnyH_ready (rs := [3]) (by kernel_rfl) (by simp) ?_
              refine AllReadyH.cons (o := _) rfl (fun K9 hK9 => ?_) AllReadyH.nil
              go_simp
              refine (HS2 _ (by first | exact hbz | exact hbz.drew)).mono ?_
              rintro r wn ⟨p, PA, Pc, hp, rfl, ho3a, ho3b, hbn0⟩
              have ho3 := QOwn.mk (Nat.le_trans hbz.size (by first | exact Nat.le_refl _ | exact hbz.drew.size)) ho3a ho3b
              clear ho3a ho3b
              (try dsimp only)
              have hbn : Below wz.heap.size wz wn := by first | exact hbn0 | exact ((Below.refl _ wz).drew).trans hbn0
              replace hbz := hbz.trans (hbn.mono hbz.size)
              (try replace ho1 := ho1.below hbn)
              (try replace ho3 := ho3.below hbn)
              (try replace h6 := blk_below h6 hbn)
              (try replace h7 := blk_below h7 hbn)
              clear hbn0 hbn
              obtain ⟨wz, rfl⟩ : ∃ x, x = wn := ⟨_, rfl⟩
              refine hK9.out _ _ (by intro b i; exact later hbz b) (fun hHn => ?_)
              clear hK9 K9 hHeld
              have hHeld := hHn
              clear hHn
              (try simp only [Act.put])
              have B6 := boxed h6
              have lzz : Later wz wz := Later.refl
              refine wpAnyH_ready (rs := [6]) (by kernel_rfl) (by simp) ?_
              refine AllReadyH.cons (o := _) rfl (fun K9 hK9 => ?_) AllReadyH.nil
              go_simp
              refine set2_named (P := K9 _) h6 ?_
              intro wn hwn hfar hbel hown
              replace ho1 := hown _ _ _ _ ho1
              replace ho3 := hown _ _ _ _ ho3
              replace hbz := hbel _ _ hbz hz6
              replace h7 := (hfar _ hne.symm).trans h7
              clear B6 lzz h6 hfar hbel hown
              obtain ⟨wz, rfl⟩ : ∃ x, x = wn := ⟨_, rfl⟩
              refine hK9.out _ _ (by intro b i; exact later hbz b) (fun hHn => ?_)
              clear hK9 K9 hHeld
              have hHeld := hHn
              clear hHn
              (try simp only [Act.put])
              have B7 := boxed h7
              have lzz : Later wz wz := Later.refl
              refine wpAnyH_ready (rs := [7]) (by kernel_rfl) (by simp) ?_
              refine AllReadyH.cons (o := _) rfl (fun K9 hK9 => ?_) AllReadyH.nil
              have h6 := hwn
              go_simp
              refine set2_named (P := K9 _) h7 ?_
              intro wn hwn hfar hbel hown
              replace ho1 := hown _ _ _ _ ho1
              replace ho3 := hown _ _ _ _ ho3
              replace hbz := hbel _ _ hbz hz7
              replace h6 := (hfar _ hne).trans h6
              clear B7 lzz h7 hfar hbel hown
              obtain ⟨wz, rfl⟩ : ∃ x, x = wn := ⟨_, rfl⟩
              refine hK9.out _ _ (by intro b i; exact later hbz b) (fun hHn => ?_)
              clear hK9 K9 hHeld
              have hHeld := hHn
              clear hHn
              (try simp only [Act.put])
              refine wpAnyH_done (by kernel_rfl) ?_ _
              go_wp2_with fail
              go_meet
              exact ⟨g6, g7, q, p, QA, Qc, PA, Pc, rfl, rfl, h6, hwn, hq, hp, ho1.sums, ho3.sums, hbz⟩
          · go_simp
            first | (obtain ⟨wn, hwx⟩ : ∃ x, x = (wz.alloc (.cells #[.int .i64 0, .slice none 0 0] 34)).drew := ⟨_, rfl⟩; rw [← hwx]) | (obtain ⟨wn, hwx⟩ : ∃ x, x = wz.alloc (.cells #[.int .i64 0, .slice none 0 0] 34) := ⟨_, rfl⟩; rw [← hwx])
            have hwn : wn.heap[wz.heap.size]? = some (.cells #[.int .i64 0, .slice none 0 0] 34 (0, 0)) := by rw [hwx]; exact heap_alloc_new _ _
            have hbn0 : Below wz.heap.size wz wn := by rw [hwx]; exact (by repeat (first | with_reducible exact Below.refl _ _ | (with_reducible refine Below.drew ?_) | (with_reducible refine below_drewN ?_ _) | (with_reducible refine Below.alloc ?_ ?_ _; rotate_left; (first | omega | (simp <;> omega))) | (with_reducible refine Below.setCell ?_ ?_ _; rotate_left; (first | omega | (simp <;> omega)))))
            clear hwx
            have hz7 : wq.heap.size ≤ wz.heap.size := hbz.size
            (try have hne := (ne_new h6).symm)
            obtain ⟨g7, hg⟩ : ∃ g, g = wz.heap.size := ⟨_, rfl⟩
            have h7 := hwn
            clear hwn
            rw [← hg] at h7 hz7 ⊢
            (try rw [← hg] at hne)
            clear hg
            have hbn : Below wz.heap.size wz wn := by first | exact hbn0 | exact ((Below.refl _ wz).drew).trans hbn0
            replace hbz := hbz.trans (hbn.mono hbz.size)
            (try replace ho1 := ho1.below hbn)
            (try replace ho3 := ho3.below hbn)
            (try replace h6 := blk_below h6 hbn)
            (try replace h7 := blk_below h7 hbn)
            clear hbn0 hbn
            obtain ⟨wz, rfl⟩ : ∃ x, x = wn := ⟨_, rfl⟩
            refine hK9.out _ _ (by intro b i; exact later hbz b) (fun hHn => ?_)
            clear hK9 K9 hHeld
            have hHeld := hHn
            clear hHn
            (try simp only [Act.put])
            refine wpAnyH_ready (rs := [3, 4]) (by kernel_rfl) (by simp) ?_
            refine AllReadyH.cons (o := _) rfl (fun K9 hK9 => ?_) (AllReadyH.cons (o := _) rfl (fun K9 hK9 => ?_) (AllReadyH.nil))
            · go_simp
              refine (HS2 _ (by first | exact hbz | exact hbz.drew)).mono ?_
              rintro r wn ⟨p, PA, Pc, hp, rfl, ho3a, ho3b, hbn0⟩
              have ho3 := QOwn.mk (Nat.le_trans hbz.size (by first | exact Nat.le_refl _ | exact hbz.drew.size)) ho3a ho3b
              clear ho3a ho3b
              (try dsimp only)
              have hbn : Below wz.heap.size wz wn := by first | exact hbn0 | exact ((Below.refl _ wz).drew).trans hbn0
              replace hbz := hbz.trans (hbn.mono hbz.size)
              (try replace ho1 := ho1.below hbn)
              (try replace ho3 := ho3.below hbn)
              (try replace h6 := blk_below h6 hbn)
              (try replace h7 := blk_below h7 hbn)
              clear hbn0 hbn
              obtain ⟨wz, rfl⟩ : ∃ x, x = wn := ⟨_, rfl⟩
              refine hK9.out _ _ (by intro b i; exact later hbz b) (fun hHn => ?_)
              clear hK9 K9 hHeld
              have hHeld := hHn
              clear hHn
              (try simp only [Act.put])
              refine wpAnyH_ready (rs := [4]) (by kernel_rfl) (by simp) ?_
              refine AllReadyH.cons (o := _) rfl (fun K9 hK9 => ?_) AllReadyH.nil
              go_simp
              first | (obtain ⟨wn, hwx⟩ : ∃ x, x = (wz.alloc (.cells #[.int .i64 0, .slice none 0 0] 34)).drew := ⟨_, rfl⟩; rw [← hwx]) | (obtain ⟨wn, hwx⟩ : ∃ x, x = wz.alloc (.cells #[.int .i64 0, .slice none 0 0] 34) := ⟨_, rfl⟩; rw [← hwx])
              have hwn : wn.heap[wz.heap.size]? = some (.cells #[.int .i64 0, .slice none 0 0] 34 (0, 0)) := by rw [hwx]; exact heap_alloc_new _ _
              have hbn0 : Below wz.heap.size wz wn := by rw [hwx]; exact (by repeat (first | with_reducible exact Below.refl _ _ | (with_reducible refine Below.drew ?_) | (with_reducible refine below_drewN ?_ _) | (with_reducible refine Below.alloc ?_ ?_ _; rotate_left; (first | omega | (simp <;> omega))) | (with_reducible refine Below.setCell ?_ ?_ _; rotate_left; (first | omega | (simp <;> omega)))))
              clear hwx
              have hz6 : wq.heap.size ≤ wz.heap.size := hbz.size
              (try have hne := ne_new h7)
              obtain ⟨g6, hg⟩ : ∃ g, g = wz.heap.size := ⟨_, rfl⟩
              have h6 := hwn
              clear hwn
              rw [← hg] at h6 hz6 ⊢
              (try rw [← hg] at hne)
              clear hg
              have hbn : Below wz.heap.size wz wn := by first | exact hbn0 | exact ((Below.refl _ wz).drew).trans hbn0
              replace hbz := hbz.trans (hbn.mono hbz.size)
              (try replace ho1 := ho1.below hbn)
              (try replace ho3 := ho3.below hbn)
              (try replace h6 := blk_below h6 hbn)
              (try replace h7 := blk_below h7 hbn)
              clear hbn0 hbn
              obtain ⟨wz, rfl⟩ : ∃ x, x = wn := ⟨_, rfl⟩
              refine hK9.out _ _ (by intro b i; exact later hbz b) (fun hHn => ?_)
              clear hK9 K9 hHeld
              have hHeld := hHn
              clear hHn
              (try simp only [Act.put])
              have B6 := boxed h6
              have lzz : Later wz wz := Later.refl
              refine wpAnyH_ready (rs := [6]) (by kernel_rfl) (by simp) ?_
              refine AllReadyH.cons (o := _) rfl (fun K9 hK9 => ?_) AllReadyH.nil
              go_simp
              refine set2_named (P := K9 _) h6 ?_
              intro wn hwn hfar hbel hown
              replace ho1 := hown _ _ _ _ ho1
              replace ho3 := hown _ _ _ _ ho3
              replace hbz := hbel _ _ hbz hz6
              replace h7 := (hfar _ hne.symm).trans h7
              clear B6 lzz h6 hfar hbel hown
              obtain ⟨wz, rfl⟩ : ∃ x, x = wn := ⟨_, rfl⟩
              refine hK9.out _ _ (by intro b i; exact later hbz b) (fun hHn => ?_)
              clear hK9 K9 hHeld
              have hHeld := hHn
              clear hHn
              (try simp only [Act.put])
              have B7 := boxed h7
              have lzz : Later wz wz := Later.refl
              refine wpAnyH_ready (rs := [7]) (by kernel_rfl) (by simp) ?_
              refine AllReadyH.cons (o := _) rfl (fun K9 hK9 => ?_) AllReadyH.nil
              have h6 := hwn
              go_simp
              refine set2_named (P := K9 _) h7 ?_
              intro wn hwn hfar hbel hown
              replace ho1 := hown _ _ _ _ ho1
              replace ho3 := hown _ _ _ _ ho3
              replace hbz := hbel _ _ hbz hz7
              replace h6 := (hfar _ hne).trans h6
              clear B7 lzz h7 hfar hbel hown
              obtain ⟨wz, rfl⟩ : ∃ x, x = wn := ⟨_, rfl⟩
              refine hK9.out _ _ (by intro b i; exact later hbz b) (fun hHn => ?_)
              clear hK9 K9 hHeld
              have hHeld := hHn
              clear hHn
              (try simp only [Act.put])
              refine wpAnyH_done (by kernel_rfl) ?_ _
              go_wp2_with fail
              go_meet
              exact ⟨g6, g7, q, p, QA, Qc, PA, Pc, rfl, rfl, h6, hwn, hq, hp, ho1.sums, ho3.sums, hbz⟩
            · go_simp
              first | (obtain ⟨wn, hwx⟩ : ∃ x, x = (wz.alloc (.cells #[.int .i64 0, .slice none 0 0] 34)).drew := ⟨_, rfl⟩; rw [← hwx]) | (obtain ⟨wn, hwx⟩ : ∃ x, x = wz.alloc (.cells #[.int .i64 0, .slice none 0 0] 34) := ⟨_, rfl⟩; rw [← hwx])
              have hwn : wn.heap[wz.heap.size]? = some (.cells #[.int .i64 0, .slice none 0 0] 34 (0, 0)) := by rw [hwx]; exact heap_alloc_new _ _
              have hbn0 : Below wz.heap.size wz wn := by rw [hwx]; exact (by repeat (first | with_reducible exact Below.refl _ _ | (with_reducible refine Below.drew ?_) | (with_reducible refine below_drewN ?_ _) | (with_reducible refine Below.alloc ?_ ?_ _; rotate_left; (first | omega | (simp <;> omega))) | (with_reducible refine Below.setCell ?_ ?_ _; rotate_left; (first | omega | (simp <;> omega)))))
              clear hwx
              have hz6 : wq.heap.size ≤ wz.heap.size := hbz.size
              (try have hne := ne_new h7)
              obtain ⟨g6, hg⟩ : ∃ g, g = wz.heap.size := ⟨_, rfl⟩
              have h6 := hwn
              clear hwn
              rw [← hg] at h6 hz6 ⊢
              (try rw [← hg] at hne)
              clear hg
              have hbn : Below wz.heap.size wz wn := by first | exact hbn0 | exact ((Below.refl _ wz).drew).trans hbn0
              replace hbz := hbz.trans (hbn.mono hbz.size)
              (try replace ho1 := ho1.below hbn)
              (try replace ho3 := ho3.below hbn)
              (try replace h6 := blk_below h6 hbn)
              (try replace h7 := blk_below h7 hbn)
              clear hbn0 hbn
              obtain ⟨wz, rfl⟩ : ∃ x, x = wn := ⟨_, rfl⟩
              refine hK9.out _ _ (by intro b i; exact later hbz b) (fun hHn => ?_)
              clear hK9 K9 hHeld
              have hHeld := hHn
              clear hHn
              (try simp only [Act.put])
              refine wpAnyH_ready (rs := [3]) (by kernel_rfl) (by simp) ?_
              refine AllReadyH.cons (o := _) rfl (fun K9 hK9 => ?_) AllReadyH.nil
              go_simp
              refine (HS2 _ (by first | exact hbz | exact hbz.drew)).mono ?_
              rintro r wn ⟨p, PA, Pc, hp, rfl, ho3a, ho3b, hbn0⟩
              have ho3 := QOwn.mk (Nat.le_trans hbz.size (by first | exact Nat.le_refl _ | exact hbz.drew.size)) ho3a ho3b
              clear ho3a ho3b
              (try dsimp only)
              have hbn : Below wz.heap.size wz wn := by first | exact hbn0 | exact ((Below.refl _ wz).drew).trans hbn0
              replace hbz := hbz.trans (hbn.mono hbz.size)
              (try replace ho1 := ho1.below hbn)
              (try replace ho3 := ho3.below hbn)
              (try replace h6 := blk_below h6 hbn)
              (try replace h7 := blk_below h7 hbn)
              clear hbn0 hbn
              obtain ⟨wz, rfl⟩ : ∃ x, x = wn := ⟨_, rfl⟩
              refine hK9.out _ _ (by intro b i; exact later hbz b) (fun hHn => ?_)
              clear hK9 K9 hHeld
              have hHeld := hHn
              clear hHn
              (try simp only [Act.put])
              have B6 := boxed h6
              have lzz : Later wz wz := Later.refl
              refine wpAnyH_ready (rs := [6]) (by kernel_rfl) (by simp) ?_
              refine AllReadyH.cons (o := _) rfl (fun K9 hK9 => ?_) AllReadyH.nil
              go_simp
              refine set2_named (P := K9 _) h6 ?_
              intro wn hwn hfar hbel hown
              replace ho1 := hown _ _ _ _ ho1
              replace ho3 := hown _ _ _ _ ho3
              replace hbz := hbel _ _ hbz hz6
              replace h7 := (hfar _ hne.symm).trans h7
              clear B6 lzz h6 hfar hbel hown
              obtain ⟨wz, rfl⟩ : ∃ x, x = wn := ⟨_, rfl⟩
              refine hK9.out _ _ (by intro b i; exact later hbz b) (fun hHn => ?_)
              clear hK9 K9 hHeld
              have hHeld := hHn
              clear hHn
              (try simp only [Act.put])
              have B7 := boxed h7
              have lzz : Later wz wz := Later.refl
              refine wpAnyH_ready (rs := [7]) (by kernel_rfl) (by simp) ?_
              refine AllReadyH.cons (o := _) rfl (fun K9 hK9 => ?_) AllReadyH.nil
              have h6 := hwn
              go_simp
              refine set2_named (P := K9 _) h7 ?_
              intro wn hwn hfar hbel hown
              replace ho1 := hown _ _ _ _ ho1
              replace ho3 := hown _ _ _ _ ho3
              replace hbz := hbel _ _ hbz hz7
              replace h6 := (hfar _ hne).trans h6
              clear B7 lzz h7 hfar hbel hown
              obtain ⟨wz, rfl⟩ : ∃ x, x = wn := ⟨_, rfl⟩
              refine hK9.out _ _ (by intro b i; exact later hbz b) (fun hHn => ?_)
              clear hK9 K9 hHeld
              have hHeld := hHn
              clear hHn
              (try simp only [Act.put])
              refine wpAnyH_done (by kernel_rfl) ?_ _
              go_wp2_with fail
              go_meet
              exact ⟨g6, g7, q, p, QA, Qc, PA, Pc, rfl, rfl, h6, hwn, hq, hp, ho1.sums, ho3.sums, hbz⟩
        · as_aux_lemma =>
          go_simp
          first | (obtain ⟨wn, hwx⟩ : ∃ x, x = (wz.alloc (.cells #[.int .i64 0, .slice none 0 0] 34)).drew := ⟨_, rfl⟩; rw [← hwx]) | (obtain ⟨wn, hwx⟩ : ∃ x, x = wz.alloc (.cells #[.int .i64 0, .slice none 0 0] 34) := ⟨_, rfl⟩; rw [← hwx])
          have hwn : wn.heap[wz.heap.size]? = some (.cells #[.int .i64 0, .slice none 0 0] 34 (0, 0)) := by rw [hwx]; exact heap_alloc_new _ _
          have hbn0 : Below wz.heap.size wz wn := by rw [hwx]; exact (by repeat (first | with_reducible exact Below.refl _ _ | (with_reducible refine Below.drew ?_) | (with_reducible refine below_drewN ?_ _) | (with_reducible refine Below.alloc ?_ ?_ _; rotate_left; (first | omega | (simp <;> omega))) | (with_reducible refine Below.setCell ?_ ?_ _; rotate_left; (first | omega | (simp <;> omega)))))
          clear hwx
          have hz6 : wq.heap.size ≤ wz.heap.size := hbz.size
          (try have hne := ne_new h7)
          obtain ⟨g6, hg⟩ : ∃ g, g = wz.heap.size := ⟨_, rfl⟩
          have h6 := hwn
          clear hwn
          rw [← hg] at h6 hz6 ⊢
          (try rw [← hg] at hne)
          clear hg
          have hbn : Below wz.heap.size wz wn := by first | exact hbn0 | exact ((Below.refl _ wz).drew).trans hbn0
          replace hbz := hbz.trans (hbn.mono hbz.size)
          (try replace ho1 := ho1.below hbn)
          (try replace ho3 := ho3.below hbn)
          (try replace h6 := blk_below h6 hbn)
          (try replace h7 := blk_below h7 hbn)
          clear hbn0 hbn
          obtain ⟨wz, rfl⟩ : ∃ x, x = wn := ⟨_, rfl⟩
          refine hK9.out _ _ (by intro b i; exact later hbz b) (fun hHn => ?_)
          clear hK9 K9 hHeld
          have hHeld := hHn
          clear hHn
          (try simp only [Act.put])
          refine wpAnyH_ready (rs := [1, 5]) (by kernel_rfl) (by simp) ?_
          refine AllReadyH.cons (o := _) rfl (fun K9 hK9 => ?_) (AllReadyH.cons (o := _) rfl (fun K9 hK9 => ?_) (AllReadyH.nil))
          · go_simp
            refine (HS1 _ (by first | exact hbz | exact hbz.drew)).mono ?_
            rintro r wn ⟨q, QA, Qc, hq, rfl, ho1a, ho1b, hbn0⟩
            have ho1 := QOwn.mk (Nat.le_trans hbz.size (by first | exact Nat.le_refl _ | exact hbz.drew.size)) ho1a ho1b
            clear ho1a ho1b
            (try dsimp only)
            have hbn : Below wz.heap.size wz wn := by first | exact hbn0 | exact ((Below.refl _ wz).drew).trans hbn0
            replace hbz := hbz.trans (hbn.mono hbz.size)
            (try replace ho1 := ho1.below hbn)
            (try replace ho3 := ho3.below hbn)
            (try replace h6 := blk_below h6 hbn)
            (try replace h7 := blk_below h7 hbn)
            clear hbn0 hbn
            obtain ⟨wz, rfl⟩ : ∃ x, x = wn := ⟨_, rfl⟩
            refine hK9.out _ _ (by intro b i; exact later hbz b) (fun hHn => ?_)
            clear hK9 K9 hHeld
            have hHeld := hHn
            clear hHn
            (try simp only [Act.put])
            refine wpAnyH_ready (rs := [3, 5]) (by kernel_rfl) (by simp) ?_
            refine AllReadyH.cons (o := _) rfl (fun K9 hK9 => ?_) (AllReadyH.cons (o := _) rfl (fun K9 hK9 => ?_) (AllReadyH.nil))
            · go_simp
              refine (HS2 _ (by first | exact hbz | exact hbz.drew)).mono ?_
              rintro r wn ⟨p, PA, Pc, hp, rfl, ho3a, ho3b, hbn0⟩
              have ho3 := QOwn.mk (Nat.le_trans hbz.size (by first | exact Nat.le_refl _ | exact hbz.drew.size)) ho3a ho3b
              clear ho3a ho3b
              (try dsimp only)
              have hbn : Below wz.heap.size wz wn := by first | exact hbn0 | exact ((Below.refl _ wz).drew).trans hbn0
              replace hbz := hbz.trans (hbn.mono hbz.size)
              (try replace ho1 := ho1.below hbn)
              (try replace ho3 := ho3.below hbn)
              (try replace h6 := blk_below h6 hbn)
              (try replace h7 := blk_below h7 hbn)
              clear hbn0 hbn
              obtain ⟨wz, rfl⟩ : ∃ x, x = wn := ⟨_, rfl⟩
              refine hK9.out _ _ (by intro b i; exact later hbz b) (fun hHn => ?_)
              clear hK9 K9 hHeld
              have hHeld := hHn
              clear hHn
              (try simp only [Act.put])
              refine wpAnyH_ready (rs := [5]) (by kernel_rfl) (by simp) ?_
              refine AllReadyH.cons (o := _) rfl (fun K9 hK9 => ?_) AllReadyH.nil
              go_simp
              first | (obtain ⟨wn, hwx⟩ : ∃ x, x = (wz.alloc (.cells #[.int .i64 0, .slice none 0 0] 34)).drew := ⟨_, rfl⟩; rw [← hwx]) | (obtain ⟨wn, hwx⟩ : ∃ x, x = wz.alloc (.cells #[.int .i64 0, .slice none 0 0] 34) := ⟨_, rfl⟩; rw [← hwx])
              have hwn : wn.heap[wz.heap.size]? = some (.cells #[.int .i64 0, .slice none 0 0] 34 (0, 0)) := by rw [hwx]; exact heap_alloc_new _ _
              have hbn0 : Below wz.heap.size wz wn := by rw [hwx]; exact (by repeat (first | with_reducible exact Below.refl _ _ | (with_reducible refine Below.drew ?_) | (with_reducible refine below_drewN ?_ _) | (with_reducible refine Below.alloc ?_ ?_ _; rotate_left; (first | omega | (simp <;> omega))) | (with_reducible refine Below.setCell ?_ ?_ _; rotate_left; (first | omega | (simp <;> omega)))))
              clear hwx
              have hz7 : wq.heap.size ≤ wz.heap.size := hbz.size
              (try have hne := (ne_new h6).symm)
              obtain ⟨g7, hg⟩ : ∃ g, g = wz.heap.size := ⟨_, rfl⟩
              have h7 := hwn
              clear hwn
              rw [← hg] at h7 hz7 ⊢
              (try rw [← hg] at hne)
              clear hg
              have hbn : Below wz.heap.size wz wn := by first | exact hbn0 | exact ((Below.refl _ wz).drew).trans hbn0
              replace hbz := hbz.trans (hbn.mono hbz.size)
              (try replace ho1 := ho1.below hbn)
              (try replace ho3 := ho3.below hbn)
              (try replace h6 := blk_below h6 hbn)
              (try replace h7 := blk_below h7 hbn)
              clear hbn0 hbn
              obtain ⟨wz, rfl⟩ : ∃ x, x = wn := ⟨_, rfl⟩
              refine hK9.out _ _ (by intro b i; exact later hbz b) (fun hHn => ?_)
              clear hK9 K9 hHeld
              have hHeld := hHn
              clear hHn
              (try simp only [Act.put])
              have B6 := boxed h6
              have lzz : Later wz wz := Later.refl
              refine wpAnyH_ready (rs := [6]) (by kernel_rfl) (by simp) ?_
              refine AllReadyH.cons (o := _) rfl (fun K9 hK9 => ?_) AllReadyH.nil
              go_simp
              refine set2_named (P := K9 _) h6 ?_
              intro wn hwn hfar hbel hown
              replace ho1 := hown _ _ _ _ ho1
              replace ho3 := hown _ _ _ _ ho3
              replace hbz := hbel _ _ hbz hz6
              replace h7 := (hfar _ hne.symm).trans h7
              clear B6 lzz h6 hfar hbel hown
              obtain ⟨wz, rfl⟩ : ∃ x, x = wn := ⟨_, rfl⟩
              refine hK9.out _ _ (by intro b i; exact later hbz b) (fun hHn => ?_)
              clear hK9 K9 hHeld
              have hHeld := hHn
              clear hHn
              (try simp only [Act.put])
              have B7 := boxed h7
              have lzz : Later wz wz := Later.refl
              refine wpAnyH_ready (rs := [7]) (by kernel_rfl) (by simp) ?_
              refine AllReadyH.cons (o := _) rfl (fun K9 hK9 => ?_) AllReadyH.nil
              have h6 := hwn
              go_simp
              refine set2_named (P := K9 _) h7 ?_
              intro wn hwn hfar hbel hown
              replace ho1 := hown _ _ _ _ ho1
              replace ho3 := hown _ _ _ _ ho3
              replace hbz := hbel _ _ hbz hz7
              replace h6 := (hfar _ hne).trans h6
              clear B7 lzz h7 hfar hbel hown
              obtain ⟨wz, rfl⟩ : ∃ x, x = wn := ⟨_, rfl⟩
              refine hK9.out _ _ (by intro b i; exact later hbz b) (fun hHn => ?_)
              clear hK9 K9 hHeld
              have hHeld := hHn
              clear hHn
              (try simp only [Act.put])
              refine wpAnyH_done (by kernel_rfl) ?_ _
              go_wp2_with fail
              go_meet
              exact ⟨g6, g7, q, p, QA, Qc, PA, Pc, rfl, rfl, h6, hwn, hq, hp, ho1.sums, ho3.sums, hbz⟩
            · go_simp
              first | (obtain ⟨wn, hwx⟩ : ∃ x, x = (wz.alloc (.cells #[.int .i64 0, .slice none 0 0] 34)).drew := ⟨_, rfl⟩; rw [← hwx]) | (obtain ⟨wn, hwx⟩ : ∃ x, x = wz.alloc (.cells #[.int .i64 0, .slice none 0 0] 34) := ⟨_, rfl⟩; rw [← hwx])
              have hwn : wn.heap[wz.heap.size]? = some (.cells #[.int .i64 0, .slice none 0 0] 34 (0, 0)) := by rw [hwx]; exact heap_alloc_new _ _
              have hbn0 : Below wz.heap.size wz wn := by rw [hwx]; exact (by repeat (first | with_reducible exact Below.refl _ _ | (with_reducible refine Below.drew ?_) | (with_reducible refine below_drewN ?_ _) | (with_reducible refine Below.alloc ?_ ?_ _; rotate_left; (first | omega | (simp <;> omega))) | (with_reducible refine Below.setCell ?_ ?_ _; rotate_left; (first | omega | (simp <;> omega)))))
              clear hwx
              have hz7 : wq.heap.size ≤ wz.heap.size := hbz.size
              (try have hne := (ne_new h6).symm)
              obtain ⟨g7, hg⟩ : ∃ g, g = wz.heap.size := ⟨_, rfl⟩
              have h7 := hwn
              clear hwn
              rw [← hg] at h7 hz7 ⊢
              (try rw [← hg] at hne)
              clear hg
              have hbn : Below wz.heap.size wz wn := by first | exact hbn0 | exact ((Below.refl _ wz).drew).trans hbn0
              replace hbz := hbz.trans (hbn.mono hbz.size)
              (try replace ho1 := ho1.below hbn)
              (try replace ho3 := ho3.below hbn)
              (try replace h6 := blk_below h6 hbn)
              (try replace h7 := blk_below h7 hbn)
              clear hbn0 hbn
              obtain ⟨wz, rfl⟩ : ∃ x, x = wn := ⟨_, rfl⟩
              refine hK9.out _ _ (by intro b i; exact later hbz b) (fun hHn => ?_)
              clear hK9 K9 hHeld
              have hHeld := hHn
              clear hHn
              (try simp only [Act.put])
              refine wpAnyH_ready (rs := [3]) (by kernel_rfl) (by simp) ?_
              refine AllReadyH.cons (o := _) rfl (fun K9 hK9 => ?_) AllReadyH.nil
              go_simp
              refine (HS2 _ (by first | exact hbz | exact hbz.drew)).mono ?_
              rintro r wn ⟨p, PA, Pc, hp, rfl, ho3a, ho3b, hbn0⟩
              have ho3 := QOwn.mk (Nat.le_trans hbz.size (by first | exact Nat.le_refl _ | exact hbz.drew.size)) ho3a ho3b
              clear ho3a ho3b
              (try dsimp only)
              have hbn : Below wz.heap.size wz wn := by first | exact hbn0 | exact ((Below.refl _ wz).drew).trans hbn0
              replace hbz := hbz.trans (hbn.mono hbz.size)
              (try replace ho1 := ho1.below hbn)
              (try replace ho3 := ho3.below hbn)
              (try replace h6 := blk_below h6 hbn)
              (try replace h7 := blk_below h7 hbn)
              clear hbn0 hbn
              obtain ⟨wz, rfl⟩ : ∃ x, x = wn := ⟨_, rfl⟩
              refine hK9.out _ _ (by intro b i; exact later hbz b) (fun hHn => ?_)
              clear hK9 K9 hHeld
              have hHeld := hHn
              clear hHn
              (try simp only [Act.put])
              have B6 := boxed h6
              have lzz : Later wz wz := Later.refl
              refine wpAnyH_ready (rs := [6]) (by kernel_rfl) (by simp) ?_
              refine AllReadyH.cons (o := _) rfl (fun K9 hK9 => ?_) AllReadyH.nil
              go_simp
              refine set2_named (P := K9 _) h6 ?_
              intro wn hwn hfar hbel hown
              replace ho1 := hown _ _ _ _ ho1
              replace ho3 := hown _ _ _ _ ho3
              replace hbz := hbel _ _ hbz hz6
              replace h7 := (hfar _ hne.symm).trans h7
              clear B6 lzz h6 hfar hbel hown
              obtain ⟨wz, rfl⟩ : ∃ x, x = wn := ⟨_, rfl⟩
              refine hK9.out _ _ (by intro b i; exact later hbz b) (fun hHn => ?_)
              clear hK9 K9 hHeld
              have hHeld := hHn
              clear hHn
              (try simp only [Act.put])
              have B7 := boxed h7
              have lzz : Later wz wz := Later.refl
              refine wpAnyH_ready (rs := [7]) (by kernel_rfl) (by simp) ?_
              refine AllReadyH.cons (o := _) rfl (fun K9 hK9 => ?_) AllReadyH.nil
              have h6 := hwn
              go_simp
              refine set2_named (P := K9 _) h7 ?_
              intro wn hwn hfar hbel hown
              replace ho1 := hown _ _ _ _ ho1
              replace ho3 := hown _ _ _ _ ho3
              replace hbz := hbel _ _ hbz hz7
              replace h6 := (hfar _ hne).trans h6
              clear B7 lzz h7 hfar hbel hown
              obtain ⟨wz, rfl⟩ : ∃ x, x = wn := ⟨_, rfl⟩
              refine hK9.out _ _ (by intro b i; exact later hbz b) (fun hHn => ?_)
              clear hK9 K9 hHeld
              have hHeld := hHn
              clear hHn
              (try simp only [Act.put])
              refine wpAnyH_done (by kernel_rfl) ?_ _
              go_wp2_with fail
              go_meet
              exact ⟨g6, g7, q, p, QA, Qc, PA, Pc, rfl, rfl, h6, hwn, hq, hp, ho1.sums, ho3.sums, hbz⟩
          · go_simp
            first | (obtain ⟨wn, hwx⟩ : ∃ x, x = (wz.alloc (.cells #[.int .i64 0, .slice none 0 0] 34)).drew := ⟨_, rfl⟩; rw [← hwx]) | (obtain ⟨wn, hwx⟩ : ∃ x, x = wz.alloc (.cells #[.int .i64 0, .slice none 0 0] 34) := ⟨_, rfl⟩; rw [← hwx])
            have hwn : wn.heap[wz.heap.size]? = some (.cells #[.int .i64 0, .slice none 0 0] 34 (0, 0)) := by rw [hwx]; exact heap_alloc_new _ _
            have hbn0 : Below wz.heap.size wz wn := by rw [hwx]; exact (by repeat (first | with_reducible exact Below.refl _ _ | (with_reducible refine Below.drew ?_) | (with_reducible refine below_drewN ?_ _) | (with_reducible refine Below.alloc ?_ ?_ _; rotate_left; (first | omega | (simp <;> omega))) | (with_reducible refine Below.setCell ?_ ?_ _; rotate_left; (first | omega | (simp <;> omega)))))
            clear hwx
            have hz7 : wq.heap.size ≤ wz.heap.size := hbz.size
            (try have hne := (ne_new h6).symm)
            obtain ⟨g7, hg⟩ : ∃ g, g = wz.heap.size := ⟨_, rfl⟩
            have h7 := hwn
            clear hwn
            rw [← hg] at h7 hz7 ⊢
            (try rw [← hg] at hne)
            clear hg
            have hbn : Below wz.heap.size wz wn := by first | exact hbn0 | exact ((Below.refl _ wz).drew).trans hbn0
            replace hbz := hbz.trans (hbn.mono hbz.size)
            (try replace ho1 := ho1.below hbn)
            (try replace ho3 := ho3.below hbn)
            (try replace h6 := blk_below h6 hbn)
            (try replace h7 := blk_below h7 hbn)
            clear hbn0 hbn
            obtain ⟨wz, rfl⟩ : ∃ x, x = wn := ⟨_, rfl⟩
            refine hK9.out _ _ (by intro b i; exact later hbz b) (fun hHn => ?_)
            clear hK9 K9 hHeld
            have hHeld := hHn
            clear hHn
            (try simp only [Act.put])
            refine wpAnyH_ready (rs := [1]) (by kernel_rfl) (by simp) ?_
            refine AllReadyH.cons (o := _) rfl (fun K9 hK9 => ?_) AllReadyH.nil
            go_simp
            refine (HS1 _ (by first | exact hbz | exact hbz.drew)).mono ?_
            rintro r wn ⟨q, QA, Qc, hq, rfl, ho1a, ho1b, hbn0⟩
            have ho1 := QOwn.mk (Nat.le_trans hbz.size (by first | exact Nat.le_refl _ | exact hbz.drew.size)) ho1a ho1b
            clear ho1a ho1b
            (try dsimp only)
            have hbn : Below wz.heap.size wz wn := by first | exact hbn0 | exact ((Below.refl _ wz).drew).trans hbn0
            replace hbz := hbz.trans (hbn.mono hbz.size)
            (try replace ho1 := ho1.below hbn)
            (try replace ho3 := ho3.below hbn)
            (try replace h6 := blk_below h6 hbn)
            (try replace h7 := blk_below h7 hbn)
            clear hbn0 hbn
            obtain ⟨wz, rfl⟩ : ∃ x, x = wn := ⟨_, rfl⟩
            refine hK9.out _ _ (by intro b i; exact later hbz b) (fun hHn => ?_)
            clear hK9 K9 hHeld
            have hHeld := hHn
            clear hHn
            (try simp only [Act.put])
            refine wpAnyH_ready (rs := [3]) (by kernel_rfl) (by simp) ?_
            refine AllReadyH.cons (o := _) rfl (fun K9 hK9 => ?_) AllReadyH.nil
            go_simp
            refine (HS2 _ (by first | exact hbz | exact hbz.drew)).mono ?_
            rintro r wn ⟨p, PA, Pc, hp, rfl, ho3a, ho3b, hbn0⟩
            have ho3 := QOwn.mk (Nat.le_trans hbz.size (by first | exact Nat.le_refl _ | exact hbz.drew.size)) ho3a ho3b
            clear ho3a ho3b
            (try dsimp only)
            have hbn : Below wz.heap.size wz wn := by first | exact hbn0 | exact ((Below.refl _ wz).drew).trans hbn0
            replace hbz := hbz.trans (hbn.mono hbz.size)
            (try replace ho1 := ho1.below hbn)
            (try replace ho3 := ho3.below hbn)
            (try replace h6 := blk_below h6 hbn)
            (try replace h7 := blk_below h7 hbn)
            clear hbn0 hbn
            obtain ⟨wz, rfl⟩ : ∃ x, x = wn := ⟨_, rfl⟩
            refine hK9.out _ _ (by intro b i; exact later hbz b) (fun hHn => ?_)
            clear hK9 K9 hHeld
            have hHeld := hHn
            clear hHn
            (try simp only [Act.put])
            have B6 := boxed h6
            have lzz : Later wz wz := Later.refl
            refine wpAnyH_ready (rs := [6]) (by kernel_rfl) (by simp) ?_
            refine AllReadyH.cons (o := _) rfl (fun K9 hK9 => ?_) AllReadyH.nil
            go_simp
            refine set2_named (P := K9 _) h6 ?_
            intro wn hwn hfar hbel hown
            replace ho1 := hown _ _ _ _ ho1
            replace ho3 := hown _ _ _ _ ho3
            replace hbz := hbel _ _ hbz hz6
            replace h7 := (hfar _ hne.symm).trans h7
            clear B6 lzz h6 hfar hbel hown
            obtain ⟨wz, rfl⟩ : ∃ x, x = wn := ⟨_, rfl⟩
            refine hK9.out _ _ (by intro b i; exact later hbz b) (fun hHn => ?_)
            clear hK9 K9 hHeld
            have hHeld := hHn
            clear hHn
            (try simp only [Act.put])
            have B7 := boxed h7
            have lzz : Later wz wz := Later.refl
            refine wpAnyH_ready (rs := [7]) (by kernel_rfl) (by simp) ?_
            refine AllReadyH.cons (o := _) rfl (fun K9 hK9 => ?_) AllReadyH.nil
            have h6 := hwn
            go_simp
            refine set2_named (P := K9 _) h7 ?_
            intro wn hwn hfar hbel hown
            replace ho1 := hown _ _ _ _ ho1
            replace ho3 := hown _ _ _ _ ho3
            replace hbz := hbel _ _ hbz hz7
            replace h6 := (hfar _ hne).trans h6
            clear B7 lzz h7 hfar hbel hown
            obtain ⟨wz, rfl⟩ : ∃ x, x = wn := ⟨_, rfl⟩
            refine hK9.out _ _ (by intro b i; exact later hbz b) (fun hHn => ?_)
            clear hK9 K9 hHeld
            have hHeld := hHn
            clear hHn
            (try simp only [Act.put])
            refine wpAnyH_done (by kernel_rfl) ?_ _
            go_wp2_with fail
            go_meet
            exact ⟨g6, g7, q, p, QA, Qc, PA, Pc, rfl, rfl, h6, hwn, hq, hp, ho1.sums, ho3.sums, hbz⟩
        · as_aux_lemma =>
          go_simp
          first | (obtain ⟨wn, hwx⟩ : ∃ x, x = (wz.alloc (.cells #[.int .i64 0, .slice none 0 0] 34)).drew := ⟨_, rfl⟩; rw [← hwx]) | (obtain ⟨wn, hwx⟩ : ∃ x, x = wz.alloc (.cells #[.int .i64 0, .slice none 0 0] 34) := ⟨_, rfl⟩; rw [← hwx])
          have hwn : wn.heap[wz.heap.size]? = some (.cells #[.int .i64 0, .slice none 0 0] 34 (0, 0)) := by rw [hwx]; exact heap_alloc_new _ _
          have hbn0 : Below wz.heap.size wz wn := by rw [hwx]; exact (by repeat (first | with_reducible exact Below.refl _ _ | (with_reducible refine Below.drew ?_) | (with_reducible refine below_drewN ?_ _) | (with_reducible refine Below.alloc ?_ ?_ _; rotate_left; (first | omega | (simp <;> omega))) | (with_reducible refine Below.setCell ?_ ?_ _; rotate_left; (first | omega | (simp <;> omega)))))
          clear hwx
          have hz7 : wq.heap.size ≤ wz.heap.size := hbz.size
          (try have hne := (ne_new h6).symm)
          obtain ⟨g7, hg⟩ : ∃ g, g = wz.heap.size := ⟨_, rfl⟩
          have h7 := hwn
          clear hwn
          rw [← hg] at h7 hz7 ⊢
          (try rw [← hg] at hne)
          clear hg
          have hbn : Below wz.heap.size wz wn := by first | exact hbn0 | exact ((Below.refl _ wz).drew).trans hbn0
          replace hbz := hbz.trans (hbn.mono hbz.size)
          (try replace ho1 := ho1.below hbn)
          (try replace ho3 := ho3.below hbn)
          (try replace h6 := blk_below h6 hbn)
          (try replace h7 := blk_below h7 hbn)
          clear hbn0 hbn
          obtain ⟨wz, rfl⟩ : ∃ x, x = wn := ⟨_, rfl⟩
          refine hK9.out _ _ (by intro b i; exact later hbz b) (fun hHn => ?_)
          clear hK9 K9 hHeld
          have hHeld := hHn
          clear hHn
          (try simp only [Act.put])
          refine wpAnyH_ready (rs := [1, 4]) (by kernel_rfl) (by simp) ?_
          refine AllReadyH.cons (o := _) rfl (fun K9 hK9 => ?_) (AllReadyH.cons (o := _) rfl (fun K9 hK9 => ?_) (AllReadyH.nil))
          · go_simp
            refine (HS1 _ (by first | exact hbz | exact hbz.drew)).mono ?_
            rintro r wn ⟨q, QA, Qc, hq, rfl, ho1a, ho1b, hbn0⟩
            have ho1 := QOwn.mk (Nat.le_trans hbz.size (by first | exact Nat.le_refl _ | exact hbz.drew.size)) ho1a ho1b
            clear ho1a ho1b
            (try dsimp only)
            have hbn : Below wz.heap.size wz wn := by first | exact hbn0 | exact ((Below.refl _ wz).drew).trans hbn0
            replace hbz := hbz.trans (hbn.mono hbz.size)
            (try replace ho1 := ho1.below hbn)
            (try replace ho3 := ho3.below hbn)
            (try replace h6 := blk_below h6 hbn)
            (try replace h7 := blk_below h7 hbn)
            clear hbn0 hbn
            obtain ⟨wz, rfl⟩ : ∃ x, x = wn := ⟨_, rfl⟩
            refine hK9.out _ _ (by intro b i; exact later hbz b) (fun hHn => ?_)
            clear hK9 K9 hHeld
            have hHeld := hHn
            clear hHn
            (try simp only [Act.put])
            refine wpAnyH_ready (rs := [3, 4]) (by kernel_rfl) (by simp) ?_
            refine AllReadyH.cons (o := _) rfl (fun K9 hK9 => ?_) (AllReadyH.cons (o := _) rfl (fun K9 hK9 => ?_) (AllReadyH.nil))
            · go_simp
              refine (HS2 _ (by first | exact hbz | exact hbz.drew)).mono ?_
              rintro r wn ⟨p, PA, Pc, hp, rfl, ho3a, ho3b, hbn0⟩
              have ho3 := QOwn.mk (Nat.le_trans hbz.size (by first | exact Nat.le_refl _ | exact hbz.drew.size)) ho3a ho3b
              clear ho3a ho3b
              (try dsimp only)
              have hbn : Below wz.heap.size wz wn := by first | exact hbn0 | exact ((Below.refl _ wz).drew).trans hbn0
              replace hbz := hbz.trans (hbn.mono hbz.size)
              (try replace ho1 := ho1.below hbn)
              (try replace ho3 := ho3.below hbn)
              (try replace h6 := blk_below h6 hbn)
              (try replace h7 := blk_below h7 hbn)
              clear hbn0 hbn
              obtain ⟨wz, rfl⟩ : ∃ x, x = wn := ⟨_, rfl⟩
              refine hK9.out _ _ (by intro b i; exact later hbz b) (fun hHn => ?_)
              clear hK9 K9 hHeld
              have hHeld := hHn
              clear hHn
              (try simp only [Act.put])
              refine wpAnyH_ready (rs := [4]) (by kernel_rfl) (by simp) ?_
              refine AllReadyH.cons (o := _) rfl (fun K9 hK9 => ?_) AllReadyH.nil
              go_simp
              first | (obtain ⟨wn, hwx⟩ : ∃ x, x = (wz.alloc (.cells #[.int .i64 0, .slice none 0 0] 34)).drew := ⟨_, rfl⟩; rw [← hwx]) | (obtain ⟨wn, hwx⟩ : ∃ x, x = wz.alloc (.cells #[.int .i64 0, .slice none 0 0] 34) := ⟨_, rfl⟩; rw [← hwx])
              have hwn : wn.heap[wz.heap.size]? = some (.cells #[.int .i64 0, .slice none 0 0] 34 (0, 0)) := by rw [hwx]; exact heap_alloc_new _ _
              have hbn0 : Below wz.heap.size wz wn := by rw [hwx]; exact (by repeat (first | with_reducible exact Below.refl _ _ | (with_reducible refine Below.drew ?_) | (with_reducible refine below_drewN ?_ _) | (with_reducible refine Below.alloc ?_ ?_ _; rotate_left; (first | omega | (simp <;> omega))) | (with_reducible refine Below.setCell ?_ ?_ _; rotate_left; (first | omega | (simp <;> omega)))))
              clear hwx
              have hz6 : wq.heap.size ≤ wz.heap.size := hbz.size
              (try have hne := ne_new h7)
              obtain ⟨g6, hg⟩ : ∃ g, g = wz.heap.size := ⟨_, rfl⟩
              have h6 := hwn
              clear hwn
              rw [← hg] at h6 hz6 ⊢
              (try rw [← hg] at hne)
              clear hg
              have hbn : Below wz.heap.size wz wn := by first | exact hbn0 | exact ((Below.refl _ wz).drew).trans hbn0
              replace hbz := hbz.trans (hbn.mono hbz.size)
              (try replace ho1 := ho1.below hbn)
              (try replace ho3 := ho3.below hbn)
              (try replace h6 := blk_below h6 hbn)
              (try replace h7 := blk_below h7 hbn)
              clear hbn0 hbn
              obtain ⟨wz, rfl⟩ : ∃ x, x = wn := ⟨_, rfl⟩
              refine hK9.out _ _ (by intro b i; exact later hbz b) (fun hHn => ?_)
              clear hK9 K9 hHeld
              have hHeld := hHn
              clear hHn
              (try simp only [Act.put])
              have B6 := boxed h6
              have lzz : Later wz wz := Later.refl
              refine wpAnyH_ready (rs := [6]) (by kernel_rfl) (by simp) ?_
              refine AllReadyH.cons (o := _) rfl (fun K9 hK9 => ?_) AllReadyH.nil
              go_simp
              refine set2_named (P := K9 _) h6 ?_
              intro wn hwn hfar hbel hown
              replace ho1 := hown _ _ _ _ ho1
              replace ho3 := hown _ _ _ _ ho3
              replace hbz := hbel _ _ hbz hz6
              replace h7 := (hfar _ hne.symm).trans h7
              clear B6 lzz h6 hfar hbel hown
              obtain ⟨wz, rfl⟩ : ∃ x, x = wn := ⟨_, rfl⟩
              refine hK9.out _ _ (by intro b i; exact later hbz b) (fun hHn => ?_)
              clear hK9 K9 hHeld
              have hHeld := hHn
              clear hHn
              (try simp only [Act.put])
              have B7 := boxed h7
              have lzz : Later wz wz := Later.refl
              refine wpAnyH_ready (rs := [7]) (by kernel_rfl) (by simp) ?_
              refine AllReadyH.cons (o := _) rfl (fun K9 hK9 => ?_) AllReadyH.nil
              have h6 := hwn
              go_simp
              refine set2_named (P := K9 _) h7 ?_
              intro wn hwn hfar hbel hown
              replace ho1 := hown _ _ _ _ ho1
              replace ho3 := hown _ _ _ _ ho3
              replace hbz := hbel _ _ hbz hz7
              replace h6 := (hfar _ hne).trans h6
              clear B7 lzz h7 hfar hbel hown
              obtain ⟨wz, rfl⟩ : ∃ x, x = wn := ⟨_, rfl⟩
              refine hK9.out _ _ (by intro b i; exact later hbz b) (fun hHn => ?_)
              clear hK9 K9 hHeld
              have hHeld := hHn
              clear hHn
              (try simp only [Act.put])
              refine wpAnyH_done (by kernel_rfl) ?_ _
              go_wp2_with fail
              go_meet
              exact ⟨g6, g7, q, p, QA, Qc, PA, Pc, rfl, rfl, h6, hwn, hq, hp, ho1.sums, ho3.sums, hbz⟩
            · go_simp
              first | (obtain ⟨wn, hwx⟩ : ∃ x, x = (wz.alloc (.cells #[.int .i64 0, .slice none 0 0] 34)).drew := ⟨_, rfl⟩; rw [← hwx]) | (obtain ⟨wn, hwx⟩ : ∃ x, x = wz.alloc (.cells #[.int .i64 0, .slice none 0 0] 34) := ⟨_, rfl⟩; rw [← hwx])
              have hwn : wn.heap[wz.heap.size]? = some (.cells #[.int .i64 0, .slice none 0 0] 34 (0, 0)) := by rw [hwx]; exact heap_alloc_new _ _
              have hbn0 : Below wz.heap.size wz wn := by rw [hwx]; exact (by repeat (first | with_reducible exact Below.refl _ _ | (with_reducible refine Below.drew ?_) | (with_reducible refine below_drewN ?_ _) | (with_reducible refine Below.alloc ?_ ?_ _; rotate_left; (first | omega | (simp <;> omega))) | (with_reducible refine Below.setCell ?_ ?_ _; rotate_left; (first | omega | (simp <;> omega)))))
              clear hwx
              have hz6 : wq.heap.size ≤ wz.heap.size := hbz.size
              (try have hne := ne_new h7)
              obtain ⟨g6, hg⟩ : ∃ g, g = wz.heap.size := ⟨_, rfl⟩
              have h6 := hwn
              clear hwn
              rw [← hg] at h6 hz6 ⊢
              (try rw [← hg] at hne)
              clear hg
              have hbn : Below wz.heap.size wz wn := by first | exact hbn0 | exact ((Below.refl _ wz).drew).trans hbn0
              replace hbz := hbz.trans (hbn.mono hbz.size)
              (try replace ho1 := ho1.below hbn)
              (try replace ho3 := ho3.below hbn)
              (try replace h6 := blk_below h6 hbn)
              (try replace h7 := blk_below h7 hbn)
              clear hbn0 hbn
              obtain ⟨wz, rfl⟩ : ∃ x, x = wn := ⟨_, rfl⟩
              refine hK9.out _ _ (by intro b i; exact later hbz b) (fun hHn => ?_)
              clear hK9 K9 hHeld
              have hHeld := hHn
              clear hHn
              (try simp only [Act.put])
              refine wpAnyH_ready (rs := [3]) (by kernel_rfl) (by simp) ?_
              refine AllReadyH.cons (o := _) rfl (fun K9 hK9 => ?_) AllReadyH.nil
              go_simp
              refine (HS2 _ (by first | exact hbz | exact hbz.drew)).mono ?_
              rintro r wn ⟨p, PA, Pc, hp, rfl, ho3a, ho3b, hbn0⟩
              have ho3 := QOwn.mk (Nat.le_trans hbz.size (by first | exact Nat.le_refl _ | exact hbz.drew.size)) ho3a ho3b
              clear ho3a ho3b
              (try dsimp only)
              have hbn : Below wz.heap.size wz wn := by first | exact hbn0 | exact ((Below.refl _ wz).drew).trans hbn0
              replace hbz := hbz.trans (hbn.mono hbz.size)
              (try replace ho1 := ho1.below hbn)
              (try replace ho3 := ho3.below hbn)
              (try replace h6 := blk_below h6 hbn)
              (try replace h7 := blk_below h7 hbn)
              clear hbn0 hbn
              obtain ⟨wz, rfl⟩ : ∃ x, x = wn := ⟨_, rfl⟩
              refine hK9.out _ _ (by intro b i; exact later hbz b) (fun hHn => ?_)
              clear hK9 K9 hHeld
              have hHeld := hHn
              clear hHn
              (try simp only [Act.put])
              have B6 := boxed h6
              have lzz : Later wz wz := Later.refl
              refine wpAnyH_ready (rs := [6]) (by kernel_rfl) (by simp) ?_
              refine AllReadyH.cons (o := _) rfl (fun K9 hK9 => ?_) AllReadyH.nil
              go_simp
              refine set2_named (P := K9 _) h6 ?_
              intro wn hwn hfar hbel hown
              replace ho1 := hown _ _ _ _ ho1
              replace ho3 := hown _ _ _ _ ho3
              replace hbz := hbel _ _ hbz hz6
              replace h7 := (hfar _ hne.symm).trans h7
              clear B6 lzz h6 hfar hbel hown
              obtain ⟨wz, rfl⟩ : ∃ x, x = wn := ⟨_, rfl⟩
              refine hK9.out _ _ (by intro b i; exact later hbz b) (fun hHn => ?_)
              clear hK9 K9 hHeld
              have hHeld := hHn
              clear hHn
              (try simp only [Act.put])
              have B7 := boxed h7
              have lzz : Later wz wz := Later.refl
              refine wpAnyH_ready (rs := [7]) (by kernel_rfl) (by simp) ?_
              refine AllReadyH.cons (o := _) rfl (fun K9 hK9 => ?_) AllReadyH.nil
              have h6 := hwn
              go_simp
              refine set2_named (P := K9 _) h7 ?_
              intro wn hwn hfar hbel hown
              replace ho1 := hown _ _ _ _ ho1
              replace ho3 := hown _ _ _ _ ho3
              replace hbz := hbel _ _ hbz hz7
              replace h6 := (hfar _ hne).trans h6
              clear B7 lzz h7 hfar hbel hown
              obtain ⟨wz, rfl⟩ : ∃ x, x = wn := ⟨_, rfl⟩
              refine hK9.out _ _ (by intro b i; exact later hbz b) (fun hHn => ?_)
              clear hK9 K9 hHeld
              have hHeld := hHn
              clear hHn
              (try simp only [Act.put])
              refine wpAnyH_done (by kernel_rfl) ?_ _
              go_wp2_with fail
              go_meet
              exact ⟨g6, g7, q, p, QA, Qc, PA, Pc, rfl, rfl, h6, hwn, hq, hp, ho1.sums, ho3.sums, hbz⟩
          · go_simp
            first | (obtain ⟨wn, hwx⟩ : ∃ x, x = (wz.alloc (.cells #[.int .i64 0, .slice none 0 0] 34)).drew := ⟨_, rfl⟩; rw [← hwx]) | (obtain ⟨wn, hwx⟩ : ∃ x, x = wz.alloc (.cells #[.int .i64 0, .slice none 0 0] 34) := ⟨_, rfl⟩; rw [← hwx])
            have hwn : wn.heap[wz.heap.size]? = some (.cells #[.int .i64 0, .slice none 0 0] 34 (0, 0)) := by rw [hwx]; exact heap_alloc_new _ _
            have hbn0 : Below wz.heap.size wz wn := by rw [hwx]; exact (by repeat (first | with_reducible exact Below.refl _ _ | (with_reducible refine Below.drew ?_) | (with_reducible refine below_drewN ?_ _) | (with_reducible refine Below.alloc ?_ ?_ _; rotate_left; (first | omega | (simp <;> omega))) | (with_reducible refine Below.setCell ?_ ?_ _; rotate_left; (first | omega | (simp <;> omega)))))
            clear hwx
            have hz6 : wq.heap.size ≤ wz.heap.size := hbz.size
            (try have hne := ne_new h7)
            obtain ⟨g6, hg⟩ : ∃ g, g = wz.heap.size := ⟨_, rfl⟩
            have h6 := hwn
            clear hwn
            rw [← hg] at h6 hz6 ⊢
            (try rw [← hg] at hne)
            clear hg
            have hbn : Below wz.heap.size wz wn := by first | exact hbn0 | exact ((Below.refl _ wz).drew).trans hbn0
            replace hbz := hbz.trans (hbn.mono hbz.size)
            (try replace ho1 := ho1.below hbn)
            (try replace ho3 := ho3.below hbn)
            (try replace h6 := blk_below h6 hbn)
            (try replace h7 := blk_below h7 hbn)
            clear hbn0 hbn
            obtain ⟨wz, rfl⟩ : ∃ x, x = wn := ⟨_, rfl⟩
            refine hK9.out _ _ (by intro b i; exact later hbz b) (fun hHn => ?_)
            clear hK9 K9 hHeld
            have hHeld := hHn
            clear hHn
            (try simp only [Act.put])
            refine wpAnyH_ready (rs := [1]) (by kernel_rfl) (by simp) ?_
            refine AllReadyH.cons (o := _) rfl (fun K9 hK9 => ?_) AllReadyH.nil
            go_simp
            refine (HS1 _ (by first | exact hbz | exact hbz.drew)).mono ?_
            rintro r wn ⟨q, QA, Qc, hq, rfl, ho1a, ho1b, hbn0⟩
            have ho1 := QOwn.mk (Nat.le_trans hbz.size (by first | exact Nat.le_refl _ | exact hbz.drew.size)) ho1a ho1b
            clear ho1a ho1b
            (try dsimp only)
            have hbn : Below wz.heap.size wz wn := by first | exact hbn0 | exact ((Below.refl _ wz).drew).trans hbn0
            replace hbz := hbz.trans (hbn.mono hbz.size)
            (try replace ho1 := ho1.below hbn)
            (try replace ho3 := ho3.below hbn)
            (try replace h6 := blk_below h6 hbn)
            (try replace h7 := blk_below h7 hbn)
            clear hbn0 hbn
            obtain ⟨wz, rfl⟩ : ∃ x, x = wn := ⟨_, rfl⟩
            refine hK9.out _ _ (by intro b i; exact later hbz b) (fun hHn => ?_)
            clear hK9 K9 hHeld
            have hHeld := hHn
            clear hHn
            (try simp only [Act.put])
            refine wpAnyH_ready (rs := [3]) (by kernel_rfl) (by simp) ?_
            refine AllReadyH.cons (o := _) rfl (fun K9 hK9 => ?_) AllReadyH.nil
            go_simp
            refine (HS2 _ (by first | exact hbz | exact hbz.drew)).mono ?_
            rintro r wn ⟨p, PA, Pc, hp, rfl, ho3a, ho3b, hbn0⟩
            have ho3 := QOwn.mk (Nat.le_trans hbz.size (by first | exact Nat.le_refl _ | exact hbz.drew.size)) ho3a ho3b
            clear ho3a ho3b
            (try dsimp only)
            have hbn : Below wz.heap.size wz wn := by first | exact hbn0 | exact ((Below.refl _ wz).drew).trans hbn0
            replace hbz := hbz.trans (hbn.mono hbz.size)
            (try replace ho1 := ho1.below hbn)
            (try replace ho3 := ho3.below hbn)
            (try replace h6 := blk_below h6 hbn)
            (try replace h7 := blk_below h7 hbn)
            clear hbn0 hbn
            obtain ⟨wz, rfl⟩ : ∃ x, x = wn := ⟨_, rfl⟩
            refine hK9.out _ _ (by intro b i; exact later hbz b) (fun hHn => ?_)
            clear hK9 K9 hHeld
            have hHeld := hHn
            clear hHn
            (try simp only [Act.put])
            have B6 := boxed h6
            have lzz : Later wz wz := Later.refl
            refine wpAnyH_ready (rs := [6]) (by kernel_rfl) (by simp) ?_
            refine AllReadyH.cons (o := _) rfl (fun K9 hK9 => ?_) AllReadyH.nil
            go_simp
            refine set2_named (P := K9 _) h6 ?_
            intro wn hwn hfar hbel hown
            replace ho1 := hown _ _ _ _ ho1
            replace ho3 := hown _ _ _ _ ho3
            replace hbz := hbel _ _ hbz hz6
            replace h7 := (hfar _ hne.symm).trans h7
            clear B6 lzz h6 hfar hbel hown
            obtain ⟨wz, rfl⟩ : ∃ x, x = wn := ⟨_, rfl⟩
            refine hK9.out _ _ (by intro b i; exact later hbz b) (fun hHn => ?_)
            clear hK9 K9 hHeld
            have hHeld := hHn
            clear hHn
            (try simp only [Act.put])
            have B7 := boxed h7
            have lzz : Later wz wz := Later.refl
            refine wpAnyH_ready (rs := [7]) (by kernel_rfl) (by simp) ?_
            refine AllReadyH.cons (o := _) rfl (fun K9 hK9 => ?_) AllReadyH.nil
            have h6 := hwn
            go_simp
            refine set2_named (P := K9 _) h7 ?_
            intro wn hwn hfar hbel hown
            replace ho1 := hown _ _ _ _ ho1
            replace ho3 := hown _ _ _ _ ho3
            replace hbz := hbel _ _ hbz hz7
            replace h6 := (hfar _ hne).trans h6
            clear B7 lzz h7 hfar hbel hown
            obtain ⟨wz, rfl⟩ : ∃ x, x = wn := ⟨_, rfl⟩
            refine hK9.out _ _ (by intro b i; exact later hbz b) (fun hHn => ?_)
            clear hK9 K9 hHeld
            have hHeld := hHn
            clear hHn
            (try simp only [Act.put])
            refine wpAnyH_done (by kernel_rfl) ?_ _
            go_wp2_with fail
            go_meet
            exact ⟨g6, g7, q, p, QA, Qc, PA, Pc, rfl, rfl, h6, hwn, hq, hp, ho1.sums, ho3.sums, hbz⟩
      case rest =>
        obtain ⟨g6, g7, q, p, QA, Qc, PA, Pc, rfl, rfl, h6, h7, hq, hp, hsq, hsp, hbc⟩ := hcut
        have lc := later hbc
        have B6 := boxed h6
        have B7 := boxed h7
        have lcc : Later wc wc := Later.refl
        have hqq : q.length = p.length := (sumL_len hq.out).trans (sumL_len hp.out).symm
        have hqle : p.length ≤ 100 := by rw [sumL_len hp.out]; exact Nat.le_trans (filter_le es) hel
        have Hqq := hide hqq
        rw [hqq] at B6
        clear hqq HS1 HS2 h6 h7
        have Q1 := hsq.later
        have Q2 := hsp.later
        have lwc : Later w wc := ⟨lwr.below.trans (hbc.mono lwr.below.size)⟩
        go_wp2_with fail
        go_loopw [62] (fun iv wr => ∃ k : Nat, k ≤ p.length ∧ iv = .int .i64 k ∧ Below wc.heap.size wc wr) (fun iv _ => p.length - (intOf iv).toNat)
        case atStart => exact ⟨0, by omega, rfl, Below.refl _ _⟩
        case round =>
          obtain ⟨k, hk, rfl, hbr⟩ := hrel
          have lr := later hbr
          by_cases hlt : k < p.length
          · have hki : (k : Int) < (p.length : Int) := by omega
            obtain ⟨b1, o1, x, rfl, hx, C1, F1, hx1, hx2⟩ := (Q1 wr).get (by rw [Hqq.out]; exact hlt)
            obtain ⟨b2, o2, y, rfl, hy, C2, F2, hy1, hy2⟩ := (Q2 wr).get hlt
            obtain ⟨hxy, hx0, hx3⟩ := grown_pair hq.out hp.out Hup.out Hall.out hx hy
            have hil : x.inset.length ≤ 1000000000 := sumL_ins hq.out hx hkl
            have hjl : y.inset.length ≤ 1000000000 := by
              have := congrArg SumC.inset hxy
              rw [show y.inset = y.con.inset from rfl, this]; exact hil
            obtain ⟨xo, xn, xr, xd, xA, xc, xi⟩ := x
            dsimp only at C1 F1 hx1 hx2 hx0 hx3 hil
            have hwr : IntKind.i64.wrap (xd + 1) = xd + 1 := by rw [IntKind.wrap_i64]; omega
            have Hxy := hide hxy
            clear hx hy hxy
            cases xr
            · have HSm : ∀ u [Later wr u], Calls Try.prog 16 #[.agg #[.int .i64 xo, .int .u64 xn, .bool false, .int .i64 (min (xd + 1) 1048576), .slice xA xi.length xc], y.v] u fun r w' => r = .returned (.bool true) ∧ Below u.heap.size u w' := fun u i => by
                have h := same31_any ⟨xo, xn, false, min (xd + 1) 1048576, xA, xc, xi⟩ y u (F1 u) (F2 u) hil hjl
                rwa [decide_eq_true (show SumE.con ⟨xo, xn, false, min (xd + 1) 1048576, xA, xc, xi⟩ = y.con from Hxy.out.symm)] at h
              dsimp only [SumE.v] at HSm
              go_upto_region 19 with fail
              refine wp_name ?_
              intro w14 hw14
              obtain ⟨B9, l14⟩ := box1 hw14
              clear hw14
              go_upto_region 21 with fail
              refine wp_name ?_
              intro w15 hw15
              have B15 := boxed_set B9 hw15
              have l15 := later_put (W := wr) (Nat.le_refl _) hw15
              simp at B15
              clear B9 hw15
              have l1515 : Later w15 w15 := Later.refl
              (refine wp_region_after (by kernel_rfl) (by kernel_rfl) ?_
               repeat (any_goals (first | go_big_quiet_skip | (go_big_quiet_want; go_big_quiet_op; first | go_big_quiet_on | go_big_quiet_call ((go_at_call 16; exact Calls.after (HSm _)))) | quiet_step ((go_at_call 16; exact Calls.after (HSm _))) | (refine wpQuiet_step (fun K hK => ?_); go_simp; split <;> (refine hK _ ?_; clear hK K))))
               all_goals (refine wpQuiet_nil ?_; intro _ hw'; obtain ⟨u', hw''⟩ := hw'; subst hw''; obtain ⟨wd, hbd⟩ := u'; simp only [After.val_mk]))
              have ld := later hbd
              go_wp2_with fail
              go_roundw
              case rel => exact ⟨k + 1, by omega, by go_num, below_of⟩
              case measure => simp [intOf]; omega
            · have HSm : ∀ u [Later wr u], Calls Try.prog 16 #[.agg #[.int .i64 xo, .int .u64 xn, .bool true, .int .i64 xd, .slice xA xi.length xc], y.v] u fun r w' => r = .returned (.bool true) ∧ Below u.heap.size u w' := fun u i => by
                have h := same31_any ⟨xo, xn, true, xd, xA, xc, xi⟩ y u (F1 u) (F2 u) hil hjl
                rwa [decide_eq_true (show SumE.con ⟨xo, xn, true, xd, xA, xc, xi⟩ = y.con from Hxy.out.symm)] at h
              dsimp only [SumE.v] at HSm
              go_upto_region 19 with fail
              refine wp_name ?_
              intro w14 hw14
              obtain ⟨B9, l14⟩ := box1 hw14
              clear hw14
              have l1414 : Later w14 w14 := Later.refl
              go_upto_region 21 with fail
              (refine wp_region_after (by kernel_rfl) (by kernel_rfl) ?_
               repeat (any_goals (first | go_big_quiet_skip | (go_big_quiet_want; go_big_quiet_op; first | go_big_quiet_on | go_big_quiet_call ((go_at_call 16; exact Calls.after (HSm _)))) | quiet_step ((go_at_call 16; exact Calls.after (HSm _))) | (refine wpQuiet_step (fun K hK => ?_); go_simp; split <;> (refine hK _ ?_; clear hK K))))
               all_goals (refine wpQuiet_nil ?_; intro _ hw'; obtain ⟨u', hw''⟩ := hw'; subst hw''; obtain ⟨wd, hbd⟩ := u'; simp only [After.val_mk]))
              have ld := later hbd
              go_wp2_with fail
              go_roundw
              case rel => exact ⟨k + 1, by omega, by go_num, below_of⟩
              case measure => simp [intOf]; omega
          · have hkk : k = p.length := by omega
            subst hkk
            go_wp2_with (go_at_call 15; refine (awake_any _).mono ?_; rintro r w9 ⟨rfl, hb9⟩; have l9 := later hb9)
            go_ret
            exact ⟨rfl, below_of⟩
end Go.Proofs.Ytomgdkfoinojiaa
