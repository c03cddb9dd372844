/-
  Contracts of the functions of this seat that each theorem names: what a call returns, and that it writes nothing that was there before. The conditions stand in each theorem.
-/
import Derived.Test.YtomgdkfoinojiaaS32ValPlain
namespace Go.Proofs.Ytomgdkfoinojiaa
open Go.RowKit
attribute [local simp] heap_drew
set_option maxRecDepth 100000 in
set_option maxHeartbeats 16000000 in
theorem lawValid_any (A : Option Addr) (c : Nat) (l : List NodeE) (RA : Option Addr) (rc : Nat) (roots : List IDE) (KA : Option Addr) (kc : Nat) (ks : List ScionE) (EA : Option Addr) (ec : Nat) (es : List StubE) (ep : Int) (w : World)
    (H : NodesAt w A l) (hR : SlAt IDE.cells 2 w RA roots) (hK : SlAt ScionE.cells 12 w KA ks) (hE : SlAt StubE.cells 12 w EA es) (hec : es.length ≤ ec ∧ ec ≤ maxLen) (hsum : roots.length + ks.length + es.length + l.length + fieldsN (conL l) ≤ 1000000000000000) :
    Calls Try.prog 7 #[.agg #[.slice A l.length c, .slice RA roots.length rc, .slice KA ks.length kc, .slice EA es.length ec, .int .i64 ep]] w fun r w' => r = .returned (.bool true) ∧ Below w.heap.size w w' := by
  have HL := H.later
  have HR : ∀ u [Later w u], SlAt IDE.cells 2 u RA roots := fun u i => hR.below i.below
  have HK : ∀ u [Later w u], SlAt ScionE.cells 12 u KA ks := fun u i => hK.below i.below
  have HE : ∀ u [Later w u], SlAt StubE.cells 12 u EA es := fun u i => hE.below i.below
  have HF : ∀ u [Later w u], Calls Try.prog 11 #[.agg #[.slice A l.length c, .slice RA roots.length rc, .slice KA ks.length kc, .slice EA es.length ec, .int .i64 ep]] u fun r w' => r = .returned (.bool (decide (roots.length + ks.length + es.length + l.length + fieldsN (conL l) ≤ 100))) ∧ Below u.heap.size u w' := fun u i => few_any A c l RA KA EA _ rc _ kc _ ec ep u (HL u) hsum
  go_enter Try.func7, Try.ntmps7
  go_upto_region 1 with fail
  refine wp_name ?_
  intro w0 hw0
  obtain ⟨B0, l0⟩ := box1 hw0
  clear hw0
  by_cases hN : roots.length + ks.length + es.length + l.length + fieldsN (conL l) ≤ 100
  rotate_left
  · rw [decide_eq_false hN] at HF
    clear hN
    go_wp2_with (first | (go_at_call 11; refine (HF _).mono ?_; rintro r w2 ⟨rfl, hb2⟩; have l2 := later hb2) | (go_at_call 15; refine (awake_any _).mono ?_; rintro r w9 ⟨rfl, hb9⟩; have l9 := later hb9))
    go_ret
    exact ⟨rfl, below_of⟩
  rw [decide_eq_true hN] at HF
  by_cases hep : ep < 0
  · clear hN
    go_wp2_with (first | (go_at_call 11; refine (HF _).mono ?_; rintro r w2 ⟨rfl, hb2⟩; have l2 := later hb2) | (go_at_call 15; refine (awake_any _).mono ?_; rintro r w9 ⟨rfl, hb9⟩; have l9 := later hb9))
    go_ret
    exact ⟨rfl, below_of⟩
  obtain ⟨hl1, hf1⟩ := few32_bounds hN
  have hrl : roots.length ≤ 100 := by omega
  have hkl : ks.length ≤ 100 := by omega
  have hel : es.length ≤ 100 := by omega
  clear hN hsum
  have hec1 := hec.1
  have hec2 : ec ≤ 9223372036854775807 := by have := hec.2; unfold maxLen at this; omega
  clear hec
  have HS : ∀ u [Later w u], Calls Try.prog 13 #[.agg #[.slice A l.length c, .slice RA roots.length rc, .slice KA ks.length kc, .slice EA es.length ec, .int .i64 ep]] u (SumPost ep (sumL (conL l) roots ks es) u) := fun u i => of_any A c l RA rc roots KA kc ks EA ec es ep u (HL u) (HR u) (HK u) (HE u) (by omega) hf1 (by omega) (by omega) (by omega)
  go_upto_region 3 with (first | (go_at_call 11; refine (HF _).mono ?_; rintro r w2 ⟨rfl, hb2⟩; have l2 := later hb2))
  clear HF
  have l22 : Later w2 w2 := Later.refl
  go_upto_region 4 with fail
  refine wp_name ?_
  intro w3 hw3
  obtain ⟨B3, l3⟩ := box1 hw3
  clear hw3
  have l33 : Later w3 w3 := Later.refl
  have hb23 : Below w2.heap.size w2 w3 := (l3 w2).below
  go_wp2_with fail
  go_loopw [24] (fun jv wr => ∃ (j : Nat) (TA : Option Addr) (tc : Nat) (q : List OneE), j ≤ ks.length ∧ jv = .int .i64 j ∧ Hid (q.length = j) ∧ wr.heap[w2.heap.size]? = some (.cells #[.slice TA q.length tc] 61 (0, 0)) ∧ Hid (Own OneE.cells 13 99 w2.heap.size wr (.slice TA q.length tc) q ∧ tc ≤ maxLen) ∧ Hid ((∀ k ∈ ks.take j, validScB k = true ∧ toOne k ∈ q) ∧ (ks.take j).Pairwise KD) ∧ Below w2.heap.size w2 wr) (fun jv _ => ks.length - (intOf jv).toNat)
  case atStart => exact ⟨0, none, 0, [], by omega, rfl, hide rfl, (B3 w3).1, hide ⟨Own.nil, by simp [maxLen]⟩, hide ⟨by simp, by simp⟩, hb23⟩
  case round =>
    obtain ⟨j, TA, tc, q, hj, rfl, hqj, h3, hown, hinv, hbr⟩ := hrel
    have lr := later hbr
    have lrr : Later wr wr := Later.refl
    have Bt := boxed h3
    by_cases hjl : j < ks.length
    · have hji : (j : Int) < (ks.length : Int) := by omega
      obtain ⟨b1, o1, e, rfl, he, C1⟩ := ScionE.get (HK wr) hjl
      have He := hide he
      have HA : ∀ u [Later wr u], Calls Try.prog 21 #[.agg #[.slice TA q.length tc], e.v, .int .i64 1] u (AddP q e u) := fun u i => add_any TA tc q e u ((hown.out.1.below i.below).at_ OneE.enc).2.2 (by have := hqj.out; omega) ⟨((hown.out.1.below i.below).at_ OneE.enc).2.1, hown.out.2⟩
      unfold AddP at HA
      dsimp only [ScionE.v] at HA
      clear he
      go_upto_region 7 with fail
      refine wp_name ?_
      intro w4 hw4
      obtain ⟨B5, l4⟩ := box1 hw4
      clear hw4
      have l44 : Later w4 w4 := Later.refl
      go_upto_region 8 with (go_at_call 21; refine (HA _).mono ?_; rintro r w5 ⟨A5, c5, q5, er, rfl, hq5, ho5, hb5⟩; have l5 := later hb5)
      have l55 : Later w5 w5 := Later.refl
      refine wp_name ?_
      intro w6 hw6
      obtain ⟨B6, l6⟩ := box1 hw6
      clear hw6
      have l66 : Later w6 w6 := Later.refl
      by_cases her : er = 0
      · obtain ⟨hown5, hm5⟩ := ho5 her
        obtain ⟨hv5, hn5, hl5, hs5, he5⟩ := hq5.out her
        subst her
        have lr6 : Later wr w6 := ⟨below_of⟩
        have h3' := blk_below h3 lr6.below
        have hz2 : w2.heap.size ≤ wr.heap.size := hbr.size
        have ho6 := (hown5.below (l6 w5).below).mono (show w2.heap.size ≤ w4.heap.size from Nat.le_trans hz2 (l4 wr).below.size)
        have Hset := hide (fun v => ho6.far (p := ⟨w2.heap.size, 0, none⟩) (own_off ho6 h3' (by decide)) v)
        have Hblk := hide (fun v => (blk_set h3' 0 v).trans (by simp : some (Obj.cells ((#[Value.slice (some ⟨b1, o1, none⟩) q.length tc]).setIfInBounds 0 v) 61 (0, 0)) = some (.cells #[v] 61 (0, 0))))
        have Hinv := hide (show (∀ k ∈ ks.take (j + 1), validScB k = true ∧ toOne k ∈ q5) ∧ (ks.take (j + 1)).Pairwise KD by
          rw [take_snoc_get He.out]
          refine ⟨fun k hk => ?_, ?_⟩
          · rcases List.mem_append.1 hk with hk | hk
            · exact ⟨(hinv.out.1 k hk).1, hs5 _ (hinv.out.1 k hk).2⟩
            · rw [List.mem_singleton] at hk; subst hk; exact ⟨hv5, he5⟩
          · rw [List.pairwise_append]
            refine ⟨hinv.out.2, List.pairwise_singleton _ _, fun a ha b hb => ?_⟩
            rw [List.mem_singleton] at hb
            subst hb
            obtain ⟨i, hi⟩ := List.getElem?_of_mem (hinv.out.1 a ha).2
            have := hn5 i _ (List.getElem?_eq_some_iff.1 hi).1 hi
            intro h
            unfold isKey toOne at this
            simp [h.1, h.2] at this)
        have Hql := hide (show q5.length = j + 1 by rw [hl5, hqj.out])
        have Hbs := hide (fun v => (hbr.trans (lr6.below.mono hz2)).setCell (p := ⟨w2.heap.size, 0, none⟩) (Nat.le_refl _) v)
        clear hv5 hn5 hl5 hs5 he5 ho5 hown5 hq5 hinv ho6 h3' hb5
        go_wp2_with fail
        go_roundw
        case rel => exact ⟨j + 1, A5, c5, q5, by omega, by go_num, Hql, Hblk.out _, hide ⟨Hset.out _, hm5⟩, Hinv, Hbs.out _⟩
        case measure => simp [intOf]; omega
      · have her2 : (er != 0) = true := by simpa using her
        clear ho5 hq5
        go_wp2_with (go_at_call 15; refine (awake_any _).mono ?_; rintro r w9 ⟨rfl, hb9⟩; have l9 := later hb9)
        go_ret
        exact ⟨rfl, below_of⟩
    · have hjj : j = ks.length := by omega
      subst hjj
      have hkv : ∀ k ∈ ks, validScB k = true := fun k hk => (hinv.out.1 k (by rw [List.take_length]; exact hk)).1
      have hkd : ks.Pairwise KD := by have := hinv.out.2; rwa [List.take_length] at this
      have Hkv := hide hkv
      have Hkd := hide hkd
      have lww : Later w wr := ⟨below_of⟩
      have HEw : ∀ u [Later wr u], SlAt StubE.cells 12 u EA es := fun u i => by haveI := lww.trans i; exact HE u
      have HSw : ∀ u [Later wr u], Calls Try.prog 13 #[.agg #[.slice A l.length c, .slice RA roots.length rc, .slice KA ks.length kc, .slice EA es.length ec, .int .i64 ep]] u (SumPost ep (sumL (conL l) roots ks es) u) := fun u i => by haveI := lww.trans i; exact HS u
      have B0' : Boxed wr w.heap.size #[.slice A l.length c, .slice RA roots.length rc, .slice KA ks.length kc, .slice EA es.length ec, .int .i64 ep] 29 := boxed_later B0
      clear hkv hkd hinv hown hqj HS HE HK HR B3 B0 h3
      have lwb := lww.below
      obtain ⟨wq, rfl⟩ : ∃ x, x = wr := ⟨_, rfl⟩
      go_wp2_with fail
      go_loopw [42] (fun iv wr => ∃ i : Nat, i ≤ es.length ∧ iv = .int .i64 i ∧ Hid (DistTo es i ∧ ∀ e ∈ es.take i, 1 ≤ e.owner ∧ e.owner ≤ 8) ∧ Below wq.heap.size wq wr) (fun iv _ => es.length - (intOf iv).toNat)
      case atStart => exact ⟨0, by omega, rfl, hide ⟨DistTo.zero, by simp⟩, Below.refl _ _⟩
      case round =>
        obtain ⟨i, hi, rfl, hdi, hbr⟩ := hrel
        have lr := later hbr
        by_cases hlt : i < es.length
        · have hii : (i : Int) < (es.length : Int) := by omega
          have hie : ¬ ec < i := by omega
          obtain ⟨b1, o1, e, rfl, he, C1⟩ := StubE.get (HEw wr) hlt
          have He := hide he
          clear he
          have hi' : i ≤ 9223372036854775807 := by omega
          go_upto_region 15 with fail
          refine wp_name ?_
          intro w5 hw5
          obtain ⟨B5, l5⟩ := box1 hw5
          clear hw5
          have l55 : Later w5 w5 := Later.refl
          by_cases hm1 : e.owner < 1
          · go_wp2_with (go_at_call 15; refine (awake_any _).mono ?_; rintro r w9 ⟨rfl, hb9⟩; have l9 := later hb9)
            go_ret
            exact ⟨rfl, below_of⟩
          by_cases hm2 : 8 < e.owner
          · go_wp2_with (go_at_call 15; refine (awake_any _).mono ?_; rintro r w9 ⟨rfl, hb9⟩; have l9 := later hb9)
            go_ret
            exact ⟨rfl, below_of⟩
          go_wp2_with fail
          go_loopw [61] (fun jv wr => ∃ j : Nat, j ≤ i ∧ jv = .int .i64 j ∧ Hid (NoneTo (keyE e) es j) ∧ Below w5.heap.size w5 wr) (fun jv _ => i - (intOf jv).toNat)
          case atStart => exact ⟨0, by omega, rfl, hide NoneTo.zero, Below.refl _ _⟩
          case round =>
            obtain ⟨j, hj, rfl, hno, hbj⟩ := hrel
            have lj := later hbj
            by_cases hjl : j < i
            · have hji : (j : Int) < (i : Int) := by omega
              obtain ⟨b2, o2, f, hbo, hf, C2⟩ := StubE.get (HEw wr) (show j < es.length by omega)
              injection hbo with hbo
              injection hbo with hb hbo
              obtain ⟨rfl, rfl⟩ : b1 = b2 ∧ o1 = o2 := ⟨hb, hbo⟩
              have Hf := hide hf
              clear hf hbo hb
              go_upto_region 20 with fail
              refine wp_name ?_
              intro w6 hw6
              obtain ⟨B7, l6⟩ := box1 hw6
              clear hw6
              have l66 : Later w6 w6 := Later.refl
              cases hO : e.owner == f.owner
              · have Hno := hide (hno.out.succ Hf.out (show keyE e f = false by unfold keyE; rw [hO]; rfl))
                go_wp2_with fail
                go_roundw
                case rel => exact ⟨j + 1, by omega, by go_num, Hno, below_of⟩
                case measure => simp [intOf]; omega
              cases hM : e.number == f.number
              · have Hno := hide (hno.out.succ Hf.out (show keyE e f = false by unfold keyE; rw [hO, hM]; rfl))
                go_wp2_with fail
                go_roundw
                case rel => exact ⟨j + 1, by omega, by go_num, Hno, below_of⟩
                case measure => simp [intOf]; omega
              go_wp2_with (first | (go_at_call 15; refine (awake_any _).mono ?_; rintro r w9 ⟨rfl, hb9⟩; have l9 := later hb9))
              go_ret
              exact ⟨rfl, below_of⟩
            · have hjj : j = i := by omega
              subst hjj
              have Hdi := hide (show DistTo es (j + 1) ∧ ∀ e ∈ es.take (j + 1), 1 ≤ e.owner ∧ e.owner ≤ 8 from ⟨hdi.out.1.succ He.out hno.out, fun x hx => by
                rw [take_snoc_get He.out] at hx
                rcases List.mem_append.1 hx with hx | hx
                · exact hdi.out.2 x hx
                · rw [List.mem_singleton] at hx; subst hx; omega⟩)
              go_wp2_with fail
              go_roundw
              case rel => exact ⟨j + 1, by omega, by go_num, Hdi, below_of⟩
              case measure => simp [intOf]; omega
        · have hii : i = es.length := by omega
          subst hii
          have hT : validS ep (sumL (conL l) roots ks es) = true := sum_valid (by omega) Hkv.out Hkd.out hkl hel (fun e he => hdi.out.2 e (by rw [List.take_length]; exact he)) hdi.out.1
          have HT := hide hT
          clear hT
          go_wp2_with (first
            | (go_at_call 13; refine (HSw _).mono ?_; rintro r w3 ⟨q, QA, Qc, hq, rfl, hoq, hiq, hb3⟩; have l3 := later hb3; have l33 : Later w3 w3 := Later.refl)
            | (go_at_call 22; refine (valid_any ep QA Qc q _ ((hiq.below below_of).sums ((hoq.below below_of).at_ SumE.enc).2.2) (by rw [sumL_len hq.out]; exact Nat.le_trans (filter_le es) (by omega)) (fun x hx => by obtain ⟨k, hk⟩ := List.getElem?_of_mem hx; exact Nat.le_trans (sumL_ins6 hq.out hk hkl) (by omega))).mono ?_; rw [hq.out, HT.out]; rintro r w4 ⟨rfl, hb4⟩; have l4 := later hb4)
            | (go_at_call 15; refine (awake_any _).mono ?_; rintro r w9 ⟨rfl, hb9⟩; have l9 := later hb9))
          go_ret
          exact ⟨rfl, below_of⟩
end Go.Proofs.Ytomgdkfoinojiaa
