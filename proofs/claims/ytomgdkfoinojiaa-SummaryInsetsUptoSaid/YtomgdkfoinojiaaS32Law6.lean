/-
  Contracts of the functions of this seat that each theorem names: what a call returns, and that it writes nothing that was there before. The conditions stand in each theorem.
-/
import Derived.Test.YtomgdkfoinojiaaS32InsPlain
import Derived.Test.YtomgdkfoinojiaaS32Find2
import Derived.Test.YtomgdkfoinojiaaGValid3
namespace Go.Proofs.Ytomgdkfoinojiaa
open Go.RowKit
attribute [local simp] heap_drew
theorem run_eql_ins (a b c a2 b2 c2 : Int) (w : World) : (binOp .eql 58 (.agg #[.int .i64 a, .int .u64 b, .int .i64 c]) (.agg #[.int .i64 a2, .int .u64 b2, .int .i64 c2])).run Try.prog w = .ok (.bool (InsetE.beq ⟨a, b, c⟩ ⟨a2, b2, c2⟩)) w := run_eql_InsetE ⟨a, b, c⟩ ⟨a2, b2, c2⟩ w
theorem sl_new (w : World) (x : IDE) : SlAt IDE.cells 2 (w.alloc (.cells #[.int .i64 x.machine, .int .i64 x.serial] 45)) (some ⟨w.heap.size, 0, none⟩) [x] := blk_slAt IDE.enc (fr := (0, 0)) (heap_alloc_new _ _) [x] rfl
theorem sl_new_drew (w : World) (x : IDE) : SlAt IDE.cells 2 (w.alloc (.cells #[.int .i64 x.machine, .int .i64 x.serial] 45)).drew (some ⟨w.heap.size, 0, none⟩) [x] := (sl_new w x).below (Below.refl _ _).drew
theorem reach_le {l : List NodeE} {roots q : List IDE} (h : ReachL (conL l) roots q) : q.length ≤ l.length := by
  have e1 := reach_len (l := conL l) h.1.nodup (fun x hx => firstN_ids.1 ((h.2 x).1 hx).node)
  have e2 : (conL l).length = l.length := by unfold conL; rw [List.length_map]
  omega
attribute [local go_sem ↓] run_eql_id run_neq_id run_eql_ins
set_option maxRecDepth 100000 in
set_option maxHeartbeats 16000000 in
theorem insets_any (A : Option Addr) (c : Nat) (l : List NodeE) (RA : Option Addr) (rc : Nat) (roots : List IDE) (KA : Option Addr) (kc : Nat) (ks : List ScionE) (EA : Option Addr) (ec : Nat) (es : List StubE) (ep : Int) (w : World)
    (H : NodesAt w A l) (hR : SlAt IDE.cells 2 w RA roots) (hK : SlAt ScionE.cells 12 w KA ks) (hE : SlAt StubE.cells 12 w EA es) (hec : es.length ≤ ec ∧ ec ≤ maxLen) (hsum : roots.length + ks.length + es.length + l.length + fieldsN (conL l) ≤ 1000000000000000) :
    Calls Try.prog 6 #[.agg #[.slice A l.length c, .slice RA roots.length rc, .slice KA ks.length kc, .slice EA es.length ec, .int .i64 ep]] w fun r w' => r = .returned (.bool true) ∧ Below w.heap.size w w' := by
  have HL := H.later
  have HR : ∀ u [Later w u], SlAt IDE.cells 2 u RA roots := fun u i => hR.below i.below
  have HK : ∀ u [Later w u], SlAt ScionE.cells 12 u KA ks := fun u i => hK.below i.below
  have HE : ∀ u [Later w u], SlAt StubE.cells 12 u EA es := fun u i => hE.below i.below
  have HF : ∀ u [Later w u], Calls Try.prog 11 #[.agg #[.slice A l.length c, .slice RA roots.length rc, .slice KA ks.length kc, .slice EA es.length ec, .int .i64 ep]] u fun r w' => r = .returned (.bool (decide (roots.length + ks.length + es.length + l.length + fieldsN (conL l) ≤ 100))) ∧ Below u.heap.size u w' := fun u i => few_any A c l RA KA EA _ rc _ kc _ ec ep u (HL u) hsum
  go_enter Try.func6, Try.ntmps6
  go_upto_region 1 with fail
  refine wp_name ?_
  intro w0 hw0
  obtain ⟨B0, l0⟩ := box1 hw0
  clear hw0
  by_cases hN : roots.length + ks.length + es.length + l.length + fieldsN (conL l) ≤ 100
  rotate_left
  · rw [decide_eq_false hN] at HF
    clear hN
    go_wp2_with (first | (go_at_call 11; refine (HF _).mono ?_; rintro r w2 ⟨rfl, hb2⟩; have l2 := later hb2) | (go_at_call 15; refine (awake_any _).mono ?_; rintro r w9 ⟨rfl, hb9⟩; have l9 := later hb9))
    go_ret
    exact ⟨rfl, below_of⟩
  rw [decide_eq_true hN] at HF
  obtain ⟨hl1, hf1⟩ := few32_bounds hN
  have hrl : roots.length ≤ 100 := by omega
  have hkl : ks.length ≤ 100 := by omega
  have hel : es.length ≤ 100 := by omega
  clear hN hsum
  obtain ⟨V, hV⟩ : ∃ V, V = valid16B (conL l) := ⟨_, rfl⟩
  have HV : ∀ u [Later w u], Calls Try.prog 17 #[.agg #[.slice A l.length c]] u fun r w' => r = .returned (.bool V) ∧ Below u.heap.size u w' := fun u i => by
    rw [hV]
    exact valid16_any A c l u (HL u) (by omega) (fun n hn => Nat.le_trans (hf1 n hn) (by omega))
  clear hV
  cases V
  · go_wp2_with (first | (go_at_call 11; refine (HF _).mono ?_; rintro r w2 ⟨rfl, hb2⟩; have l2 := later hb2) | (go_at_call 17; refine (HV _).mono ?_; rintro r w8 ⟨rfl, hb8⟩; have l8 := later hb8) | (go_at_call 15; refine (awake_any _).mono ?_; rintro r w9 ⟨rfl, hb9⟩; have l9 := later hb9))
    go_ret
    exact ⟨rfl, below_of⟩
  have HS : ∀ u [Later w u], Calls Try.prog 13 #[.agg #[.slice A l.length c, .slice RA roots.length rc, .slice KA ks.length kc, .slice EA es.length ec, .int .i64 ep]] u (SumPost ep (sumL (conL l) roots ks es) u) := fun u i => of_any A c l RA rc roots KA kc ks EA ec es ep u (HL u) (HR u) (HK u) (HE u) (by omega) hf1 (by omega) (by omega) (by omega)
  go_upto_region 4 with (first | (go_at_call 11; refine (HF _).mono ?_; rintro r w2 ⟨rfl, hb2⟩; have l2 := later hb2) | (go_at_call 17; refine (HV _).mono ?_; rintro r w8 ⟨rfl, hb8⟩; have l8 := later hb8) | (go_at_call 13; refine (HS _).mono ?_; rintro r w3 ⟨q, QA, Qc, hq, rfl, hoq, hiq, hb3⟩; have l3 := later hb3))
  have hqs : ∀ u [Later w3 u], SumsAt u QA q := fun u i => (hiq.below i.below).sums ((hoq.below i.below).at_ SumE.enc).2.2
  clear hoq hiq HF HV HS
  refine wp_name ?_
  intro w4 hw4
  obtain ⟨B3, l4⟩ := box1 hw4
  clear hw4
  have hql : q.length ≤ 100 := by rw [sumL_len hq.out]; exact Nat.le_trans (filter_le es) hel
  have hqi : ∀ x ∈ q, x.inset.length ≤ 1000000000 := fun x hx => by
    obtain ⟨k, hk⟩ := List.getElem?_of_mem hx
    exact sumL_ins6 hq.out hk hkl
  have HFi : ∀ (a b : Int) u [Later w3 u], Calls Try.prog 18 #[.agg #[.int .i64 ep, .slice QA q.length Qc], .int .i64 a, .int .u64 b] u (FindP 0 a b q u) := fun a b u i => findS_any ep QA Qc q a b u (hqs u) (by omega) hqi 0
  have hec1 := hec.1
  have hec2 : ec ≤ 9223372036854775807 := by have := hec.2; unfold maxLen at this; omega
  clear hqi hec
  have l44 : Later w4 w4 := Later.refl
  go_wp2_with fail
  go_loopw [33] (fun iv wr => ∃ i : Nat, i ≤ es.length ∧ iv = .int .i64 i ∧ Hid (DistTo es i) ∧ Below w4.heap.size w4 wr) (fun iv _ => es.length - (intOf iv).toNat)
  case atStart => exact ⟨0, by omega, rfl, hide DistTo.zero, Below.refl _ _⟩
  case round =>
    obtain ⟨i, hi, rfl, hdi, hbr⟩ := hrel
    have lr := later hbr
    by_cases hlt : i < es.length
    · have hii : (i : Int) < (es.length : Int) := by omega
      have hie : ¬ ec < i := by omega
      obtain ⟨b1, o1, e, rfl, he, C1⟩ := StubE.get (HE wr) hlt
      have He := hide he
      clear he
      go_upto_region 7 with fail
      refine wp_name ?_
      intro w5 hw5
      obtain ⟨B5, l5⟩ := box1 hw5
      clear hw5
      have l55 : Later w5 w5 := Later.refl
      have hi' : i ≤ 9223372036854775807 := by omega
      go_wp2_with fail
      go_loopw [43] (fun jv wr => ∃ j : Nat, j ≤ i ∧ jv = .int .i64 j ∧ Hid (NoneTo (keyE e) es j) ∧ Below w5.heap.size w5 wr) (fun jv _ => i - (intOf jv).toNat)
      case atStart => exact ⟨0, by omega, rfl, hide NoneTo.zero, Below.refl _ _⟩
      case round =>
        obtain ⟨j, hj, rfl, hno, hbj⟩ := hrel
        have lj := later hbj
        by_cases hjl : j < i
        · have hji : (j : Int) < (i : Int) := by omega
          obtain ⟨b2, o2, f, hbo, hf, C2⟩ := StubE.get (HE wr) (show j < es.length by omega)
          injection hbo with hbo
          injection hbo with hb hbo
          obtain ⟨rfl, rfl⟩ : b1 = b2 ∧ o1 = o2 := ⟨hb, hbo⟩
          have Hf := hide hf
          clear hf hbo hb
          go_upto_region 10 with fail
          refine wp_name ?_
          intro w6 hw6
          obtain ⟨B7, l6⟩ := box1 hw6
          clear hw6
          have l66 : Later w6 w6 := Later.refl
          cases hO : e.owner == f.owner
          · have Hno := hide (hno.out.succ Hf.out (show keyE e f = false by unfold keyE; rw [hO]; rfl))
            go_wp2_with fail
            go_roundw
            case rel => exact ⟨j + 1, by omega, by go_num, Hno, below_of⟩
            case measure => simp [intOf]; omega
          cases hM : e.number == f.number
          · have Hno := hide (hno.out.succ Hf.out (show keyE e f = false by unfold keyE; rw [hO, hM]; rfl))
            go_wp2_with fail
            go_roundw
            case rel => exact ⟨j + 1, by omega, by go_num, Hno, below_of⟩
            case measure => simp [intOf]; omega
          go_wp2_with (first | (go_at_call 15; refine (awake_any _).mono ?_; rintro r w9 ⟨rfl, hb9⟩; have l9 := later hb9))
          go_ret
          exact ⟨rfl, below_of⟩
        · have hjj : j = i := by omega
          subst hjj
          have Hdi := hide (hdi.out.succ He.out hno.out)
          go_wp2_with fail
          go_roundw
          case rel => exact ⟨j + 1, by omega, by go_num, Hdi, below_of⟩
          case measure => simp [intOf]; omega
    · have hii : i = es.length := by omega
      subst hii
      have hd := hdi.out
      have lrr : Later wr wr := Later.refl
      have lww : Later w wr := ⟨below_of⟩
      have lw3 : Later w3 wr := ⟨below_of⟩
      have B0' : Boxed wr w.heap.size #[.slice A l.length c, .slice RA roots.length rc, .slice KA ks.length kc, .slice EA es.length ec, .int .i64 ep] 29 := boxed_later B0
      have B3' : Boxed wr w3.heap.size #[.int .i64 ep, .slice QA q.length Qc] 34 := boxed_later B3
      have HRe : ∀ u [Later wr u], Calls Try.prog 20 #[.agg #[.slice A l.length c], .slice RA roots.length rc] u (ReachPost (conL l) roots u) := fun u i => by haveI := lww.trans i; exact reach_any A c l RA rc roots u (HL u) (HR u) (by omega) hf1 (by omega)
      have HR1 : ∀ (x : IDE) (g : Nat) (u : World) [Later wr u], SlAt IDE.cells 2 u (some ⟨g, 0, none⟩) [x] → Calls Try.prog 20 #[.agg #[.slice A l.length c], .slice (some ⟨g, 0, none⟩) 1 1] u (ReachPost (conL l) [x] u) := fun x g u i hs => by
        haveI := lww.trans i
        exact reach_any A c l (some ⟨g, 0, none⟩) 1 [x] u (HL _) hs (by omega) hf1 (by simp)
      have HFw : ∀ (a b : Int) u [Later wr u], Calls Try.prog 18 #[.agg #[.int .i64 ep, .slice QA q.length Qc], .int .i64 a, .int .u64 b] u (FindP 0 a b q u) := fun a b u i => by haveI := lw3.trans i; exact HFi a b u
      have HEw : ∀ u [Later wr u], SlAt StubE.cells 12 u EA es := fun u i => by haveI := lww.trans i; exact HE u
      have HKw : ∀ u [Later wr u], SlAt ScionE.cells 12 u KA ks := fun u i => by haveI := lww.trans i; exact HK u
      clear HFi HE HK HR HL B0 B3 l0 l3 l4 lr hbr hb2 hb3 l2 hdi hqs hb8 l8
      have lrw := lww.below
      obtain ⟨wq, rfl⟩ : ∃ x, x = wr := ⟨_, rfl⟩
      unfold FindP at HFw
      unfold ReachPost at HR1 HRe
      go_wp2_with fail
      go_loopw [65] (fun iv wr => ∃ i : Nat, i ≤ es.length ∧ iv = .int .i64 i ∧ Below wq.heap.size wq wr) (fun iv _ => es.length - (intOf iv).toNat)
      case atStart => exact ⟨0, by omega, rfl, Below.refl _ _⟩
      case round =>
        obtain ⟨i, hi, rfl, hbr⟩ := hrel
        have lr := later hbr
        by_cases hlt : i < es.length
        · have hii : (i : Int) < (es.length : Int) := by omega
          obtain ⟨b1, o1, e, rfl, he, C1⟩ := StubE.get (HEw wr) hlt
          have hal := foundC_alive hq.out hd (List.mem_of_getElem? he)
          obtain ⟨eo, en, em, er, e5, e6, e7, et, ew, ed, e10, e11⟩ := e
          dsimp only at hal
          have HFe := HFw eo en
          clear he
          cases ew
          rotate_left
          · rw [show foundC eo en q = none from hal] at HFe
            dsimp only [Option.isSome_none, Option.getD_none] at HFe
            clear hal
            go_upto_region 17 with fail
            refine wp_name ?_
            intro w5 hw5
            obtain ⟨B9, l5⟩ := box1 hw5
            clear hw5
            have l55 : Later w5 w5 := Later.refl
            go_upto_region 18 with (go_at_call 18; refine (HFe _).mono ?_; rintro r w6 ⟨y, rfl, -, -, -, hc1, hc2, hb6⟩; have l6 := later hb6)
            refine wp_name ?_
            intro w7 hw7
            obtain ⟨B10, l7⟩ := box1 hw7
            clear hw7
            have l77 : Later w7 w7 := Later.refl
            go_wp2_with fail
            go_roundw
            case rel => exact ⟨i + 1, by omega, by go_num, below_of⟩
            case measure => simp [intOf]; omega
          cases ed
          rotate_left
          · rw [show foundC eo en q = none from hal] at HFe
            dsimp only [Option.isSome_none, Option.getD_none] at HFe
            clear hal
            go_upto_region 17 with fail
            refine wp_name ?_
            intro w5 hw5
            obtain ⟨B9, l5⟩ := box1 hw5
            clear hw5
            have l55 : Later w5 w5 := Later.refl
            go_upto_region 18 with (go_at_call 18; refine (HFe _).mono ?_; rintro r w6 ⟨y, rfl, -, -, -, hc1, hc2, hb6⟩; have l6 := later hb6)
            refine wp_name ?_
            intro w7 hw7
            obtain ⟨B10, l7⟩ := box1 hw7
            clear hw7
            have l77 : Later w7 w7 := Later.refl
            go_wp2_with fail
            go_roundw
            case rel => exact ⟨i + 1, by omega, by go_num, below_of⟩
            case measure => simp [intOf]; omega
          have hal2 : foundC eo en q = some (sumOf (conL l) roots ks ⟨eo, en, em, er, e5, e6, e7, et, false, false, e10, e11⟩) := hal
          rw [hal2] at HFe
          dsimp only [Option.isSome_some, Option.getD_some] at HFe
          clear hal hal2
          go_upto_region 17 with fail
          refine wp_name ?_
          intro w5 hw5
          obtain ⟨B9, l5⟩ := box1 hw5
          clear hw5
          have l55 : Later w5 w5 := Later.refl
          go_upto_region 18 with (go_at_call 18; refine (HFe _).mono ?_; rintro r w6 ⟨⟨yo, yn, yr, yd, yA, yc, yi⟩, rfl, hy, hIy, -, hc1, hc2, hb6⟩; have l6 := later hb6; dsimp only at hc1 hc2 hIy)
          refine wp_name ?_
          intro w7 hw7
          obtain ⟨B10, l7⟩ := box1 hw7
          clear hw7
          have l66 : Later w6 w6 := Later.refl
          have l77 : Later w7 w7 := Later.refl
          have HI : ∀ u [Later w7 u], SlAt InsetE.cells 3 u yA yi := fun u i => by haveI := (l7 w6).trans i; exact hIy.below below_of
          have lq7 : Later wq w7 := ⟨below_of⟩
          have B9' : Boxed w7 wr.heap.size #[.int .i64 eo, .int .u64 en, .int .i64 em, .int .i64 er, .int .i64 e5, .int .i64 e6, .int .i64 e7, .bool et, .bool false, .bool false, .int .i64 e10, .int .i64 e11] 52 := by
            haveI : Later w5 w7 := ⟨below_of⟩
            exact boxed_later B9
          have hyr : yr = hasB (conL l) roots ⟨em, er⟩ := congrArg SumC.rooted hy.out
          have hyi : yi = (sumOf (conL l) roots ks ⟨eo, en, em, er, e5, e6, e7, et, false, false, e10, e11⟩).inset := congrArg SumC.inset hy.out
          have hyl : yi.length = (insL (conL l) ks ⟨em, er⟩).length := by rw [hyi, sumOf_inset_len]; rfl
          have hym : ∀ k ∈ ks, insB (conL l) ⟨em, er⟩ k = true → toIn k ∈ yi := fun k hk hi => by rw [hyi]; exact sumOf_inset_mem hk hi
          have Hyr := hide hyr
          have Hyl := hide hyl
          have Hym := hide hym
          have hyc : yi.length ≤ 9223372036854775807 := by unfold maxLen at hc2; omega
          clear hyr hyi hyl hym hy HFe hIy C1 B9
          go_wp2_with fail
          go_loopw [12, 91] (fun nv jv wr => ∃ j n : Nat, j ≤ ks.length ∧ n ≤ j ∧ nv = .int .i64 n ∧ jv = .int .i64 j ∧ Hid (n = (insL (conL l) (ks.take j) ⟨em, er⟩).length) ∧ Below w7.heap.size w7 wr) (fun _ jv _ => ks.length - (intOf jv).toNat)
          case atStart => exact ⟨0, 0, by omega, by omega, rfl, rfl, hide rfl, Below.refl _ _⟩
          case round =>
            obtain ⟨j, n, hj, hnj, rfl, rfl, hn, hbj⟩ := hrel
            have lj := later hbj
            by_cases hjl : j < ks.length
            · have hji : (j : Int) < (ks.length : Int) := by omega
              obtain ⟨b2, o2, k, rfl, hk, C2⟩ := ScionE.get (HKw wr) hjl
              obtain ⟨kc, kn, km, kr, ko, k5, k6, kt, kw, kg, k10, k11⟩ := k
              have Hn := insL_take6 (L := conL l) (x := ⟨em, er⟩) hk
              rw [← hn.out] at Hn
              have Hkm := hide (List.mem_of_getElem? hk)
              clear hk hn
              cases kw
              rotate_left
              · rw [show insB (conL l) ⟨em, er⟩ ⟨kc, kn, km, kr, ko, k5, k6, kt, true, kg, k10, k11⟩ = false from rfl] at Hn
                go_upto_region 25 with fail
                refine wp_name ?_
                intro w8 hw8
                obtain ⟨B14, l8⟩ := box1 hw8
                clear hw8
                have l88 : Later w8 w8 := Later.refl
                (refine wp_region_after (by kernel_rfl) (by kernel_rfl) ?_
                 repeat (any_goals (first | go_big_quiet_skip | (go_big_quiet_want; go_big_quiet_op; first | go_big_quiet_on | go_big_quiet_call (fail)) | quiet_step (fail) | (refine wpQuiet_step (fun K hK => ?_); go_simp; split <;> (refine hK _ ?_; clear hK K))))
                 all_goals (refine wpQuiet_nil ?_; intro _ hw'; obtain ⟨u', hw''⟩ := hw'; subst hw''; obtain ⟨wd, hbd⟩ := u'; simp only [After.val_mk]))
                have ld := later hbd
                go_wp2_with fail
                go_roundw
                case rel => exact ⟨j + 1, n, by omega, by omega, rfl, by go_num, hide Hn.symm, below_of⟩
                case measure => simp [intOf]; omega
              cases kg
              rotate_left
              · rw [show insB (conL l) ⟨em, er⟩ ⟨kc, kn, km, kr, ko, k5, k6, kt, false, true, k10, k11⟩ = false from rfl] at Hn
                go_upto_region 25 with fail
                refine wp_name ?_
                intro w8 hw8
                obtain ⟨B14, l8⟩ := box1 hw8
                clear hw8
                have l88 : Later w8 w8 := Later.refl
                (refine wp_region_after (by kernel_rfl) (by kernel_rfl) ?_
                 repeat (any_goals (first | go_big_quiet_skip | (go_big_quiet_want; go_big_quiet_op; first | go_big_quiet_on | go_big_quiet_call (fail)) | quiet_step (fail) | (refine wpQuiet_step (fun K hK => ?_); go_simp; split <;> (refine hK _ ?_; clear hK K))))
                 all_goals (refine wpQuiet_nil ?_; intro _ hw'; obtain ⟨u', hw''⟩ := hw'; subst hw''; obtain ⟨wd, hbd⟩ := u'; simp only [After.val_mk]))
                have ld := later hbd
                go_wp2_with fail
                go_roundw
                case rel => exact ⟨j + 1, n, by omega, by omega, rfl, by go_num, hide Hn.symm, below_of⟩
                case measure => simp [intOf]; omega
              cases hz : ideq km kr 0 0
              rotate_left
              · have hz2 : (⟨km, kr⟩ : IDE) = ⟨0, 0⟩ := by have := @ideq_iff ⟨km, kr⟩ ⟨0, 0⟩; rw [show ideq (⟨km, kr⟩ : IDE).machine (⟨km, kr⟩ : IDE).serial (⟨0, 0⟩ : IDE).machine (⟨0, 0⟩ : IDE).serial = true from hz] at this; exact of_decide_eq_true this.symm
                rw [show insB (conL l) ⟨em, er⟩ ⟨kc, kn, km, kr, ko, k5, k6, kt, false, false, k10, k11⟩ = false by unfold insB rootB idK; dsimp only; rw [decide_eq_true hz2]; rfl] at Hn
                clear hz2
                go_upto_region 25 with fail
                refine wp_name ?_
                intro w8 hw8
                obtain ⟨B14, l8⟩ := box1 hw8
                clear hw8
                have l88 : Later w8 w8 := Later.refl
                (refine wp_region_after (by kernel_rfl) (by kernel_rfl) ?_
                 repeat (any_goals (first | go_big_quiet_skip | (go_big_quiet_want; go_big_quiet_op; first | go_big_quiet_on | go_big_quiet_call (fail)) | quiet_step (fail) | (refine wpQuiet_step (fun K hK => ?_); go_simp; split <;> (refine hK _ ?_; clear hK K))))
                 all_goals (refine wpQuiet_nil ?_; intro _ hw'; obtain ⟨u', hw''⟩ := hw'; subst hw''; obtain ⟨wd, hbd⟩ := u'; simp only [After.val_mk]))
                have ld := later hbd
                go_wp2_with fail
                go_roundw
                case rel => exact ⟨j + 1, n, by omega, by omega, rfl, by go_num, hide Hn.symm, below_of⟩
                case measure => simp [intOf]; omega
              have hz2 : ¬ (⟨km, kr⟩ : IDE) = ⟨0, 0⟩ := by have := @ideq_iff ⟨km, kr⟩ ⟨0, 0⟩; rw [show ideq (⟨km, kr⟩ : IDE).machine (⟨km, kr⟩ : IDE).serial (⟨0, 0⟩ : IDE).machine (⟨0, 0⟩ : IDE).serial = false from hz] at this; exact of_decide_eq_false this.symm
              obtain ⟨V, hV⟩ : ∃ V, V = hasB (conL l) [⟨km, kr⟩] ⟨em, er⟩ := ⟨_, rfl⟩
              rw [show insB (conL l) ⟨em, er⟩ ⟨kc, kn, km, kr, ko, k5, k6, kt, false, false, k10, k11⟩ = V by unfold insB rootB idK; dsimp only; rw [decide_eq_false hz2, ← hV]; rfl] at Hn
              have HV := hide hV
              clear hz2 hV
              have HR2 : ∀ (g : Nat) (u : World) [Later wq u], SlAt IDE.cells 2 u (some ⟨g, 0, none⟩) [⟨km, kr⟩] → Calls Try.prog 20 #[.agg #[.slice A l.length c], .slice (some ⟨g, 0, none⟩) 1 1] u (ReachPost (conL l) [⟨km, kr⟩] u) := fun g u i => HR1 ⟨km, kr⟩ g u
              unfold ReachPost at HR2
              have HHs : ∀ (q' : List IDE) (A' : Option Addr) (c' : Nat) (u : World), ReachL (conL l) [⟨km, kr⟩] q' → SlAt IDE.cells 2 u A' q' → Calls Try.prog 19 #[.slice A' q'.length c', .agg #[.int .i64 em, .int .i64 er]] u fun r w' => r = .returned (.bool V) ∧ Below u.heap.size u w' := fun q' A' c' u hq' hs => by
                have h := has21_any A' c' q' ⟨em, er⟩ u hs (by have := reach_le hq'; omega)
                rwa [hasB_eq hq', ← HV.out] at h
              have HHs := hide HHs
              go_upto_region 25 with fail
              refine wp_name ?_
              intro w8 hw8
              obtain ⟨B14, l8⟩ := box1 hw8
              clear hw8
              have l88 : Later w8 w8 := Later.refl
              cases V
              · go_region_held3 (fun w' => ∀ b [Later b w8], Later b w') ((intro b _; infer_instance))
                  ((first
                    | (go_at_call 20; refine (HR2 _ _ (by first | exact sl_new _ ⟨km, kr⟩ | exact sl_new_drew _ ⟨km, kr⟩)).mono ?_; rintro r w9 ⟨q', QA', Qc', hq', rfl, hoq', hb9⟩; have l9 := later hb9; have l99 : Later w9 w9 := Later.refl)
                    | (go_at_call 19; refine (HHs.out q' QA' Qc' _ hq' ((hoq'.later _).at_ IDE.enc).2.2).mono ?_; rintro r w10 ⟨rfl, hb10⟩; have l10 := later hb10; have l1010 : Later w10 w10 := Later.refl)))
                go_wp2_with fail
                go_roundw
                case rel => exact ⟨j + 1, n, by omega, by omega, rfl, by go_num, hide Hn.symm, below_of⟩
                case measure => simp [intOf]; omega
              · have hym : (⟨kc, kn, ko⟩ : InsetE) ∈ yi := Hym.out _ Hkm.out (by unfold insB rootB idK; dsimp only; rw [decide_eq_false (by have := @ideq_iff ⟨km, kr⟩ ⟨0, 0⟩; rw [show ideq (⟨km, kr⟩ : IDE).machine (⟨km, kr⟩ : IDE).serial (⟨0, 0⟩ : IDE).machine (⟨0, 0⟩ : IDE).serial = false from hz] at this; exact of_decide_eq_false this.symm), ← HV.out]; rfl)
                have Hin := hide hym
                clear hym
                go_region_held3 (fun w' => ∀ b [Later b w8], Later b w') ((intro b _; infer_instance))
                  ((first
                    | (go_at_call 20; refine (HR2 _ _ (by first | exact sl_new _ ⟨km, kr⟩ | exact sl_new_drew _ ⟨km, kr⟩)).mono ?_; rintro r w9 ⟨q', QA', Qc', hq', rfl, hoq', hb9⟩; have l9 := later hb9; have l99 : Later w9 w9 := Later.refl)
                    | (go_at_call 19; refine (HHs.out q' QA' Qc' _ hq' ((hoq'.later _).at_ IDE.enc).2.2).mono ?_; rintro r w10 ⟨rfl, hb10⟩; have l10 := later hb10; have l1010 : Later w10 w10 := Later.refl)))
                have hyc2 := hyc
                have hwn : IntKind.i64.wrap ((n : Int) + 1) = ((n + 1 : Nat) : Int) := by rw [IntKind.wrap_i64]; omega
                go_wp2_with fail
                go_loopw [15, 124] (fun fv mv wr => ∃ m : Nat, m ≤ yi.length ∧ fv = .bool (anyTo ⟨kc, kn, ko⟩ yi m) ∧ mv = .int .i64 m ∧ Below w10.heap.size w10 wr) (fun _ mv _ => yi.length - (intOf mv).toNat)
                case atStart => exact ⟨0, by omega, rfl, rfl, Below.refl _ _⟩
                case round =>
                  obtain ⟨m, hm, rfl, rfl, hbm⟩ := hrel
                  have lm := later hbm
                  by_cases hml : m < yi.length
                  · have hmi : (m : Int) < (yi.length : Int) := by omega
                    obtain ⟨b3, o3, z, rfl, hz, C3⟩ := InsetE.get (HI wr) hml
                    have hs := anyTo_succ (y := ⟨kc, kn, ko⟩) hz
                    obtain ⟨zc, zn, zo⟩ := z
                    generalize hF : anyTo (⟨kc, kn, ko⟩ : InsetE) yi m = F at hs ⊢
                    have Hs := hide hs
                    clear hz hF hs
                    go_upto_region 31 with fail
                    refine wp_name ?_
                    intro w11 hw11
                    obtain ⟨B17, l11⟩ := box1 hw11
                    clear hw11
                    have l1111 : Later w11 w11 := Later.refl
                    cases F
                    · go_wp2_with fail
                      go_roundw
                      case rel => exact ⟨m + 1, by omega, by rw [Hs.out]; rfl, by go_num, below_of⟩
                      case measure => simp [intOf]; omega
                    · go_wp2_with fail
                      go_roundw
                      case rel => exact ⟨m + 1, by omega, by rw [Hs.out]; rfl, by go_num, below_of⟩
                      case measure => simp [intOf]; omega
                  · have hmm : m = yi.length := by omega
                    subst hmm
                    rw [anyTo_all Hin.out]
                    go_wp2_with fail
                    go_roundw
                    case rel => exact ⟨j + 1, n + 1, by omega, by omega, by go_num, by go_num, hide Hn.symm, below_of⟩
                    case measure => simp [intOf]; omega
            · have hjj : j = ks.length := by omega
              subst hjj
              have hnn : n = yi.length := by rw [Hyl.out, hn.out, List.take_length]
              subst hnn
              have HHs : ∀ (q' : List IDE) (A' : Option Addr) (c' : Nat) (u : World), ReachL (conL l) roots q' → SlAt IDE.cells 2 u A' q' → Calls Try.prog 19 #[.slice A' q'.length c', .agg #[.int .i64 em, .int .i64 er]] u fun r w' => r = .returned (.bool yr) ∧ Below u.heap.size u w' := fun q' A' c' u hq' hs => by
                have h := has21_any A' c' q' ⟨em, er⟩ u hs (by have := reach_le hq'; omega)
                rwa [hasB_eq hq', ← Hyr.out] at h
              have HHs := hide HHs
              have lrr8 : Later wr wr := Later.refl
              clear hn HR1
              obtain ⟨w8, rfl⟩ : ∃ x, x = wr := ⟨_, rfl⟩
              go_upto_region 36 with fail
              go_region_held3 (fun w' => ∀ b [Later b w8], Later b w') ((intro b _; infer_instance))
                ((first
                  | (go_at_call 20; refine (HRe _).mono ?_; rintro r w9 ⟨q', QA', Qc', hq', rfl, hoq', hb9⟩; have l9 := later hb9; have l99 : Later w9 w9 := Later.refl)
                  | (go_at_call 19; refine (HHs.out q' QA' Qc' _ hq' ((hoq'.later _).at_ IDE.enc).2.2).mono ?_; rintro r w10 ⟨rfl, hb10⟩; have l10 := later hb10; have l1010 : Later w10 w10 := Later.refl)))
              go_wp2_with fail
              go_roundw
              case rel => exact ⟨i + 1, by omega, by go_num, below_of⟩
              case measure => simp [intOf]; omega
        · have hii : i = es.length := by omega
          subst hii
          go_wp2_with (go_at_call 15; refine (awake_any _).mono ?_; rintro r w9 ⟨rfl, hb9⟩; have l9 := later hb9)
          go_ret
          exact ⟨rfl, below_of⟩
end Go.Proofs.Ytomgdkfoinojiaa
