/-
  Contracts of the functions of this seat that each theorem names: what a call returns, and that it writes nothing that was there before. The conditions stand in each theorem.
-/
import Derived.Test.YtomgdkfoinojiaaS32RefStub2
import Derived.Test.YtomgdkfoinojiaaS32Sum
namespace Go.Proofs.Ytomgdkfoinojiaa
open Go.RowKit
attribute [local simp] heap_drew
def RefSumP (ep : Int) (S : List SumC) (w : World) (r : Ending) (w' : World) : Prop := ∃ q A c, Hid (q.map SumE.con = S) ∧ r = .returned (.agg #[.int .i64 ep, .slice A q.length c]) ∧ SumsAt w' A q ∧ Below w.heap.size w w'
theorem InsOwn.mono {B B' : Nat} {w : World} {q : List SumE} (h : InsOwn B' w q) (hB : B ≤ B') : InsOwn B w q := fun n hn => (h n hn).mono hB
set_option maxRecDepth 100000 in
set_option maxHeartbeats 16000000 in
theorem refSummarize_any (A : Option Addr) (c : Nat) (l : List NodeE) (RA : Option Addr) (rc : Nat) (roots : List IDE) (KA : Option Addr) (kc : Nat) (ks : List ScionE) (EA : Option Addr) (ec : Nat) (es : List StubE) (ep : Int) (w : World) (H : NodesAt w A l) (hR : SlAt IDE.cells 2 w RA roots) (hK : SlAt ScionE.cells 12 w KA ks) (hE : SlAt StubE.cells 12 w EA es)
    (hl : l.length ≤ 10000) (hf : ∀ n ∈ l, n.fields.length ≤ 10000) (hrl : roots.length ≤ 10000) (hkl : ks.length ≤ 10000) (hel : es.length ≤ 10000) :
    Calls Try.prog 14 #[.agg #[.slice A l.length c], .slice RA roots.length rc, .slice KA ks.length kc, .slice EA es.length ec, .int .i64 ep] w (RefSumP ep (sumL (conL l) roots ks es) w) := by
  have HE : ∀ u [Later w u], SlAt StubE.cells 12 u EA es := fun u i => hE.below i.below
  have HSt : ∀ (e : StubE) (u : World) [Later w u], Calls Try.prog 33 #[.agg #[.slice A l.length c], .slice RA roots.length rc, .slice KA ks.length kc, e.v] u (StubPost (sumOf (conL l) roots ks e) u) := fun e u i => refStub_any A c l RA rc roots KA kc ks e u (H.below i.below) (hR.below i.below) (hK.below i.below) hl hf hrl hkl
  have hel' : es.length ≤ 9223372036854775807 := by omega
  go_enter Try.func14, Try.ntmps14
  go_upto_region 1 with fail
  refine wp_name ?_
  intro w0 hw0
  obtain ⟨B5, B10, l0⟩ := box2 hw0
  clear hw0
  have l00 : Later w0 w0 := Later.refl
  have hb0 : Below w.heap.size w w0 := (l0 w).below
  go_upto_region 2 with fail
  refine wp_name ?_
  intro w1 hw1
  obtain ⟨B11, l1⟩ := box1 hw1
  clear hw1
  have l11 : Later w1 w1 := Later.refl
  have hb01 : Below w0.heap.size w0 w1 := (l1 w0).below
  go_wp2_with fail
  go_loopw [12] (fun iv wr => ∃ (k : Nat) (q : List SumE) (QA : Option Addr) (QC : Nat), k ≤ es.length ∧ iv = .int .i64 k ∧ Hid (q.map SumE.con = sortL ltC (((es.take k).filter aliveB).map (sumOf (conL l) roots ks))) ∧ Hid (q.length ≤ k) ∧
    Own SumE.cells 5 41 w0.heap.size wr (.slice QA q.length QC) q ∧ InsOwn w0.heap.size wr q ∧ wr.heap[w0.heap.size]? = some (.cells #[.int .i64 ep, .slice QA q.length QC] 34 (0, 0)) ∧ Below w0.heap.size w0 wr) (fun iv _ => es.length - (intOf iv).toNat)
  case atStart => exact ⟨0, [], none, 0, by omega, rfl, hide (sortL_nil ltC_swo).symm, hide (by simp), Own.nil, (fun n hn => by cases hn), (B11 w1).1, hb01⟩
  case round =>
    obtain ⟨k, q, QA, QC, hk, rfl, hq, hql, hoq, hiq, h11, hbr⟩ := hrel
    have lr := later hbr
    have lrr : Later wr wr := Later.refl
    have BS := boxed h11
    by_cases hlt : k < es.length
    · have hki : (k : Int) < (es.length : Int) := by omega
      obtain ⟨b1, o1, e, rfl, he, C1⟩ := StubE.get (HE wr) hlt
      have HT := hide (filter_take (p := aliveB) he)
      have HSe := HSt e
      obtain ⟨e1, e2, e3, e4, e5, e6, e7, et, ew, ed, e10, e11⟩ := e
      dsimp only [StubE.v] at HSe
      clear he
      cases ew
      rotate_left
      · have HT2 := hide (show (es.take (k + 1)).filter aliveB = (es.take k).filter aliveB by rw [HT.out]; simp [aliveB])
        go_wp2_with fail
        go_roundw
        case rel => exact ⟨k + 1, q, QA, QC, by omega, by go_num, by rw [HT2.out]; exact hq, hide (by have := hql.out; omega), hoq, hiq, h11, hbr⟩
        case measure => simp [intOf]; omega
      cases ed
      rotate_left
      · have HT2 := hide (show (es.take (k + 1)).filter aliveB = (es.take k).filter aliveB by rw [HT.out]; simp [aliveB])
        go_wp2_with fail
        go_roundw
        case rel => exact ⟨k + 1, q, QA, QC, by omega, by go_num, by rw [HT2.out]; exact hq, hide (by have := hql.out; omega), hoq, hiq, h11, hbr⟩
        case measure => simp [intOf]; omega
      obtain ⟨sm, hsm⟩ : ∃ sm, sm = sumOf (conL l) roots ks ⟨e1, e2, e3, e4, e5, e6, e7, et, false, false, e10, e11⟩ := ⟨_, rfl⟩
      rw [← hsm] at HSe
      have HT2 := hide (show ((es.take (k + 1)).filter aliveB).map (sumOf (conL l) roots ks) = ((es.take k).filter aliveB).map (sumOf (conL l) roots ks) ++ [sm] by rw [HT.out, hsm]; simp [aliveB])
      clear hsm
      unfold StubPost at HSe
      go_upto_region 6 with fail
      go_cut [13] from 18 to 102 (fun s13 wy => ∃ (g13 : Nat) (x : SumE), s13 = .pointer (some ⟨g13, 0, none⟩) ∧ wr.heap.size ≤ g13 ∧ Hid (x.con = sm) ∧ wy.heap[g13]? = some (.cells x.arr 41 (0, 0)) ∧ Own InsetE.cells 3 58 wr.heap.size wy (.slice x.A x.inset.length x.c) x.inset ∧ Below wr.heap.size wr wy)
      case first =>
        refine wp_region_held_drew (S := fun w' => ∀ b [Later b wr], Later b w') (by kernel_rfl) (by intro b _; infer_instance) (fun hHeld => ?_)
        refine wpAnyH_take (i := 0) (oi := _) (v := ?_) rfl (by kernel_rfl) (by kernel_rfl) (by kernel_rfl) (fun _ _ _ h => h) (Or.inl ⟨by rfl, ?_⟩) (by assumption) ?_
        rotate_left 1
        · (intro wy hSw; (try dsimp only at hSw); go_simp; try with_reducible rfl)
        (try simp only [Act.put])
        refine wpAnyH_take (i := 1) (oi := _) (v := ?_) rfl (by kernel_rfl) (by kernel_rfl) (by kernel_rfl) (fun _ _ _ h => h) (Or.inl ⟨by rfl, ?_⟩) (by assumption) ?_
        rotate_left 1
        · (intro wy hSw; (try dsimp only at hSw); go_simp; try with_reducible rfl)
        (try simp only [Act.put])
        refine wpAnyH_take (i := 2) (oi := _) (v := ?_) rfl (by kernel_rfl) (by kernel_rfl) (by kernel_rfl) (fun _ _ _ h => h) (Or.inl ⟨by rfl, ?_⟩) (by assumption) ?_
        rotate_left 1
        · (intro wy hSw; (try dsimp only at hSw); go_simp; try with_reducible rfl)
        (try simp only [Act.put])
        refine wpAnyH_take (i := 3) (oi := _) (v := ?_) rfl (by kernel_rfl) (by kernel_rfl) (by kernel_rfl) (fun _ _ _ h => h) (Or.inl ⟨by rfl, ?_⟩) (by assumption) ?_
        rotate_left 1
        · (intro wy hSw; (try dsimp only at hSw); go_simp; try with_reducible rfl)
        (try simp only [Act.put])
        refine wpAnyH_take (i := 4) (oi := _) (v := ?_) rfl (by kernel_rfl) (by kernel_rfl) (by kernel_rfl) (fun _ _ _ h => h) (Or.inl ⟨by rfl, ?_⟩) (by assumption) ?_
        rotate_left 1
        · (intro wy hSw; (try dsimp only at hSw); go_simp; try with_reducible rfl)
        (try simp only [Act.put])
        refine wpAnyH_take (i := 5) (oi := _) (v := ?_) rfl (by kernel_rfl) (by kernel_rfl) (by kernel_rfl) (fun _ _ _ h => h) (Or.inl ⟨by rfl, ?_⟩) (by assumption) ?_
        rotate_left 1
        · (intro wy hSw; (try dsimp only at hSw); go_simp; try with_reducible rfl)
        (try simp only [Act.put])
        refine wpAnyH_take (i := 6) (oi := _) (v := ?_) rfl (by kernel_rfl) (by kernel_rfl) (by kernel_rfl) (fun _ _ _ h => h) (Or.inl ⟨by rfl, ?_⟩) (by assumption) ?_
        rotate_left 1
        · (intro wy hSw; (try dsimp only at hSw); go_simp; try with_reducible rfl)
        (try simp only [Act.put])
        refine wpAnyH_ready (rs := [7, 8]) (by kernel_rfl) (by simp) ?_
        refine AllReadyH.cons (o := _) rfl (fun K9 hK9 => ?_) (AllReadyH.cons (o := _) rfl (fun K9 hK9 => ?_) AllReadyH.nil)
        · go_simp
          refine (HSe _).mono ?_
          rintro r w3 ⟨x, hx, rfl, hox, hb3⟩
          have l3 := later hb3
          have l33 : Later w3 w3 := Later.refl
          (try dsimp only)
          refine hK9.out _ _ (by intro b _; infer_instance) (fun hHeld => ?_)
          clear hK9 K9
          (try simp only [Act.put])
          refine wpAnyH_ready (rs := [8]) (by kernel_rfl) (by simp) ?_
          refine AllReadyH.cons (o := _) rfl (fun K9 hK9 => ?_) AllReadyH.nil
          go_simp
          refine hK9.out _ _ (by intro b _; infer_instance) (fun hHeld => ?_)
          clear hK9 K9
          (try simp only [Act.put])
          refine wpAnyH_ready (rs := [9]) (by kernel_rfl) (by simp) ?_
          refine AllReadyH.cons (o := _) rfl (fun K9 hK9 => ?_) AllReadyH.nil
          go_simp
          refine hK9.out _ _ (by intro b _; infer_instance) (fun hHeld => ?_)
          clear hK9 K9
          (try simp only [Act.put])
          refine wpAnyH_done (by kernel_rfl) ?_ _
          go_wp2_with fail
          go_meet
          have hbr3 : Below wr.heap.size wr w3 := below_of
          exact ⟨w3.heap.size, x, rfl, hbr3.size, hx, heap_alloc_new _ _, (hox.below ((Below.refl _ _).alloc (Nat.le_refl _) _)).mono (Nat.le_refl _), hbr3.alloc hbr3.size _⟩
        · go_simp
          have bx : (wr.drew.alloc (.cells #[.int .i64 0, .int .u64 0, .bool false, .int .i64 0, .slice none 0 0] 41)).heap[wr.heap.size]? = some (.cells #[.int .i64 0, .int .u64 0, .bool false, .int .i64 0, .slice none 0 0] 41 (0, 0)) := heap_alloc_new _ _
          refine hK9.out _ _ (by intro b _; infer_instance) (fun hHeld => ?_)
          clear hK9 K9
          (try simp only [Act.put])
          refine wpAnyH_ready (rs := [7]) (by kernel_rfl) (by simp) ?_
          refine AllReadyH.cons (o := _) rfl (fun K9 hK9 => ?_) AllReadyH.nil
          go_simp
          refine (HSe _).mono ?_
          rintro r w3 ⟨x, hx, rfl, hox, hb3⟩
          have l3 := later hb3
          have l33 : Later w3 w3 := Later.refl
          have bx2 := blk_below bx hb3
          have BX2 := boxed bx2
          (try dsimp only)
          refine hK9.out _ _ (by intro b _; infer_instance) (fun hHeld => ?_)
          clear hK9 K9
          (try simp only [Act.put])
          refine wpAnyH_ready (rs := [9]) (by kernel_rfl) (by simp) ?_
          refine AllReadyH.cons (o := _) rfl (fun K9 hK9 => ?_) AllReadyH.nil
          go_simp
          have hbr3 : Below wr.heap.size wr w3 := below_of
          have hLs := later (below_set5 (v0 := .int .i64 x.owner) (v1 := .int .u64 x.number) (v2 := .bool x.rooted) (v3 := .int .i64 x.distance) (v4 := .slice x.A x.inset.length x.c) hbr3 (Nat.le_refl _))
          refine hK9.out _ _ (by exact hLs) (fun hHeld => ?_)
          clear hK9 K9
          (try simp only [Act.put])
          refine wpAnyH_done (by kernel_rfl) ?_ _
          go_wp2_with fail
          go_meet
          have hzb : wr.heap.size < (wr.drew.alloc (.cells #[.int .i64 0, .int .u64 0, .bool false, .int .i64 0, .slice none 0 0] 41)).heap.size := by simp only [World.size_alloc, heap_drew]; omega
          exact ⟨wr.heap.size, x, rfl, Nat.le_refl _, hx, blk_set5 bx2, (((((hox.set (p := ⟨wr.heap.size, 0, none⟩) hzb _).set (p := ⟨wr.heap.size, 1, none⟩) hzb _).set (p := ⟨wr.heap.size, 2, none⟩) hzb _).set (p := ⟨wr.heap.size, 3, none⟩) hzb _).set (p := ⟨wr.heap.size, 4, none⟩) hzb _).mono (Nat.le_of_lt hzb), below_set5 hbr3 (Nat.le_refl _)⟩
      case rest =>
        obtain ⟨g13, ⟨xo, xn, xr, xd, xA, xc, xi⟩, rfl, hg13, hx, hb13, hxo, hbc⟩ := hcut
        have hxx : sm = ⟨xo, xn, xr, xd, xi⟩ := hx.out.symm
        subst hxx
        have lc := later hbc
        have lcc : Later wc wc := Later.refl
        have hb0c := hbr.trans (hbc.mono hbr.size)
        have h11c := blk_below h11 hbc
        have hoqc := hoq.below hbc
        have hiqc := hiq.below hbc
        have hxc := hxo.mono hbr.size
        dsimp only at hxc
        have B13 : Boxed wc g13 #[.int .i64 xo, .int .u64 xn, .bool xr, .int .i64 xd, .slice xA xi.length xc] 41 := boxed hb13
        have BSc := boxed h11c
        have hg0 : w0.heap.size < g13 := Nat.lt_of_lt_of_le (blk_lt h11) hg13
        have HI : ∀ u [Later wc u], SlAt SumE.cells 5 u QA q := fun u i => ((hoqc.below i.below).at_ SumE.enc).2.2
        have SQ : ∀ u [Later wc u], SumsAt u QA q := fun u i => (hiqc.below i.below).sums (HI u)
        have hcap : q.length ≤ QC := (hoqc.at_ SumE.enc).2.1
        have hicm : QC ≤ 9223372036854775807 := by
          rcases hoqc.form with ⟨h, _⟩ | ⟨g, cap, h, _, _, _, h2⟩
          · injection h with _ _ h; omega
          · injection h with _ _ h; unfold maxLen at h2; omega
        have hqle := hql.out
        have hql63 : q.length ≤ 9223372036854775807 := by omega
        clear HSe hoq hiq h11 BS hxo hb13 hx
        go_wp2_with fail
        go_loopw [14] (fun av wr => ∃ a : Nat, a ≤ q.length ∧ av = .int .i64 a ∧ Hid (∀ j z, a ≤ j → (q.map SumE.con)[j]? = some z → ltC ⟨xo, xn, xr, xd, xi⟩ z = true) ∧ Below wc.heap.size wc wr) (fun av _ => (intOf av).toNat)
        case atStart => exact ⟨q.length, by omega, rfl, hide (fun j z h hz => by rw [List.getElem?_eq_none (by rw [List.length_map]; exact h)] at hz; cases hz), Below.refl _ _⟩
        case round =>
          obtain ⟨a, ha, rfl, hab, hbm⟩ := hrel
          have lm := later hbm
          have lmm : Later wr wr := Later.refl
          by_cases h0 : 0 < a
          · have hap : (0 : Int) < (a : Int) := by omega
            obtain ⟨p, hp⟩ : ∃ p, a = p + 1 := ⟨a - 1, by omega⟩
            have hai : (a : Int) - 1 = (p : Int) := by omega
            obtain ⟨b2, o2, z, rfl, hz, C2, -, -, -⟩ := (SQ wr).get (show p < q.length by omega)
            have hzc : (q.map SumE.con)[p]? = some z.con := by rw [List.getElem?_map, hz]; rfl
            obtain ⟨zo, zn, zr, zd, zA, zc, zi⟩ := z
            dsimp only [SumE.con] at C2 hzc
            have Hz := hide hzc
            have Hp := hide hp
            have hpl : p < q.length := by omega
            have hstep : lexN xo xn zo zn → Hid (∀ j z, p ≤ j → (q.map SumE.con)[j]? = some z → ltC ⟨xo, xn, xr, xd, xi⟩ z = true) := fun hlx => hide (fun j z' h hz' => by
              rcases Nat.lt_or_ge p j with h1 | h1
              · exact hab.out j z' (by have := Hp.out; omega) hz'
              · have : j = p := by omega
                subst this
                rw [Hz.out] at hz'; injection hz' with hz'; subst hz'; exact decide_eq_true hlx)
            have hstop : ¬ lexN xo xn zo zn → Hid (∀ p' z', p' + 1 = a → (q.map SumE.con)[p']? = some z' → ltC ⟨xo, xn, xr, xd, xi⟩ z' = false) := fun hlx => hide (fun p' z' h hz' => by
              have : p' = p := by have := Hp.out; omega
              subst this
              rw [Hz.out] at hz'; injection hz' with hz'; subst hz'; exact decide_eq_false hlx)
            clear hz hp hzc
            by_cases c1 : xo < zo
            · have Hab := hstep (.inl c1)
              clear hstep hstop
              go_upto_region 8 with fail
              (refine wp_region_after (by kernel_rfl) (by kernel_rfl) ?_
               repeat (any_goals (first | go_big_quiet_skip | (go_big_quiet_want; go_big_quiet_op; first | go_big_quiet_on | go_big_quiet_call (fail)) | quiet_step (fail) | (refine wpQuiet_step (fun K hK => ?_); go_simp; split <;> (refine hK _ ?_; clear hK K))))
               all_goals (refine wpQuiet_nil ?_; intro _ hw'; obtain ⟨u', hw''⟩ := hw'; subst hw''; obtain ⟨wd, hbd⟩ := u'; simp only [After.val_mk]))
              have ld := later hbd
              go_wp2_with fail
              go_roundw
              case rel => exact ⟨p, by omega, by go_num, Hab, below_of⟩
              case measure => simp [intOf]; have := Hp.out; omega
            have c1' : decide (xo < zo) = false := by simpa using c1
            by_cases c2 : zo = xo
            · have c2' : (zo == xo) = true := by simpa using c2
              by_cases c3 : xn < zn
              · have Hab := hstep (.inr ⟨c2.symm, c3⟩)
                clear hstep hstop c1 c2
                go_upto_region 8 with fail
                (refine wp_region_after (by kernel_rfl) (by kernel_rfl) ?_
                 repeat (any_goals (first | go_big_quiet_skip | (go_big_quiet_want; go_big_quiet_op; first | go_big_quiet_on | go_big_quiet_call (fail)) | quiet_step (fail) | (refine wpQuiet_step (fun K hK => ?_); go_simp; split <;> (refine hK _ ?_; clear hK K))))
                 all_goals (refine wpQuiet_nil ?_; intro _ hw'; obtain ⟨u', hw''⟩ := hw'; subst hw''; obtain ⟨wd, hbd⟩ := u'; simp only [After.val_mk]))
                have ld := later hbd
                go_wp2_with fail
                go_roundw
                case rel => exact ⟨p, by omega, by go_num, Hab, below_of⟩
                case measure => simp [intOf]; have := Hp.out; omega
              · have c3' : decide (xn < zn) = false := by simpa using c3
                have H2 := hstop (by unfold lexN; omega)
                clear hstep hstop c1 c2
                go_upto_region 8 with fail
                (refine wp_region_after (by kernel_rfl) (by kernel_rfl) ?_
                 repeat (any_goals (first | go_big_quiet_skip | (go_big_quiet_want; go_big_quiet_op; first | go_big_quiet_on | go_big_quiet_call (fail)) | quiet_step (fail) | (refine wpQuiet_step (fun K hK => ?_); go_simp; split <;> (refine hK _ ?_; clear hK K))))
                 all_goals (refine wpQuiet_nil ?_; intro _ hw'; obtain ⟨u', hw''⟩ := hw'; subst hw''; obtain ⟨wd, hbd⟩ := u'; simp only [After.val_mk]))
                have ld := later hbd
                have ldd : Later wd wd := Later.refl
                have hsrc : ∀ u [Later wc u], SlAt SumE.cells 5 u (if QC = a then some ⟨b2, o2, none⟩ else some ⟨b2, o2 + a * 5, none⟩) (q.drop a) := fun u i => by
                  split
                  · rw [List.drop_eq_nil_of_le (by omega)]; exact SlAt.nil
                  · exact SlAt.drop (HI u) a
                have HD := hide (show q.drop a = q.drop a from rfl)
                have htk : (q.take a).length = a := by rw [List.length_take]; omega
                have hdk : (q.drop a).length = q.length - a := by rw [List.length_drop]
                have hk0 : (0 : Int) ≤ (a : Int) := by omega
                have hkc : (a : Int) ≤ (QC : Int) := by omega
                have hkll : (a : Int) ≤ (q.length : Int) := by omega
                have lwcd : Later wc wd := (inferInstance : Later wc wd)
                have hb0d : Below w0.heap.size w0 wd := hb0c.trans (lwcd.below.mono hb0c.size)
                have hSd := blk_below h11c lwcd.below
                have BSd := boxed hSd
                have hiqd := hiqc.below lwcd.below
                have hxd := hxc.below lwcd.below
                have B13d : Boxed wd g13 #[.int .i64 xo, .int .u64 xn, .bool xr, .int .i64 xd, .slice xA xi.length xc] 41 := boxed_later B13
                have hne13 : g13 ≠ w0.heap.size := by omega
                go_upto_region 11 with (at_builtin; refine wpList_appE rfl (.tmp 87) (.tmp 91) rfl SumE.enc sumT _ _ (q.take a) rfl (by rw [htk]; rfl) ((HI _).take _) (by omega) (by unfold maxLen; omega) ?_; intro Ab cb w12 ho12 hm12 hb12; rw [htk] at ho12; have l12 := later hb12; have l1212 : Later w12 w12 := Later.refl)
                have hz12 : wd.heap.size ≤ w12.heap.size := hb12.size
                refine wp_region_held_drew (S := fun w' => ∀ i : Nat, w'.cell? ⟨g13, i, none⟩ = (#[.int .i64 xo, .int .u64 xn, .bool xr, .int .i64 xd, .slice xA xi.length xc] : Array Value)[i]?) (by kernel_rfl) (fun i => ((B13d _).2 i).1) (fun hHeld => ?_)
                refine wpAnyH_take (i := 0) (oi := _) (v := ?_) rfl (by kernel_rfl) (by kernel_rfl) (by kernel_rfl) (fun _ _ _ h => h) (Or.inl ⟨by rfl, ?_⟩) (by assumption) ?_
                rotate_left 1
                · (intro wy hSw; (try dsimp only at hSw); go_simp; try with_reducible rfl)
                (try simp only [Act.put])
                refine wpAnyH_take (i := 1) (oi := _) (v := ?_) rfl (by kernel_rfl) (by kernel_rfl) (by kernel_rfl) (fun _ _ _ h => h) (Or.inl ⟨by rfl, ?_⟩) (by assumption) ?_
                rotate_left 1
                · (intro wy hSw; (try dsimp only at hSw); go_simp; try with_reducible rfl)
                (try simp only [Act.put])
                refine wpAnyH_take (i := 4) (oi := _) (v := ?_) rfl (by kernel_rfl) (by kernel_rfl) (by kernel_rfl) (fun _ _ _ h => h) (Or.inl ⟨by rfl, ?_⟩) (by assumption) ?_
                rotate_left 1
                · (intro wy hSw; (try dsimp only at hSw); go_simp; try with_reducible rfl)
                (try simp only [Act.put])
                refine wpAnyH_take (i := 6) (oi := _) (v := ?_) rfl (by kernel_rfl) (by kernel_rfl) (by kernel_rfl) (fun _ _ _ h => h) (Or.inl ⟨by rfl, ?_⟩) (by assumption) ?_
                rotate_left 1
                · (intro wy hSw; (try dsimp only at hSw); go_simp; try with_reducible rfl)
                (try simp only [Act.put])
                refine wpAnyH_ready (rs := [2, 5]) (by kernel_rfl) (by simp) ?_
                refine AllReadyH.cons (o := _) rfl (fun K9 hK9 => ?_) (AllReadyH.cons (o := _) rfl (fun K9 hK9 => ?_) AllReadyH.nil)
                · go_simp
                  refine hK9.out _ _ (fun i => ((B13d _).2 i).1) (fun hHeld => ?_)
                  clear hK9 K9
                  (try simp only [Act.put])
                  refine wpAnyH_ready (rs := [3, 5]) (by kernel_rfl) (by simp) ?_
                  refine AllReadyH.cons (o := _) rfl (fun K9 hK9 => ?_) (AllReadyH.cons (o := _) rfl (fun K9 hK9 => ?_) AllReadyH.nil)
                  · refine step_app (P := Try.prog) rfl (.tmp 93) (.tmp 95) (by rfl) SumE.enc sumT _ _ [(⟨xo, xn, xr, xd, xA, xc, xi⟩ : SumE)] (q.take a) (.slice Ab a cb) (by rfl) (by rfl) (m := 1) (n := a + 1) rfl (by rw [htk]) (ho12.later _) (blk_slAt SumE.enc (fr := (0, 0)) (e := 41) (heap_alloc_new _ _) [(⟨xo, xn, xr, xd, xA, xc, xi⟩ : SumE)] rfl) (by omega) (by unfold maxLen; omega) (by simp only [heap_drew, World.size_alloc]; omega) ?_
                    intro A2 c2 w13 ho13 hm13 hb13 hg13
                    have l13 := later_base (W := wd) hb13
                    have l1313 : Later w13 w13 := Later.refl
                    have hz13' : wd.heap.size ≤ w13.heap.size := (l13 wd).below.size
                    refine hK9.out _ _ (fun i => ((B13d _).2 i).1) (fun hHeld => ?_)
                    clear hK9 K9
                    (try simp only [Act.put])
                    refine wpAnyH_ready (rs := [5]) (by kernel_rfl) (by simp) ?_
                    refine AllReadyH.cons (o := _) rfl (fun K9 hK9 => ?_) AllReadyH.nil
                    go_simp
                    refine hK9.out _ _ (fun i => ((B13d _).2 i).1) (fun hHeld => ?_)
                    clear hK9 K9
                    (try simp only [Act.put])
                    refine wpAnyH_take (i := 7) (oi := _) (v := ?_) rfl (by kernel_rfl) (by kernel_rfl) (by kernel_rfl) (fun _ _ _ h => h) (Or.inl ⟨by rfl, ?_⟩) (by assumption) ?_
                    rotate_left 1
                    · (intro wy hSw; (try dsimp only at hSw); go_simp; try with_reducible rfl)
                    (try simp only [Act.put])
                    refine wpAnyH_ready (rs := [8]) (by kernel_rfl) (by simp) ?_
                    refine AllReadyH.cons (o := _) rfl (fun K9 hK9 => ?_) AllReadyH.nil
                    refine step_app (P := Try.prog) rfl (.tmp 96) (.tmp 100) (by rfl) SumE.enc sumT (if QC = a then some ⟨b2, o2, none⟩ else some ⟨b2, o2 + a * 5, none⟩) (QC - a) (q.drop a) (q.take a ++ [(⟨xo, xn, xr, xd, xA, xc, xi⟩ : SumE)]) (.slice A2 (a + 1) c2) (by rfl) (by rfl) (m := q.length - a) (n := q.length + 1) hdk (by simp only [List.length_append, htk, List.length_singleton] <;> omega) (ho13.later _) (hsrc _) (by omega) (by unfold maxLen; omega) (by (try simp only [heap_drew, World.size_alloc]); omega) ?_
                    intro A3 c3 w14 ho14 hm14 hb14 hg14
                    have l14 := later_base (W := wd) hb14
                    have l1414 : Later w14 w14 := Later.refl
                    refine hK9.out _ _ (fun i => ((B13d _).2 i).1) (fun hHeld => ?_)
                    clear hK9 K9
                    (try simp only [Act.put])
                    refine wpAnyH_take (i := 9) (oi := _) (v := ?_) rfl (by kernel_rfl) (by kernel_rfl) (by kernel_rfl) (fun _ _ _ h => h) (Or.inl ⟨by rfl, ?_⟩) (by assumption) ?_
                    rotate_left 1
                    · (intro wy hSw; (try dsimp only at hSw); go_simp; try with_reducible rfl)
                    (try simp only [Act.put])
                    refine wpAnyH_ready (rs := [10]) (by kernel_rfl) (by simp) ?_
                    refine AllReadyH.cons (o := _) rfl (fun K9 hK9 => ?_) AllReadyH.nil
                    go_simp
                    refine hK9.out _ _ (fun i => blk_cell ((blk_far (p := ⟨w0.heap.size, 1, none⟩) hne13 _).trans (B13d w14).1) i) (fun hHeld => ?_)
                    clear hK9 K9
                    (try simp only [Act.put])
                    refine wpAnyH_done (by kernel_rfl) ?_ _
                    go_wp2_with fail
                    have hbd14 : Below wd.heap.size wd w14 := (l14 wd).below
                    have hS14 := blk_below hSd hbd14
                    have hz0d : w0.heap.size ≤ wd.heap.size := hb0d.size
                    have ho14m := ho14.mono hz0d
                    have ho14e := ho14m.far (p := ⟨w0.heap.size, 1, none⟩) (own_off ho14m hS14 (by decide)) (.slice A3 (q.length + 1) c3)
                    have hNL := hide (ho14.at_ SumE.enc).1
                    have hiq14 : InsOwn w0.heap.size (w14.setCell ⟨w0.heap.size, 1, none⟩ (.slice A3 (q.length + 1) c3)) (q.take a ++ [(⟨xo, xn, xr, xd, xA, xc, xi⟩ : SumE)] ++ (q.drop a)) := fun n hn => by
                      have h1 : Own InsetE.cells 3 58 w0.heap.size w14 (.slice n.A n.inset.length n.c) n.inset := by
                        rcases List.mem_append.1 hn with hn | hn
                        · rcases List.mem_append.1 hn with hn | hn
                          · exact (hiqd n (List.mem_of_mem_take hn)).below hbd14
                          · rw [List.mem_singleton] at hn; subst hn; exact hxd.below hbd14
                        · exact (hiqd n (by rw [← HD.out] at hn; exact List.mem_of_mem_drop hn)).below hbd14
                      exact h1.far (p := ⟨w0.heap.size, 1, none⟩) (own_off h1 hS14 (by decide)) _
                    have hbE := (hb0d.trans (hbd14.mono hz0d)).setCell (p := ⟨w0.heap.size, 1, none⟩) (Nat.le_refl _) (.slice A3 (q.length + 1) c3)
                    have hins := insert_sortL ltC_swo (M := ((es.take k).filter aliveB).map (sumOf (conL l) roots ks)) (y := (⟨xo, xn, xr, xd, xi⟩ : SumC)) (a := a) (by rw [← hq.out, List.length_map]; omega) (by rw [← hq.out]; exact hab.out) (by rw [← hq.out]; exact H2.out)
                    rw [← hq.out, ← List.map_take, ← List.map_drop, HD.out] at hins
                    go_roundw
                    case rel => exact ⟨k + 1, q.take a ++ [(⟨xo, xn, xr, xd, xA, xc, xi⟩ : SumE)] ++ (q.drop a), A3, c3, by omega, by go_num, hide (by rw [HT2.out, ← hins]; simp [SumE.con]), hide (by rw [← hNL.out]; have := hql.out; omega), by rw [← hNL.out]; exact ho14e, hiq14, by rw [← hNL.out]; exact (blk_set hS14 1 _).trans rfl, hbE⟩
                    case measure => simp [intOf]; omega
                  · go_simp
                    refine hK9.out _ _ (fun i => ((B13d _).2 i).1) (fun hHeld => ?_)
                    clear hK9 K9
                    (try simp only [Act.put])
                    refine wpAnyH_take (i := 7) (oi := _) (v := ?_) rfl (by kernel_rfl) (by kernel_rfl) (by kernel_rfl) (fun _ _ _ h => h) (Or.inl ⟨by rfl, ?_⟩) (by assumption) ?_
                    rotate_left 1
                    · (intro wy hSw; (try dsimp only at hSw); go_simp; try with_reducible rfl)
                    (try simp only [Act.put])
                    refine wpAnyH_ready (rs := [3]) (by kernel_rfl) (by simp) ?_
                    refine AllReadyH.cons (o := _) rfl (fun K9 hK9 => ?_) AllReadyH.nil
                    refine step_app (P := Try.prog) rfl (.tmp 93) (.tmp 95) (by rfl) SumE.enc sumT _ _ [(⟨xo, xn, xr, xd, xA, xc, xi⟩ : SumE)] (q.take a) (.slice Ab a cb) (by rfl) (by rfl) (m := 1) (n := a + 1) rfl (by rw [htk]) (ho12.later _) (blk_slAt SumE.enc (fr := (0, 0)) (e := 41) (heap_alloc_new _ _) [(⟨xo, xn, xr, xd, xA, xc, xi⟩ : SumE)] rfl) (by omega) (by unfold maxLen; omega) (by simp only [heap_drew, World.size_alloc]; omega) ?_
                    intro A2 c2 w13 ho13 hm13 hb13 hg13
                    have l13 := later_base (W := wd) hb13
                    have l1313 : Later w13 w13 := Later.refl
                    have hz13' : wd.heap.size ≤ w13.heap.size := (l13 wd).below.size
                    refine hK9.out _ _ (fun i => ((B13d _).2 i).1) (fun hHeld => ?_)
                    clear hK9 K9
                    (try simp only [Act.put])
                    refine wpAnyH_ready (rs := [8]) (by kernel_rfl) (by simp) ?_
                    refine AllReadyH.cons (o := _) rfl (fun K9 hK9 => ?_) AllReadyH.nil
                    refine step_app (P := Try.prog) rfl (.tmp 96) (.tmp 100) (by rfl) SumE.enc sumT (if QC = a then some ⟨b2, o2, none⟩ else some ⟨b2, o2 + a * 5, none⟩) (QC - a) (q.drop a) (q.take a ++ [(⟨xo, xn, xr, xd, xA, xc, xi⟩ : SumE)]) (.slice A2 (a + 1) c2) (by rfl) (by rfl) (m := q.length - a) (n := q.length + 1) hdk (by simp only [List.length_append, htk, List.length_singleton] <;> omega) (ho13.later _) (hsrc _) (by omega) (by unfold maxLen; omega) (by (try simp only [heap_drew, World.size_alloc]); omega) ?_
                    intro A3 c3 w14 ho14 hm14 hb14 hg14
                    have l14 := later_base (W := wd) hb14
                    have l1414 : Later w14 w14 := Later.refl
                    refine hK9.out _ _ (fun i => ((B13d _).2 i).1) (fun hHeld => ?_)
                    clear hK9 K9
                    (try simp only [Act.put])
                    refine wpAnyH_take (i := 9) (oi := _) (v := ?_) rfl (by kernel_rfl) (by kernel_rfl) (by kernel_rfl) (fun _ _ _ h => h) (Or.inl ⟨by rfl, ?_⟩) (by assumption) ?_
                    rotate_left 1
                    · (intro wy hSw; (try dsimp only at hSw); go_simp; try with_reducible rfl)
                    (try simp only [Act.put])
                    refine wpAnyH_ready (rs := [10]) (by kernel_rfl) (by simp) ?_
                    refine AllReadyH.cons (o := _) rfl (fun K9 hK9 => ?_) AllReadyH.nil
                    go_simp
                    refine hK9.out _ _ (fun i => blk_cell ((blk_far (p := ⟨w0.heap.size, 1, none⟩) hne13 _).trans (B13d w14).1) i) (fun hHeld => ?_)
                    clear hK9 K9
                    (try simp only [Act.put])
                    refine wpAnyH_done (by kernel_rfl) ?_ _
                    go_wp2_with fail
                    have hbd14 : Below wd.heap.size wd w14 := (l14 wd).below
                    have hS14 := blk_below hSd hbd14
                    have hz0d : w0.heap.size ≤ wd.heap.size := hb0d.size
                    have ho14m := ho14.mono hz0d
                    have ho14e := ho14m.far (p := ⟨w0.heap.size, 1, none⟩) (own_off ho14m hS14 (by decide)) (.slice A3 (q.length + 1) c3)
                    have hNL := hide (ho14.at_ SumE.enc).1
                    have hiq14 : InsOwn w0.heap.size (w14.setCell ⟨w0.heap.size, 1, none⟩ (.slice A3 (q.length + 1) c3)) (q.take a ++ [(⟨xo, xn, xr, xd, xA, xc, xi⟩ : SumE)] ++ (q.drop a)) := fun n hn => by
                      have h1 : Own InsetE.cells 3 58 w0.heap.size w14 (.slice n.A n.inset.length n.c) n.inset := by
                        rcases List.mem_append.1 hn with hn | hn
                        · rcases List.mem_append.1 hn with hn | hn
                          · exact (hiqd n (List.mem_of_mem_take hn)).below hbd14
                          · rw [List.mem_singleton] at hn; subst hn; exact hxd.below hbd14
                        · exact (hiqd n (by rw [← HD.out] at hn; exact List.mem_of_mem_drop hn)).below hbd14
                      exact h1.far (p := ⟨w0.heap.size, 1, none⟩) (own_off h1 hS14 (by decide)) _
                    have hbE := (hb0d.trans (hbd14.mono hz0d)).setCell (p := ⟨w0.heap.size, 1, none⟩) (Nat.le_refl _) (.slice A3 (q.length + 1) c3)
                    have hins := insert_sortL ltC_swo (M := ((es.take k).filter aliveB).map (sumOf (conL l) roots ks)) (y := (⟨xo, xn, xr, xd, xi⟩ : SumC)) (a := a) (by rw [← hq.out, List.length_map]; omega) (by rw [← hq.out]; exact hab.out) (by rw [← hq.out]; exact H2.out)
                    rw [← hq.out, ← List.map_take, ← List.map_drop, HD.out] at hins
                    go_roundw
                    case rel => exact ⟨k + 1, q.take a ++ [(⟨xo, xn, xr, xd, xA, xc, xi⟩ : SumE)] ++ (q.drop a), A3, c3, by omega, by go_num, hide (by rw [HT2.out, ← hins]; simp [SumE.con]), hide (by rw [← hNL.out]; have := hql.out; omega), by rw [← hNL.out]; exact ho14e, hiq14, by rw [← hNL.out]; exact (blk_set hS14 1 _).trans rfl, hbE⟩
                    case measure => simp [intOf]; omega
                · go_simp
                  refine hK9.out _ _ (fun i => ((B13d _).2 i).1) (fun hHeld => ?_)
                  clear hK9 K9
                  (try simp only [Act.put])
                  refine wpAnyH_take (i := 7) (oi := _) (v := ?_) rfl (by kernel_rfl) (by kernel_rfl) (by kernel_rfl) (fun _ _ _ h => h) (Or.inl ⟨by rfl, ?_⟩) (by assumption) ?_
                  rotate_left 1
                  · (intro wy hSw; (try dsimp only at hSw); go_simp; try with_reducible rfl)
                  (try simp only [Act.put])
                  refine wpAnyH_ready (rs := [2]) (by kernel_rfl) (by simp) ?_
                  refine AllReadyH.cons (o := _) rfl (fun K9 hK9 => ?_) AllReadyH.nil
                  go_simp
                  refine hK9.out _ _ (fun i => ((B13d _).2 i).1) (fun hHeld => ?_)
                  clear hK9 K9
                  (try simp only [Act.put])
                  refine wpAnyH_ready (rs := [3]) (by kernel_rfl) (by simp) ?_
                  refine AllReadyH.cons (o := _) rfl (fun K9 hK9 => ?_) AllReadyH.nil
                  refine step_app (P := Try.prog) rfl (.tmp 93) (.tmp 95) (by rfl) SumE.enc sumT _ _ [(⟨xo, xn, xr, xd, xA, xc, xi⟩ : SumE)] (q.take a) (.slice Ab a cb) (by rfl) (by rfl) (m := 1) (n := a + 1) rfl (by rw [htk]) (ho12.later _) (blk_slAt SumE.enc (fr := (0, 0)) (e := 41) (heap_alloc_new _ _) [(⟨xo, xn, xr, xd, xA, xc, xi⟩ : SumE)] rfl) (by omega) (by unfold maxLen; omega) (by simp only [heap_drew, World.size_alloc]; omega) ?_
                  intro A2 c2 w13 ho13 hm13 hb13 hg13
                  have l13 := later_base (W := wd) hb13
                  have l1313 : Later w13 w13 := Later.refl
                  have hz13' : wd.heap.size ≤ w13.heap.size := (l13 wd).below.size
                  refine hK9.out _ _ (fun i => ((B13d _).2 i).1) (fun hHeld => ?_)
                  clear hK9 K9
                  (try simp only [Act.put])
                  refine wpAnyH_ready (rs := [8]) (by kernel_rfl) (by simp) ?_
                  refine AllReadyH.cons (o := _) rfl (fun K9 hK9 => ?_) AllReadyH.nil
                  refine step_app (P := Try.prog) rfl (.tmp 96) (.tmp 100) (by rfl) SumE.enc sumT (if QC = a then some ⟨b2, o2, none⟩ else some ⟨b2, o2 + a * 5, none⟩) (QC - a) (q.drop a) (q.take a ++ [(⟨xo, xn, xr, xd, xA, xc, xi⟩ : SumE)]) (.slice A2 (a + 1) c2) (by rfl) (by rfl) (m := q.length - a) (n := q.length + 1) hdk (by simp only [List.length_append, htk, List.length_singleton] <;> omega) (ho13.later _) (hsrc _) (by omega) (by unfold maxLen; omega) (by (try simp only [heap_drew, World.size_alloc]); omega) ?_
                  intro A3 c3 w14 ho14 hm14 hb14 hg14
                  have l14 := later_base (W := wd) hb14
                  have l1414 : Later w14 w14 := Later.refl
                  refine hK9.out _ _ (fun i => ((B13d _).2 i).1) (fun hHeld => ?_)
                  clear hK9 K9
                  (try simp only [Act.put])
                  refine wpAnyH_take (i := 9) (oi := _) (v := ?_) rfl (by kernel_rfl) (by kernel_rfl) (by kernel_rfl) (fun _ _ _ h => h) (Or.inl ⟨by rfl, ?_⟩) (by assumption) ?_
                  rotate_left 1
                  · (intro wy hSw; (try dsimp only at hSw); go_simp; try with_reducible rfl)
                  (try simp only [Act.put])
                  refine wpAnyH_ready (rs := [10]) (by kernel_rfl) (by simp) ?_
                  refine AllReadyH.cons (o := _) rfl (fun K9 hK9 => ?_) AllReadyH.nil
                  go_simp
                  refine hK9.out _ _ (fun i => blk_cell ((blk_far (p := ⟨w0.heap.size, 1, none⟩) hne13 _).trans (B13d w14).1) i) (fun hHeld => ?_)
                  clear hK9 K9
                  (try simp only [Act.put])
                  refine wpAnyH_done (by kernel_rfl) ?_ _
                  go_wp2_with fail
                  have hbd14 : Below wd.heap.size wd w14 := (l14 wd).below
                  have hS14 := blk_below hSd hbd14
                  have hz0d : w0.heap.size ≤ wd.heap.size := hb0d.size
                  have ho14m := ho14.mono hz0d
                  have ho14e := ho14m.far (p := ⟨w0.heap.size, 1, none⟩) (own_off ho14m hS14 (by decide)) (.slice A3 (q.length + 1) c3)
                  have hNL := hide (ho14.at_ SumE.enc).1
                  have hiq14 : InsOwn w0.heap.size (w14.setCell ⟨w0.heap.size, 1, none⟩ (.slice A3 (q.length + 1) c3)) (q.take a ++ [(⟨xo, xn, xr, xd, xA, xc, xi⟩ : SumE)] ++ (q.drop a)) := fun n hn => by
                    have h1 : Own InsetE.cells 3 58 w0.heap.size w14 (.slice n.A n.inset.length n.c) n.inset := by
                      rcases List.mem_append.1 hn with hn | hn
                      · rcases List.mem_append.1 hn with hn | hn
                        · exact (hiqd n (List.mem_of_mem_take hn)).below hbd14
                        · rw [List.mem_singleton] at hn; subst hn; exact hxd.below hbd14
                      · exact (hiqd n (by rw [← HD.out] at hn; exact List.mem_of_mem_drop hn)).below hbd14
                    exact h1.far (p := ⟨w0.heap.size, 1, none⟩) (own_off h1 hS14 (by decide)) _
                  have hbE := (hb0d.trans (hbd14.mono hz0d)).setCell (p := ⟨w0.heap.size, 1, none⟩) (Nat.le_refl _) (.slice A3 (q.length + 1) c3)
                  have hins := insert_sortL ltC_swo (M := ((es.take k).filter aliveB).map (sumOf (conL l) roots ks)) (y := (⟨xo, xn, xr, xd, xi⟩ : SumC)) (a := a) (by rw [← hq.out, List.length_map]; omega) (by rw [← hq.out]; exact hab.out) (by rw [← hq.out]; exact H2.out)
                  rw [← hq.out, ← List.map_take, ← List.map_drop, HD.out] at hins
                  go_roundw
                  case rel => exact ⟨k + 1, q.take a ++ [(⟨xo, xn, xr, xd, xA, xc, xi⟩ : SumE)] ++ (q.drop a), A3, c3, by omega, by go_num, hide (by rw [HT2.out, ← hins]; simp [SumE.con]), hide (by rw [← hNL.out]; have := hql.out; omega), by rw [← hNL.out]; exact ho14e, hiq14, by rw [← hNL.out]; exact (blk_set hS14 1 _).trans rfl, hbE⟩
                  case measure => simp [intOf]; omega
            · have c2' : (zo == xo) = false := by simpa using c2
              have H2 := hstop (by unfold lexN; omega)
              clear hstep hstop c1 c2
              go_upto_region 8 with fail
              (refine wp_region_after (by kernel_rfl) (by kernel_rfl) ?_
               repeat (any_goals (first | go_big_quiet_skip | (go_big_quiet_want; go_big_quiet_op; first | go_big_quiet_on | go_big_quiet_call (fail)) | quiet_step (fail) | (refine wpQuiet_step (fun K hK => ?_); go_simp; split <;> (refine hK _ ?_; clear hK K))))
               all_goals (refine wpQuiet_nil ?_; intro _ hw'; obtain ⟨u', hw''⟩ := hw'; subst hw''; obtain ⟨wd, hbd⟩ := u'; simp only [After.val_mk]))
              have ld := later hbd
              have ldd : Later wd wd := Later.refl
              have hsrc : ∀ u [Later wc u], SlAt SumE.cells 5 u (if QC = a then some ⟨b2, o2, none⟩ else some ⟨b2, o2 + a * 5, none⟩) (q.drop a) := fun u i => by
                split
                · rw [List.drop_eq_nil_of_le (by omega)]; exact SlAt.nil
                · exact SlAt.drop (HI u) a
              have HD := hide (show q.drop a = q.drop a from rfl)
              have htk : (q.take a).length = a := by rw [List.length_take]; omega
              have hdk : (q.drop a).length = q.length - a := by rw [List.length_drop]
              have hk0 : (0 : Int) ≤ (a : Int) := by omega
              have hkc : (a : Int) ≤ (QC : Int) := by omega
              have hkll : (a : Int) ≤ (q.length : Int) := by omega
              have lwcd : Later wc wd := (inferInstance : Later wc wd)
              have hb0d : Below w0.heap.size w0 wd := hb0c.trans (lwcd.below.mono hb0c.size)
              have hSd := blk_below h11c lwcd.below
              have BSd := boxed hSd
              have hiqd := hiqc.below lwcd.below
              have hxd := hxc.below lwcd.below
              have B13d : Boxed wd g13 #[.int .i64 xo, .int .u64 xn, .bool xr, .int .i64 xd, .slice xA xi.length xc] 41 := boxed_later B13
              have hne13 : g13 ≠ w0.heap.size := by omega
              go_upto_region 11 with (at_builtin; refine wpList_appE rfl (.tmp 87) (.tmp 91) rfl SumE.enc sumT _ _ (q.take a) rfl (by rw [htk]; rfl) ((HI _).take _) (by omega) (by unfold maxLen; omega) ?_; intro Ab cb w12 ho12 hm12 hb12; rw [htk] at ho12; have l12 := later hb12; have l1212 : Later w12 w12 := Later.refl)
              have hz12 : wd.heap.size ≤ w12.heap.size := hb12.size
              refine wp_region_held_drew (S := fun w' => ∀ i : Nat, w'.cell? ⟨g13, i, none⟩ = (#[.int .i64 xo, .int .u64 xn, .bool xr, .int .i64 xd, .slice xA xi.length xc] : Array Value)[i]?) (by kernel_rfl) (fun i => ((B13d _).2 i).1) (fun hHeld => ?_)
              refine wpAnyH_take (i := 0) (oi := _) (v := ?_) rfl (by kernel_rfl) (by kernel_rfl) (by kernel_rfl) (fun _ _ _ h => h) (Or.inl ⟨by rfl, ?_⟩) (by assumption) ?_
              rotate_left 1
              · (intro wy hSw; (try dsimp only at hSw); go_simp; try with_reducible rfl)
              (try simp only [Act.put])
              refine wpAnyH_take (i := 1) (oi := _) (v := ?_) rfl (by kernel_rfl) (by kernel_rfl) (by kernel_rfl) (fun _ _ _ h => h) (Or.inl ⟨by rfl, ?_⟩) (by assumption) ?_
              rotate_left 1
              · (intro wy hSw; (try dsimp only at hSw); go_simp; try with_reducible rfl)
              (try simp only [Act.put])
              refine wpAnyH_take (i := 4) (oi := _) (v := ?_) rfl (by kernel_rfl) (by kernel_rfl) (by kernel_rfl) (fun _ _ _ h => h) (Or.inl ⟨by rfl, ?_⟩) (by assumption) ?_
              rotate_left 1
              · (intro wy hSw; (try dsimp only at hSw); go_simp; try with_reducible rfl)
              (try simp only [Act.put])
              refine wpAnyH_take (i := 6) (oi := _) (v := ?_) rfl (by kernel_rfl) (by kernel_rfl) (by kernel_rfl) (fun _ _ _ h => h) (Or.inl ⟨by rfl, ?_⟩) (by assumption) ?_
              rotate_left 1
              · (intro wy hSw; (try dsimp only at hSw); go_simp; try with_reducible rfl)
              (try simp only [Act.put])
              refine wpAnyH_ready (rs := [2, 5]) (by kernel_rfl) (by simp) ?_
              refine AllReadyH.cons (o := _) rfl (fun K9 hK9 => ?_) (AllReadyH.cons (o := _) rfl (fun K9 hK9 => ?_) AllReadyH.nil)
              · go_simp
                refine hK9.out _ _ (fun i => ((B13d _).2 i).1) (fun hHeld => ?_)
                clear hK9 K9
                (try simp only [Act.put])
                refine wpAnyH_ready (rs := [3, 5]) (by kernel_rfl) (by simp) ?_
                refine AllReadyH.cons (o := _) rfl (fun K9 hK9 => ?_) (AllReadyH.cons (o := _) rfl (fun K9 hK9 => ?_) AllReadyH.nil)
                · refine step_app (P := Try.prog) rfl (.tmp 93) (.tmp 95) (by rfl) SumE.enc sumT _ _ [(⟨xo, xn, xr, xd, xA, xc, xi⟩ : SumE)] (q.take a) (.slice Ab a cb) (by rfl) (by rfl) (m := 1) (n := a + 1) rfl (by rw [htk]) (ho12.later _) (blk_slAt SumE.enc (fr := (0, 0)) (e := 41) (heap_alloc_new _ _) [(⟨xo, xn, xr, xd, xA, xc, xi⟩ : SumE)] rfl) (by omega) (by unfold maxLen; omega) (by simp only [heap_drew, World.size_alloc]; omega) ?_
                  intro A2 c2 w13 ho13 hm13 hb13 hg13
                  have l13 := later_base (W := wd) hb13
                  have l1313 : Later w13 w13 := Later.refl
                  have hz13' : wd.heap.size ≤ w13.heap.size := (l13 wd).below.size
                  refine hK9.out _ _ (fun i => ((B13d _).2 i).1) (fun hHeld => ?_)
                  clear hK9 K9
                  (try simp only [Act.put])
                  refine wpAnyH_ready (rs := [5]) (by kernel_rfl) (by simp) ?_
                  refine AllReadyH.cons (o := _) rfl (fun K9 hK9 => ?_) AllReadyH.nil
                  go_simp
                  refine hK9.out _ _ (fun i => ((B13d _).2 i).1) (fun hHeld => ?_)
                  clear hK9 K9
                  (try simp only [Act.put])
                  refine wpAnyH_take (i := 7) (oi := _) (v := ?_) rfl (by kernel_rfl) (by kernel_rfl) (by kernel_rfl) (fun _ _ _ h => h) (Or.inl ⟨by rfl, ?_⟩) (by assumption) ?_
                  rotate_left 1
                  · (intro wy hSw; (try dsimp only at hSw); go_simp; try with_reducible rfl)
                  (try simp only [Act.put])
                  refine wpAnyH_ready (rs := [8]) (by kernel_rfl) (by simp) ?_
                  refine AllReadyH.cons (o := _) rfl (fun K9 hK9 => ?_) AllReadyH.nil
                  refine step_app (P := Try.prog) rfl (.tmp 96) (.tmp 100) (by rfl) SumE.enc sumT (if QC = a then some ⟨b2, o2, none⟩ else some ⟨b2, o2 + a * 5, none⟩) (QC - a) (q.drop a) (q.take a ++ [(⟨xo, xn, xr, xd, xA, xc, xi⟩ : SumE)]) (.slice A2 (a + 1) c2) (by rfl) (by rfl) (m := q.length - a) (n := q.length + 1) hdk (by simp only [List.length_append, htk, List.length_singleton] <;> omega) (ho13.later _) (hsrc _) (by omega) (by unfold maxLen; omega) (by (try simp only [heap_drew, World.size_alloc]); omega) ?_
                  intro A3 c3 w14 ho14 hm14 hb14 hg14
                  have l14 := later_base (W := wd) hb14
                  have l1414 : Later w14 w14 := Later.refl
                  refine hK9.out _ _ (fun i => ((B13d _).2 i).1) (fun hHeld => ?_)
                  clear hK9 K9
                  (try simp only [Act.put])
                  refine wpAnyH_take (i := 9) (oi := _) (v := ?_) rfl (by kernel_rfl) (by kernel_rfl) (by kernel_rfl) (fun _ _ _ h => h) (Or.inl ⟨by rfl, ?_⟩) (by assumption) ?_
                  rotate_left 1
                  · (intro wy hSw; (try dsimp only at hSw); go_simp; try with_reducible rfl)
                  (try simp only [Act.put])
                  refine wpAnyH_ready (rs := [10]) (by kernel_rfl) (by simp) ?_
                  refine AllReadyH.cons (o := _) rfl (fun K9 hK9 => ?_) AllReadyH.nil
                  go_simp
                  refine hK9.out _ _ (fun i => blk_cell ((blk_far (p := ⟨w0.heap.size, 1, none⟩) hne13 _).trans (B13d w14).1) i) (fun hHeld => ?_)
                  clear hK9 K9
                  (try simp only [Act.put])
                  refine wpAnyH_done (by kernel_rfl) ?_ _
                  go_wp2_with fail
                  have hbd14 : Below wd.heap.size wd w14 := (l14 wd).below
                  have hS14 := blk_below hSd hbd14
                  have hz0d : w0.heap.size ≤ wd.heap.size := hb0d.size
                  have ho14m := ho14.mono hz0d
                  have ho14e := ho14m.far (p := ⟨w0.heap.size, 1, none⟩) (own_off ho14m hS14 (by decide)) (.slice A3 (q.length + 1) c3)
                  have hNL := hide (ho14.at_ SumE.enc).1
                  have hiq14 : InsOwn w0.heap.size (w14.setCell ⟨w0.heap.size, 1, none⟩ (.slice A3 (q.length + 1) c3)) (q.take a ++ [(⟨xo, xn, xr, xd, xA, xc, xi⟩ : SumE)] ++ (q.drop a)) := fun n hn => by
                    have h1 : Own InsetE.cells 3 58 w0.heap.size w14 (.slice n.A n.inset.length n.c) n.inset := by
                      rcases List.mem_append.1 hn with hn | hn
                      · rcases List.mem_append.1 hn with hn | hn
                        · exact (hiqd n (List.mem_of_mem_take hn)).below hbd14
                        · rw [List.mem_singleton] at hn; subst hn; exact hxd.below hbd14
                      · exact (hiqd n (by rw [← HD.out] at hn; exact List.mem_of_mem_drop hn)).below hbd14
                    exact h1.far (p := ⟨w0.heap.size, 1, none⟩) (own_off h1 hS14 (by decide)) _
                  have hbE := (hb0d.trans (hbd14.mono hz0d)).setCell (p := ⟨w0.heap.size, 1, none⟩) (Nat.le_refl _) (.slice A3 (q.length + 1) c3)
                  have hins := insert_sortL ltC_swo (M := ((es.take k).filter aliveB).map (sumOf (conL l) roots ks)) (y := (⟨xo, xn, xr, xd, xi⟩ : SumC)) (a := a) (by rw [← hq.out, List.length_map]; omega) (by rw [← hq.out]; exact hab.out) (by rw [← hq.out]; exact H2.out)
                  rw [← hq.out, ← List.map_take, ← List.map_drop, HD.out] at hins
                  go_roundw
                  case rel => exact ⟨k + 1, q.take a ++ [(⟨xo, xn, xr, xd, xA, xc, xi⟩ : SumE)] ++ (q.drop a), A3, c3, by omega, by go_num, hide (by rw [HT2.out, ← hins]; simp [SumE.con]), hide (by rw [← hNL.out]; have := hql.out; omega), by rw [← hNL.out]; exact ho14e, hiq14, by rw [← hNL.out]; exact (blk_set hS14 1 _).trans rfl, hbE⟩
                  case measure => simp [intOf]; omega
                · go_simp
                  refine hK9.out _ _ (fun i => ((B13d _).2 i).1) (fun hHeld => ?_)
                  clear hK9 K9
                  (try simp only [Act.put])
                  refine wpAnyH_take (i := 7) (oi := _) (v := ?_) rfl (by kernel_rfl) (by kernel_rfl) (by kernel_rfl) (fun _ _ _ h => h) (Or.inl ⟨by rfl, ?_⟩) (by assumption) ?_
                  rotate_left 1
                  · (intro wy hSw; (try dsimp only at hSw); go_simp; try with_reducible rfl)
                  (try simp only [Act.put])
                  refine wpAnyH_ready (rs := [3]) (by kernel_rfl) (by simp) ?_
                  refine AllReadyH.cons (o := _) rfl (fun K9 hK9 => ?_) AllReadyH.nil
                  refine step_app (P := Try.prog) rfl (.tmp 93) (.tmp 95) (by rfl) SumE.enc sumT _ _ [(⟨xo, xn, xr, xd, xA, xc, xi⟩ : SumE)] (q.take a) (.slice Ab a cb) (by rfl) (by rfl) (m := 1) (n := a + 1) rfl (by rw [htk]) (ho12.later _) (blk_slAt SumE.enc (fr := (0, 0)) (e := 41) (heap_alloc_new _ _) [(⟨xo, xn, xr, xd, xA, xc, xi⟩ : SumE)] rfl) (by omega) (by unfold maxLen; omega) (by simp only [heap_drew, World.size_alloc]; omega) ?_
                  intro A2 c2 w13 ho13 hm13 hb13 hg13
                  have l13 := later_base (W := wd) hb13
                  have l1313 : Later w13 w13 := Later.refl
                  have hz13' : wd.heap.size ≤ w13.heap.size := (l13 wd).below.size
                  refine hK9.out _ _ (fun i => ((B13d _).2 i).1) (fun hHeld => ?_)
                  clear hK9 K9
                  (try simp only [Act.put])
                  refine wpAnyH_ready (rs := [8]) (by kernel_rfl) (by simp) ?_
                  refine AllReadyH.cons (o := _) rfl (fun K9 hK9 => ?_) AllReadyH.nil
                  refine step_app (P := Try.prog) rfl (.tmp 96) (.tmp 100) (by rfl) SumE.enc sumT (if QC = a then some ⟨b2, o2, none⟩ else some ⟨b2, o2 + a * 5, none⟩) (QC - a) (q.drop a) (q.take a ++ [(⟨xo, xn, xr, xd, xA, xc, xi⟩ : SumE)]) (.slice A2 (a + 1) c2) (by rfl) (by rfl) (m := q.length - a) (n := q.length + 1) hdk (by simp only [List.length_append, htk, List.length_singleton] <;> omega) (ho13.later _) (hsrc _) (by omega) (by unfold maxLen; omega) (by (try simp only [heap_drew, World.size_alloc]); omega) ?_
                  intro A3 c3 w14 ho14 hm14 hb14 hg14
                  have l14 := later_base (W := wd) hb14
                  have l1414 : Later w14 w14 := Later.refl
                  refine hK9.out _ _ (fun i => ((B13d _).2 i).1) (fun hHeld => ?_)
                  clear hK9 K9
                  (try simp only [Act.put])
                  refine wpAnyH_take (i := 9) (oi := _) (v := ?_) rfl (by kernel_rfl) (by kernel_rfl) (by kernel_rfl) (fun _ _ _ h => h) (Or.inl ⟨by rfl, ?_⟩) (by assumption) ?_
                  rotate_left 1
                  · (intro wy hSw; (try dsimp only at hSw); go_simp; try with_reducible rfl)
                  (try simp only [Act.put])
                  refine wpAnyH_ready (rs := [10]) (by kernel_rfl) (by simp) ?_
                  refine AllReadyH.cons (o := _) rfl (fun K9 hK9 => ?_) AllReadyH.nil
                  go_simp
                  refine hK9.out _ _ (fun i => blk_cell ((blk_far (p := ⟨w0.heap.size, 1, none⟩) hne13 _).trans (B13d w14).1) i) (fun hHeld => ?_)
                  clear hK9 K9
                  (try simp only [Act.put])
                  refine wpAnyH_done (by kernel_rfl) ?_ _
                  go_wp2_with fail
                  have hbd14 : Below wd.heap.size wd w14 := (l14 wd).below
                  have hS14 := blk_below hSd hbd14
                  have hz0d : w0.heap.size ≤ wd.heap.size := hb0d.size
                  have ho14m := ho14.mono hz0d
                  have ho14e := ho14m.far (p := ⟨w0.heap.size, 1, none⟩) (own_off ho14m hS14 (by decide)) (.slice A3 (q.length + 1) c3)
                  have hNL := hide (ho14.at_ SumE.enc).1
                  have hiq14 : InsOwn w0.heap.size (w14.setCell ⟨w0.heap.size, 1, none⟩ (.slice A3 (q.length + 1) c3)) (q.take a ++ [(⟨xo, xn, xr, xd, xA, xc, xi⟩ : SumE)] ++ (q.drop a)) := fun n hn => by
                    have h1 : Own InsetE.cells 3 58 w0.heap.size w14 (.slice n.A n.inset.length n.c) n.inset := by
                      rcases List.mem_append.1 hn with hn | hn
                      · rcases List.mem_append.1 hn with hn | hn
                        · exact (hiqd n (List.mem_of_mem_take hn)).below hbd14
                        · rw [List.mem_singleton] at hn; subst hn; exact hxd.below hbd14
                      · exact (hiqd n (by rw [← HD.out] at hn; exact List.mem_of_mem_drop hn)).below hbd14
                    exact h1.far (p := ⟨w0.heap.size, 1, none⟩) (own_off h1 hS14 (by decide)) _
                  have hbE := (hb0d.trans (hbd14.mono hz0d)).setCell (p := ⟨w0.heap.size, 1, none⟩) (Nat.le_refl _) (.slice A3 (q.length + 1) c3)
                  have hins := insert_sortL ltC_swo (M := ((es.take k).filter aliveB).map (sumOf (conL l) roots ks)) (y := (⟨xo, xn, xr, xd, xi⟩ : SumC)) (a := a) (by rw [← hq.out, List.length_map]; omega) (by rw [← hq.out]; exact hab.out) (by rw [← hq.out]; exact H2.out)
                  rw [← hq.out, ← List.map_take, ← List.map_drop, HD.out] at hins
                  go_roundw
                  case rel => exact ⟨k + 1, q.take a ++ [(⟨xo, xn, xr, xd, xA, xc, xi⟩ : SumE)] ++ (q.drop a), A3, c3, by omega, by go_num, hide (by rw [HT2.out, ← hins]; simp [SumE.con]), hide (by rw [← hNL.out]; have := hql.out; omega), by rw [← hNL.out]; exact ho14e, hiq14, by rw [← hNL.out]; exact (blk_set hS14 1 _).trans rfl, hbE⟩
                  case measure => simp [intOf]; omega
              · go_simp
                refine hK9.out _ _ (fun i => ((B13d _).2 i).1) (fun hHeld => ?_)
                clear hK9 K9
                (try simp only [Act.put])
                refine wpAnyH_take (i := 7) (oi := _) (v := ?_) rfl (by kernel_rfl) (by kernel_rfl) (by kernel_rfl) (fun _ _ _ h => h) (Or.inl ⟨by rfl, ?_⟩) (by assumption) ?_
                rotate_left 1
                · (intro wy hSw; (try dsimp only at hSw); go_simp; try with_reducible rfl)
                (try simp only [Act.put])
                refine wpAnyH_ready (rs := [2]) (by kernel_rfl) (by simp) ?_
                refine AllReadyH.cons (o := _) rfl (fun K9 hK9 => ?_) AllReadyH.nil
                go_simp
                refine hK9.out _ _ (fun i => ((B13d _).2 i).1) (fun hHeld => ?_)
                clear hK9 K9
                (try simp only [Act.put])
                refine wpAnyH_ready (rs := [3]) (by kernel_rfl) (by simp) ?_
                refine AllReadyH.cons (o := _) rfl (fun K9 hK9 => ?_) AllReadyH.nil
                refine step_app (P := Try.prog) rfl (.tmp 93) (.tmp 95) (by rfl) SumE.enc sumT _ _ [(⟨xo, xn, xr, xd, xA, xc, xi⟩ : SumE)] (q.take a) (.slice Ab a cb) (by rfl) (by rfl) (m := 1) (n := a + 1) rfl (by rw [htk]) (ho12.later _) (blk_slAt SumE.enc (fr := (0, 0)) (e := 41) (heap_alloc_new _ _) [(⟨xo, xn, xr, xd, xA, xc, xi⟩ : SumE)] rfl) (by omega) (by unfold maxLen; omega) (by simp only [heap_drew, World.size_alloc]; omega) ?_
                intro A2 c2 w13 ho13 hm13 hb13 hg13
                have l13 := later_base (W := wd) hb13
                have l1313 : Later w13 w13 := Later.refl
                have hz13' : wd.heap.size ≤ w13.heap.size := (l13 wd).below.size
                refine hK9.out _ _ (fun i => ((B13d _).2 i).1) (fun hHeld => ?_)
                clear hK9 K9
                (try simp only [Act.put])
                refine wpAnyH_ready (rs := [8]) (by kernel_rfl) (by simp) ?_
                refine AllReadyH.cons (o := _) rfl (fun K9 hK9 => ?_) AllReadyH.nil
                refine step_app (P := Try.prog) rfl (.tmp 96) (.tmp 100) (by rfl) SumE.enc sumT (if QC = a then some ⟨b2, o2, none⟩ else some ⟨b2, o2 + a * 5, none⟩) (QC - a) (q.drop a) (q.take a ++ [(⟨xo, xn, xr, xd, xA, xc, xi⟩ : SumE)]) (.slice A2 (a + 1) c2) (by rfl) (by rfl) (m := q.length - a) (n := q.length + 1) hdk (by simp only [List.length_append, htk, List.length_singleton] <;> omega) (ho13.later _) (hsrc _) (by omega) (by unfold maxLen; omega) (by (try simp only [heap_drew, World.size_alloc]); omega) ?_
                intro A3 c3 w14 ho14 hm14 hb14 hg14
                have l14 := later_base (W := wd) hb14
                have l1414 : Later w14 w14 := Later.refl
                refine hK9.out _ _ (fun i => ((B13d _).2 i).1) (fun hHeld => ?_)
                clear hK9 K9
                (try simp only [Act.put])
                refine wpAnyH_take (i := 9) (oi := _) (v := ?_) rfl (by kernel_rfl) (by kernel_rfl) (by kernel_rfl) (fun _ _ _ h => h) (Or.inl ⟨by rfl, ?_⟩) (by assumption) ?_
                rotate_left 1
                · (intro wy hSw; (try dsimp only at hSw); go_simp; try with_reducible rfl)
                (try simp only [Act.put])
                refine wpAnyH_ready (rs := [10]) (by kernel_rfl) (by simp) ?_
                refine AllReadyH.cons (o := _) rfl (fun K9 hK9 => ?_) AllReadyH.nil
                go_simp
                refine hK9.out _ _ (fun i => blk_cell ((blk_far (p := ⟨w0.heap.size, 1, none⟩) hne13 _).trans (B13d w14).1) i) (fun hHeld => ?_)
                clear hK9 K9
                (try simp only [Act.put])
                refine wpAnyH_done (by kernel_rfl) ?_ _
                go_wp2_with fail
                have hbd14 : Below wd.heap.size wd w14 := (l14 wd).below
                have hS14 := blk_below hSd hbd14
                have hz0d : w0.heap.size ≤ wd.heap.size := hb0d.size
                have ho14m := ho14.mono hz0d
                have ho14e := ho14m.far (p := ⟨w0.heap.size, 1, none⟩) (own_off ho14m hS14 (by decide)) (.slice A3 (q.length + 1) c3)
                have hNL := hide (ho14.at_ SumE.enc).1
                have hiq14 : InsOwn w0.heap.size (w14.setCell ⟨w0.heap.size, 1, none⟩ (.slice A3 (q.length + 1) c3)) (q.take a ++ [(⟨xo, xn, xr, xd, xA, xc, xi⟩ : SumE)] ++ (q.drop a)) := fun n hn => by
                  have h1 : Own InsetE.cells 3 58 w0.heap.size w14 (.slice n.A n.inset.length n.c) n.inset := by
                    rcases List.mem_append.1 hn with hn | hn
                    · rcases List.mem_append.1 hn with hn | hn
                      · exact (hiqd n (List.mem_of_mem_take hn)).below hbd14
                      · rw [List.mem_singleton] at hn; subst hn; exact hxd.below hbd14
                    · exact (hiqd n (by rw [← HD.out] at hn; exact List.mem_of_mem_drop hn)).below hbd14
                  exact h1.far (p := ⟨w0.heap.size, 1, none⟩) (own_off h1 hS14 (by decide)) _
                have hbE := (hb0d.trans (hbd14.mono hz0d)).setCell (p := ⟨w0.heap.size, 1, none⟩) (Nat.le_refl _) (.slice A3 (q.length + 1) c3)
                have hins := insert_sortL ltC_swo (M := ((es.take k).filter aliveB).map (sumOf (conL l) roots ks)) (y := (⟨xo, xn, xr, xd, xi⟩ : SumC)) (a := a) (by rw [← hq.out, List.length_map]; omega) (by rw [← hq.out]; exact hab.out) (by rw [← hq.out]; exact H2.out)
                rw [← hq.out, ← List.map_take, ← List.map_drop, HD.out] at hins
                go_roundw
                case rel => exact ⟨k + 1, q.take a ++ [(⟨xo, xn, xr, xd, xA, xc, xi⟩ : SumE)] ++ (q.drop a), A3, c3, by omega, by go_num, hide (by rw [HT2.out, ← hins]; simp [SumE.con]), hide (by rw [← hNL.out]; have := hql.out; omega), by rw [← hNL.out]; exact ho14e, hiq14, by rw [← hNL.out]; exact (blk_set hS14 1 _).trans rfl, hbE⟩
                case measure => simp [intOf]; omega
          · have ha0 : a = 0 := by omega
            subst ha0
            have H2 := hide (show ∀ p' z', p' + 1 = 0 → (q.map SumE.con)[p']? = some z' → ltC ⟨xo, xn, xr, xd, xi⟩ z' = false from fun p' z' h hz' => absurd h (by omega))
            by_cases hne : q = []
            · have Hne := hide hne
              clear hne
              have HD := hide (show q.drop 0 = [] by rw [Hne.out]; rfl)
              rcases QA with _ | ad
              · go_upto_region 8 with fail
                (refine wp_region_after (by kernel_rfl) (by kernel_rfl) ?_
                 repeat (any_goals (first | go_big_quiet_skip | (go_big_quiet_want; go_big_quiet_op; first | go_big_quiet_on | go_big_quiet_call (fail)) | quiet_step (fail) | (refine wpQuiet_step (fun K hK => ?_); go_simp; split <;> (refine hK _ ?_; clear hK K))))
                 all_goals (refine wpQuiet_nil ?_; intro _ hw'; obtain ⟨u', hw''⟩ := hw'; subst hw''; obtain ⟨wd, hbd⟩ := u'; simp only [After.val_mk]))
                have ld := later hbd
                have ldd : Later wd wd := Later.refl
                have htk : (q.take 0).length = 0 := by rw [List.length_take]; omega
                have hdk : (q.drop 0).length = q.length - 0 := by rw [List.length_drop]
                have hk0 : (0 : Int) ≤ (0 : Int) := by omega
                have hkc : (0 : Int) ≤ (QC : Int) := by omega
                have hkll : (0 : Int) ≤ (q.length : Int) := by omega
                have lwcd : Later wc wd := (inferInstance : Later wc wd)
                have hb0d : Below w0.heap.size w0 wd := hb0c.trans (lwcd.below.mono hb0c.size)
                have hSd := blk_below h11c lwcd.below
                have BSd := boxed hSd
                have hiqd := hiqc.below lwcd.below
                have hxd := hxc.below lwcd.below
                have B13d : Boxed wd g13 #[.int .i64 xo, .int .u64 xn, .bool xr, .int .i64 xd, .slice xA xi.length xc] 41 := boxed_later B13
                have hne13 : g13 ≠ w0.heap.size := by omega
                go_upto_region 11 with (at_builtin; refine wpList_appE rfl (.tmp 87) (.tmp 91) rfl SumE.enc sumT _ _ (q.take 0) rfl (by rw [htk]; rfl) ((HI _).take _) (by omega) (by unfold maxLen; omega) ?_; intro Ab cb w12 ho12 hm12 hb12; rw [htk] at ho12; have l12 := later hb12; have l1212 : Later w12 w12 := Later.refl)
                have hz12 : wd.heap.size ≤ w12.heap.size := hb12.size
                refine wp_region_held_drew (S := fun w' => ∀ i : Nat, w'.cell? ⟨g13, i, none⟩ = (#[.int .i64 xo, .int .u64 xn, .bool xr, .int .i64 xd, .slice xA xi.length xc] : Array Value)[i]?) (by kernel_rfl) (fun i => ((B13d _).2 i).1) (fun hHeld => ?_)
                refine wpAnyH_take (i := 0) (oi := _) (v := ?_) rfl (by kernel_rfl) (by kernel_rfl) (by kernel_rfl) (fun _ _ _ h => h) (Or.inl ⟨by rfl, ?_⟩) (by assumption) ?_
                rotate_left 1
                · (intro wy hSw; (try dsimp only at hSw); go_simp; try with_reducible rfl)
                (try simp only [Act.put])
                refine wpAnyH_take (i := 1) (oi := _) (v := ?_) rfl (by kernel_rfl) (by kernel_rfl) (by kernel_rfl) (fun _ _ _ h => h) (Or.inl ⟨by rfl, ?_⟩) (by assumption) ?_
                rotate_left 1
                · (intro wy hSw; (try dsimp only at hSw); go_simp; try with_reducible rfl)
                (try simp only [Act.put])
                refine wpAnyH_take (i := 4) (oi := _) (v := ?_) rfl (by kernel_rfl) (by kernel_rfl) (by kernel_rfl) (fun _ _ _ h => h) (Or.inl ⟨by rfl, ?_⟩) (by assumption) ?_
                rotate_left 1
                · (intro wy hSw; (try dsimp only at hSw); go_simp; try with_reducible rfl)
                (try simp only [Act.put])
                refine wpAnyH_take (i := 6) (oi := _) (v := ?_) rfl (by kernel_rfl) (by kernel_rfl) (by kernel_rfl) (fun _ _ _ h => h) (Or.inl ⟨by rfl, ?_⟩) (by assumption) ?_
                rotate_left 1
                · (intro wy hSw; (try dsimp only at hSw); go_simp; try with_reducible rfl)
                (try simp only [Act.put])
                refine wpAnyH_ready (rs := [2, 5]) (by kernel_rfl) (by simp) ?_
                refine AllReadyH.cons (o := _) rfl (fun K9 hK9 => ?_) (AllReadyH.cons (o := _) rfl (fun K9 hK9 => ?_) AllReadyH.nil)
                · go_simp
                  refine hK9.out _ _ (fun i => ((B13d _).2 i).1) (fun hHeld => ?_)
                  clear hK9 K9
                  (try simp only [Act.put])
                  refine wpAnyH_ready (rs := [3, 5]) (by kernel_rfl) (by simp) ?_
                  refine AllReadyH.cons (o := _) rfl (fun K9 hK9 => ?_) (AllReadyH.cons (o := _) rfl (fun K9 hK9 => ?_) AllReadyH.nil)
                  · refine step_app (P := Try.prog) rfl (.tmp 93) (.tmp 95) (by rfl) SumE.enc sumT _ _ [(⟨xo, xn, xr, xd, xA, xc, xi⟩ : SumE)] (q.take 0) (.slice Ab 0 cb) (by rfl) (by rfl) (m := 1) (n := 0 + 1) rfl (by rw [htk]) (ho12.later _) (blk_slAt SumE.enc (fr := (0, 0)) (e := 41) (heap_alloc_new _ _) [(⟨xo, xn, xr, xd, xA, xc, xi⟩ : SumE)] rfl) (by omega) (by unfold maxLen; omega) (by simp only [heap_drew, World.size_alloc]; omega) ?_
                    intro A2 c2 w13 ho13 hm13 hb13 hg13
                    have l13 := later_base (W := wd) hb13
                    have l1313 : Later w13 w13 := Later.refl
                    have hz13' : wd.heap.size ≤ w13.heap.size := (l13 wd).below.size
                    refine hK9.out _ _ (fun i => ((B13d _).2 i).1) (fun hHeld => ?_)
                    clear hK9 K9
                    (try simp only [Act.put])
                    refine wpAnyH_ready (rs := [5]) (by kernel_rfl) (by simp) ?_
                    refine AllReadyH.cons (o := _) rfl (fun K9 hK9 => ?_) AllReadyH.nil
                    go_simp
                    refine hK9.out _ _ (fun i => ((B13d _).2 i).1) (fun hHeld => ?_)
                    clear hK9 K9
                    (try simp only [Act.put])
                    refine wpAnyH_take (i := 7) (oi := _) (v := ?_) rfl (by kernel_rfl) (by kernel_rfl) (by kernel_rfl) (fun _ _ _ h => h) (Or.inl ⟨by rfl, ?_⟩) (by assumption) ?_
                    rotate_left 1
                    · (intro wy hSw; (try dsimp only at hSw); go_simp; try with_reducible rfl)
                    (try simp only [Act.put])
                    refine wpAnyH_ready (rs := [8]) (by kernel_rfl) (by simp) ?_
                    refine AllReadyH.cons (o := _) rfl (fun K9 hK9 => ?_) AllReadyH.nil
                    refine step_app (P := Try.prog) rfl (.tmp 96) (.tmp 100) (by rfl) SumE.enc sumT _ _ ([] : List SumE) (q.take 0 ++ [(⟨xo, xn, xr, xd, xA, xc, xi⟩ : SumE)]) (.slice A2 (0 + 1) c2) (by rfl) (by rfl) (m := q.length) (n := q.length + 1) (by rw [Hne.out]) (by simp only [List.length_append, htk, List.length_singleton] <;> omega) (ho13.later _) SlAt.nil (by omega) (by unfold maxLen; omega) (by (try simp only [heap_drew, World.size_alloc]); omega) ?_
                    intro A3 c3 w14 ho14 hm14 hb14 hg14
                    have l14 := later_base (W := wd) hb14
                    have l1414 : Later w14 w14 := Later.refl
                    refine hK9.out _ _ (fun i => ((B13d _).2 i).1) (fun hHeld => ?_)
                    clear hK9 K9
                    (try simp only [Act.put])
                    refine wpAnyH_take (i := 9) (oi := _) (v := ?_) rfl (by kernel_rfl) (by kernel_rfl) (by kernel_rfl) (fun _ _ _ h => h) (Or.inl ⟨by rfl, ?_⟩) (by assumption) ?_
                    rotate_left 1
                    · (intro wy hSw; (try dsimp only at hSw); go_simp; try with_reducible rfl)
                    (try simp only [Act.put])
                    refine wpAnyH_ready (rs := [10]) (by kernel_rfl) (by simp) ?_
                    refine AllReadyH.cons (o := _) rfl (fun K9 hK9 => ?_) AllReadyH.nil
                    go_simp
                    refine hK9.out _ _ (fun i => blk_cell ((blk_far (p := ⟨w0.heap.size, 1, none⟩) hne13 _).trans (B13d w14).1) i) (fun hHeld => ?_)
                    clear hK9 K9
                    (try simp only [Act.put])
                    refine wpAnyH_done (by kernel_rfl) ?_ _
                    go_wp2_with fail
                    have hbd14 : Below wd.heap.size wd w14 := (l14 wd).below
                    have hS14 := blk_below hSd hbd14
                    have hz0d : w0.heap.size ≤ wd.heap.size := hb0d.size
                    have ho14m := ho14.mono hz0d
                    have ho14e := ho14m.far (p := ⟨w0.heap.size, 1, none⟩) (own_off ho14m hS14 (by decide)) (.slice A3 (q.length + 1) c3)
                    have hNL := hide (ho14.at_ SumE.enc).1
                    have hiq14 : InsOwn w0.heap.size (w14.setCell ⟨w0.heap.size, 1, none⟩ (.slice A3 (q.length + 1) c3)) (q.take 0 ++ [(⟨xo, xn, xr, xd, xA, xc, xi⟩ : SumE)] ++ ([] : List SumE)) := fun n hn => by
                      have h1 : Own InsetE.cells 3 58 w0.heap.size w14 (.slice n.A n.inset.length n.c) n.inset := by
                        rcases List.mem_append.1 hn with hn | hn
                        · rcases List.mem_append.1 hn with hn | hn
                          · exact (hiqd n (List.mem_of_mem_take hn)).below hbd14
                          · rw [List.mem_singleton] at hn; subst hn; exact hxd.below hbd14
                        · exact (hiqd n (by rw [← HD.out] at hn; exact List.mem_of_mem_drop hn)).below hbd14
                      exact h1.far (p := ⟨w0.heap.size, 1, none⟩) (own_off h1 hS14 (by decide)) _
                    have hbE := (hb0d.trans (hbd14.mono hz0d)).setCell (p := ⟨w0.heap.size, 1, none⟩) (Nat.le_refl _) (.slice A3 (q.length + 1) c3)
                    have hins := insert_sortL ltC_swo (M := ((es.take k).filter aliveB).map (sumOf (conL l) roots ks)) (y := (⟨xo, xn, xr, xd, xi⟩ : SumC)) (a := 0) (by rw [← hq.out, List.length_map]; omega) (by rw [← hq.out]; exact hab.out) (by rw [← hq.out]; exact H2.out)
                    rw [← hq.out, ← List.map_take, ← List.map_drop, HD.out] at hins
                    go_roundw
                    case rel => exact ⟨k + 1, q.take 0 ++ [(⟨xo, xn, xr, xd, xA, xc, xi⟩ : SumE)] ++ ([] : List SumE), A3, c3, by omega, by go_num, hide (by rw [HT2.out, ← hins]; simp [SumE.con]), hide (by rw [← hNL.out]; have := hql.out; omega), by rw [← hNL.out]; exact ho14e, hiq14, by rw [← hNL.out]; exact (blk_set hS14 1 _).trans rfl, hbE⟩
                    case measure => simp [intOf]; omega
                  · go_simp
                    refine hK9.out _ _ (fun i => ((B13d _).2 i).1) (fun hHeld => ?_)
                    clear hK9 K9
                    (try simp only [Act.put])
                    refine wpAnyH_take (i := 7) (oi := _) (v := ?_) rfl (by kernel_rfl) (by kernel_rfl) (by kernel_rfl) (fun _ _ _ h => h) (Or.inl ⟨by rfl, ?_⟩) (by assumption) ?_
                    rotate_left 1
                    · (intro wy hSw; (try dsimp only at hSw); go_simp; try with_reducible rfl)
                    (try simp only [Act.put])
                    refine wpAnyH_ready (rs := [3]) (by kernel_rfl) (by simp) ?_
                    refine AllReadyH.cons (o := _) rfl (fun K9 hK9 => ?_) AllReadyH.nil
                    refine step_app (P := Try.prog) rfl (.tmp 93) (.tmp 95) (by rfl) SumE.enc sumT _ _ [(⟨xo, xn, xr, xd, xA, xc, xi⟩ : SumE)] (q.take 0) (.slice Ab 0 cb) (by rfl) (by rfl) (m := 1) (n := 0 + 1) rfl (by rw [htk]) (ho12.later _) (blk_slAt SumE.enc (fr := (0, 0)) (e := 41) (heap_alloc_new _ _) [(⟨xo, xn, xr, xd, xA, xc, xi⟩ : SumE)] rfl) (by omega) (by unfold maxLen; omega) (by simp only [heap_drew, World.size_alloc]; omega) ?_
                    intro A2 c2 w13 ho13 hm13 hb13 hg13
                    have l13 := later_base (W := wd) hb13
                    have l1313 : Later w13 w13 := Later.refl
                    have hz13' : wd.heap.size ≤ w13.heap.size := (l13 wd).below.size
                    refine hK9.out _ _ (fun i => ((B13d _).2 i).1) (fun hHeld => ?_)
                    clear hK9 K9
                    (try simp only [Act.put])
                    refine wpAnyH_ready (rs := [8]) (by kernel_rfl) (by simp) ?_
                    refine AllReadyH.cons (o := _) rfl (fun K9 hK9 => ?_) AllReadyH.nil
                    refine step_app (P := Try.prog) rfl (.tmp 96) (.tmp 100) (by rfl) SumE.enc sumT _ _ ([] : List SumE) (q.take 0 ++ [(⟨xo, xn, xr, xd, xA, xc, xi⟩ : SumE)]) (.slice A2 (0 + 1) c2) (by rfl) (by rfl) (m := q.length) (n := q.length + 1) (by rw [Hne.out]) (by simp only [List.length_append, htk, List.length_singleton] <;> omega) (ho13.later _) SlAt.nil (by omega) (by unfold maxLen; omega) (by (try simp only [heap_drew, World.size_alloc]); omega) ?_
                    intro A3 c3 w14 ho14 hm14 hb14 hg14
                    have l14 := later_base (W := wd) hb14
                    have l1414 : Later w14 w14 := Later.refl
                    refine hK9.out _ _ (fun i => ((B13d _).2 i).1) (fun hHeld => ?_)
                    clear hK9 K9
                    (try simp only [Act.put])
                    refine wpAnyH_take (i := 9) (oi := _) (v := ?_) rfl (by kernel_rfl) (by kernel_rfl) (by kernel_rfl) (fun _ _ _ h => h) (Or.inl ⟨by rfl, ?_⟩) (by assumption) ?_
                    rotate_left 1
                    · (intro wy hSw; (try dsimp only at hSw); go_simp; try with_reducible rfl)
                    (try simp only [Act.put])
                    refine wpAnyH_ready (rs := [10]) (by kernel_rfl) (by simp) ?_
                    refine AllReadyH.cons (o := _) rfl (fun K9 hK9 => ?_) AllReadyH.nil
                    go_simp
                    refine hK9.out _ _ (fun i => blk_cell ((blk_far (p := ⟨w0.heap.size, 1, none⟩) hne13 _).trans (B13d w14).1) i) (fun hHeld => ?_)
                    clear hK9 K9
                    (try simp only [Act.put])
                    refine wpAnyH_done (by kernel_rfl) ?_ _
                    go_wp2_with fail
                    have hbd14 : Below wd.heap.size wd w14 := (l14 wd).below
                    have hS14 := blk_below hSd hbd14
                    have hz0d : w0.heap.size ≤ wd.heap.size := hb0d.size
                    have ho14m := ho14.mono hz0d
                    have ho14e := ho14m.far (p := ⟨w0.heap.size, 1, none⟩) (own_off ho14m hS14 (by decide)) (.slice A3 (q.length + 1) c3)
                    have hNL := hide (ho14.at_ SumE.enc).1
                    have hiq14 : InsOwn w0.heap.size (w14.setCell ⟨w0.heap.size, 1, none⟩ (.slice A3 (q.length + 1) c3)) (q.take 0 ++ [(⟨xo, xn, xr, xd, xA, xc, xi⟩ : SumE)] ++ ([] : List SumE)) := fun n hn => by
                      have h1 : Own InsetE.cells 3 58 w0.heap.size w14 (.slice n.A n.inset.length n.c) n.inset := by
                        rcases List.mem_append.1 hn with hn | hn
                        · rcases List.mem_append.1 hn with hn | hn
                          · exact (hiqd n (List.mem_of_mem_take hn)).below hbd14
                          · rw [List.mem_singleton] at hn; subst hn; exact hxd.below hbd14
                        · exact (hiqd n (by rw [← HD.out] at hn; exact List.mem_of_mem_drop hn)).below hbd14
                      exact h1.far (p := ⟨w0.heap.size, 1, none⟩) (own_off h1 hS14 (by decide)) _
                    have hbE := (hb0d.trans (hbd14.mono hz0d)).setCell (p := ⟨w0.heap.size, 1, none⟩) (Nat.le_refl _) (.slice A3 (q.length + 1) c3)
                    have hins := insert_sortL ltC_swo (M := ((es.take k).filter aliveB).map (sumOf (conL l) roots ks)) (y := (⟨xo, xn, xr, xd, xi⟩ : SumC)) (a := 0) (by rw [← hq.out, List.length_map]; omega) (by rw [← hq.out]; exact hab.out) (by rw [← hq.out]; exact H2.out)
                    rw [← hq.out, ← List.map_take, ← List.map_drop, HD.out] at hins
                    go_roundw
                    case rel => exact ⟨k + 1, q.take 0 ++ [(⟨xo, xn, xr, xd, xA, xc, xi⟩ : SumE)] ++ ([] : List SumE), A3, c3, by omega, by go_num, hide (by rw [HT2.out, ← hins]; simp [SumE.con]), hide (by rw [← hNL.out]; have := hql.out; omega), by rw [← hNL.out]; exact ho14e, hiq14, by rw [← hNL.out]; exact (blk_set hS14 1 _).trans rfl, hbE⟩
                    case measure => simp [intOf]; omega
                · go_simp
                  refine hK9.out _ _ (fun i => ((B13d _).2 i).1) (fun hHeld => ?_)
                  clear hK9 K9
                  (try simp only [Act.put])
                  refine wpAnyH_take (i := 7) (oi := _) (v := ?_) rfl (by kernel_rfl) (by kernel_rfl) (by kernel_rfl) (fun _ _ _ h => h) (Or.inl ⟨by rfl, ?_⟩) (by assumption) ?_
                  rotate_left 1
                  · (intro wy hSw; (try dsimp only at hSw); go_simp; try with_reducible rfl)
                  (try simp only [Act.put])
                  refine wpAnyH_ready (rs := [2]) (by kernel_rfl) (by simp) ?_
                  refine AllReadyH.cons (o := _) rfl (fun K9 hK9 => ?_) AllReadyH.nil
                  go_simp
                  refine hK9.out _ _ (fun i => ((B13d _).2 i).1) (fun hHeld => ?_)
                  clear hK9 K9
                  (try simp only [Act.put])
                  refine wpAnyH_ready (rs := [3]) (by kernel_rfl) (by simp) ?_
                  refine AllReadyH.cons (o := _) rfl (fun K9 hK9 => ?_) AllReadyH.nil
                  refine step_app (P := Try.prog) rfl (.tmp 93) (.tmp 95) (by rfl) SumE.enc sumT _ _ [(⟨xo, xn, xr, xd, xA, xc, xi⟩ : SumE)] (q.take 0) (.slice Ab 0 cb) (by rfl) (by rfl) (m := 1) (n := 0 + 1) rfl (by rw [htk]) (ho12.later _) (blk_slAt SumE.enc (fr := (0, 0)) (e := 41) (heap_alloc_new _ _) [(⟨xo, xn, xr, xd, xA, xc, xi⟩ : SumE)] rfl) (by omega) (by unfold maxLen; omega) (by simp only [heap_drew, World.size_alloc]; omega) ?_
                  intro A2 c2 w13 ho13 hm13 hb13 hg13
                  have l13 := later_base (W := wd) hb13
                  have l1313 : Later w13 w13 := Later.refl
                  have hz13' : wd.heap.size ≤ w13.heap.size := (l13 wd).below.size
                  refine hK9.out _ _ (fun i => ((B13d _).2 i).1) (fun hHeld => ?_)
                  clear hK9 K9
                  (try simp only [Act.put])
                  refine wpAnyH_ready (rs := [8]) (by kernel_rfl) (by simp) ?_
                  refine AllReadyH.cons (o := _) rfl (fun K9 hK9 => ?_) AllReadyH.nil
                  refine step_app (P := Try.prog) rfl (.tmp 96) (.tmp 100) (by rfl) SumE.enc sumT _ _ ([] : List SumE) (q.take 0 ++ [(⟨xo, xn, xr, xd, xA, xc, xi⟩ : SumE)]) (.slice A2 (0 + 1) c2) (by rfl) (by rfl) (m := q.length) (n := q.length + 1) (by rw [Hne.out]) (by simp only [List.length_append, htk, List.length_singleton] <;> omega) (ho13.later _) SlAt.nil (by omega) (by unfold maxLen; omega) (by (try simp only [heap_drew, World.size_alloc]); omega) ?_
                  intro A3 c3 w14 ho14 hm14 hb14 hg14
                  have l14 := later_base (W := wd) hb14
                  have l1414 : Later w14 w14 := Later.refl
                  refine hK9.out _ _ (fun i => ((B13d _).2 i).1) (fun hHeld => ?_)
                  clear hK9 K9
                  (try simp only [Act.put])
                  refine wpAnyH_take (i := 9) (oi := _) (v := ?_) rfl (by kernel_rfl) (by kernel_rfl) (by kernel_rfl) (fun _ _ _ h => h) (Or.inl ⟨by rfl, ?_⟩) (by assumption) ?_
                  rotate_left 1
                  · (intro wy hSw; (try dsimp only at hSw); go_simp; try with_reducible rfl)
                  (try simp only [Act.put])
                  refine wpAnyH_ready (rs := [10]) (by kernel_rfl) (by simp) ?_
                  refine AllReadyH.cons (o := _) rfl (fun K9 hK9 => ?_) AllReadyH.nil
                  go_simp
                  refine hK9.out _ _ (fun i => blk_cell ((blk_far (p := ⟨w0.heap.size, 1, none⟩) hne13 _).trans (B13d w14).1) i) (fun hHeld => ?_)
                  clear hK9 K9
                  (try simp only [Act.put])
                  refine wpAnyH_done (by kernel_rfl) ?_ _
                  go_wp2_with fail
                  have hbd14 : Below wd.heap.size wd w14 := (l14 wd).below
                  have hS14 := blk_below hSd hbd14
                  have hz0d : w0.heap.size ≤ wd.heap.size := hb0d.size
                  have ho14m := ho14.mono hz0d
                  have ho14e := ho14m.far (p := ⟨w0.heap.size, 1, none⟩) (own_off ho14m hS14 (by decide)) (.slice A3 (q.length + 1) c3)
                  have hNL := hide (ho14.at_ SumE.enc).1
                  have hiq14 : InsOwn w0.heap.size (w14.setCell ⟨w0.heap.size, 1, none⟩ (.slice A3 (q.length + 1) c3)) (q.take 0 ++ [(⟨xo, xn, xr, xd, xA, xc, xi⟩ : SumE)] ++ ([] : List SumE)) := fun n hn => by
                    have h1 : Own InsetE.cells 3 58 w0.heap.size w14 (.slice n.A n.inset.length n.c) n.inset := by
                      rcases List.mem_append.1 hn with hn | hn
                      · rcases List.mem_append.1 hn with hn | hn
                        · exact (hiqd n (List.mem_of_mem_take hn)).below hbd14
                        · rw [List.mem_singleton] at hn; subst hn; exact hxd.below hbd14
                      · exact (hiqd n (by rw [← HD.out] at hn; exact List.mem_of_mem_drop hn)).below hbd14
                    exact h1.far (p := ⟨w0.heap.size, 1, none⟩) (own_off h1 hS14 (by decide)) _
                  have hbE := (hb0d.trans (hbd14.mono hz0d)).setCell (p := ⟨w0.heap.size, 1, none⟩) (Nat.le_refl _) (.slice A3 (q.length + 1) c3)
                  have hins := insert_sortL ltC_swo (M := ((es.take k).filter aliveB).map (sumOf (conL l) roots ks)) (y := (⟨xo, xn, xr, xd, xi⟩ : SumC)) (a := 0) (by rw [← hq.out, List.length_map]; omega) (by rw [← hq.out]; exact hab.out) (by rw [← hq.out]; exact H2.out)
                  rw [← hq.out, ← List.map_take, ← List.map_drop, HD.out] at hins
                  go_roundw
                  case rel => exact ⟨k + 1, q.take 0 ++ [(⟨xo, xn, xr, xd, xA, xc, xi⟩ : SumE)] ++ ([] : List SumE), A3, c3, by omega, by go_num, hide (by rw [HT2.out, ← hins]; simp [SumE.con]), hide (by rw [← hNL.out]; have := hql.out; omega), by rw [← hNL.out]; exact ho14e, hiq14, by rw [← hNL.out]; exact (blk_set hS14 1 _).trans rfl, hbE⟩
                  case measure => simp [intOf]; omega
              · go_upto_region 8 with fail
                (refine wp_region_after (by kernel_rfl) (by kernel_rfl) ?_
                 repeat (any_goals (first | go_big_quiet_skip | (go_big_quiet_want; go_big_quiet_op; first | go_big_quiet_on | go_big_quiet_call (fail)) | quiet_step (fail) | (refine wpQuiet_step (fun K hK => ?_); go_simp; split <;> (refine hK _ ?_; clear hK K))))
                 all_goals (refine wpQuiet_nil ?_; intro _ hw'; obtain ⟨u', hw''⟩ := hw'; subst hw''; obtain ⟨wd, hbd⟩ := u'; simp only [After.val_mk]))
                have ld := later hbd
                have ldd : Later wd wd := Later.refl
                have htk : (q.take 0).length = 0 := by rw [List.length_take]; omega
                have hdk : (q.drop 0).length = q.length - 0 := by rw [List.length_drop]
                have hk0 : (0 : Int) ≤ (0 : Int) := by omega
                have hkc : (0 : Int) ≤ (QC : Int) := by omega
                have hkll : (0 : Int) ≤ (q.length : Int) := by omega
                have lwcd : Later wc wd := (inferInstance : Later wc wd)
                have hb0d : Below w0.heap.size w0 wd := hb0c.trans (lwcd.below.mono hb0c.size)
                have hSd := blk_below h11c lwcd.below
                have BSd := boxed hSd
                have hiqd := hiqc.below lwcd.below
                have hxd := hxc.below lwcd.below
                have B13d : Boxed wd g13 #[.int .i64 xo, .int .u64 xn, .bool xr, .int .i64 xd, .slice xA xi.length xc] 41 := boxed_later B13
                have hne13 : g13 ≠ w0.heap.size := by omega
                go_upto_region 11 with (at_builtin; refine wpList_appE rfl (.tmp 87) (.tmp 91) rfl SumE.enc sumT _ _ (q.take 0) rfl (by rw [htk]; rfl) ((HI _).take _) (by omega) (by unfold maxLen; omega) ?_; intro Ab cb w12 ho12 hm12 hb12; rw [htk] at ho12; have l12 := later hb12; have l1212 : Later w12 w12 := Later.refl)
                have hz12 : wd.heap.size ≤ w12.heap.size := hb12.size
                refine wp_region_held_drew (S := fun w' => ∀ i : Nat, w'.cell? ⟨g13, i, none⟩ = (#[.int .i64 xo, .int .u64 xn, .bool xr, .int .i64 xd, .slice xA xi.length xc] : Array Value)[i]?) (by kernel_rfl) (fun i => ((B13d _).2 i).1) (fun hHeld => ?_)
                refine wpAnyH_take (i := 0) (oi := _) (v := ?_) rfl (by kernel_rfl) (by kernel_rfl) (by kernel_rfl) (fun _ _ _ h => h) (Or.inl ⟨by rfl, ?_⟩) (by assumption) ?_
                rotate_left 1
                · (intro wy hSw; (try dsimp only at hSw); go_simp; try with_reducible rfl)
                (try simp only [Act.put])
                refine wpAnyH_take (i := 1) (oi := _) (v := ?_) rfl (by kernel_rfl) (by kernel_rfl) (by kernel_rfl) (fun _ _ _ h => h) (Or.inl ⟨by rfl, ?_⟩) (by assumption) ?_
                rotate_left 1
                · (intro wy hSw; (try dsimp only at hSw); go_simp; try with_reducible rfl)
                (try simp only [Act.put])
                refine wpAnyH_take (i := 4) (oi := _) (v := ?_) rfl (by kernel_rfl) (by kernel_rfl) (by kernel_rfl) (fun _ _ _ h => h) (Or.inl ⟨by rfl, ?_⟩) (by assumption) ?_
                rotate_left 1
                · (intro wy hSw; (try dsimp only at hSw); go_simp; try with_reducible rfl)
                (try simp only [Act.put])
                refine wpAnyH_take (i := 6) (oi := _) (v := ?_) rfl (by kernel_rfl) (by kernel_rfl) (by kernel_rfl) (fun _ _ _ h => h) (Or.inl ⟨by rfl, ?_⟩) (by assumption) ?_
                rotate_left 1
                · (intro wy hSw; (try dsimp only at hSw); go_simp; try with_reducible rfl)
                (try simp only [Act.put])
                refine wpAnyH_ready (rs := [2, 5]) (by kernel_rfl) (by simp) ?_
                refine AllReadyH.cons (o := _) rfl (fun K9 hK9 => ?_) (AllReadyH.cons (o := _) rfl (fun K9 hK9 => ?_) AllReadyH.nil)
                · go_simp
                  refine hK9.out _ _ (fun i => ((B13d _).2 i).1) (fun hHeld => ?_)
                  clear hK9 K9
                  (try simp only [Act.put])
                  refine wpAnyH_ready (rs := [3, 5]) (by kernel_rfl) (by simp) ?_
                  refine AllReadyH.cons (o := _) rfl (fun K9 hK9 => ?_) (AllReadyH.cons (o := _) rfl (fun K9 hK9 => ?_) AllReadyH.nil)
                  · refine step_app (P := Try.prog) rfl (.tmp 93) (.tmp 95) (by rfl) SumE.enc sumT _ _ [(⟨xo, xn, xr, xd, xA, xc, xi⟩ : SumE)] (q.take 0) (.slice Ab 0 cb) (by rfl) (by rfl) (m := 1) (n := 0 + 1) rfl (by rw [htk]) (ho12.later _) (blk_slAt SumE.enc (fr := (0, 0)) (e := 41) (heap_alloc_new _ _) [(⟨xo, xn, xr, xd, xA, xc, xi⟩ : SumE)] rfl) (by omega) (by unfold maxLen; omega) (by simp only [heap_drew, World.size_alloc]; omega) ?_
                    intro A2 c2 w13 ho13 hm13 hb13 hg13
                    have l13 := later_base (W := wd) hb13
                    have l1313 : Later w13 w13 := Later.refl
                    have hz13' : wd.heap.size ≤ w13.heap.size := (l13 wd).below.size
                    refine hK9.out _ _ (fun i => ((B13d _).2 i).1) (fun hHeld => ?_)
                    clear hK9 K9
                    (try simp only [Act.put])
                    refine wpAnyH_ready (rs := [5]) (by kernel_rfl) (by simp) ?_
                    refine AllReadyH.cons (o := _) rfl (fun K9 hK9 => ?_) AllReadyH.nil
                    go_simp
                    refine hK9.out _ _ (fun i => ((B13d _).2 i).1) (fun hHeld => ?_)
                    clear hK9 K9
                    (try simp only [Act.put])
                    refine wpAnyH_take (i := 7) (oi := _) (v := ?_) rfl (by kernel_rfl) (by kernel_rfl) (by kernel_rfl) (fun _ _ _ h => h) (Or.inl ⟨by rfl, ?_⟩) (by assumption) ?_
                    rotate_left 1
                    · (intro wy hSw; (try dsimp only at hSw); go_simp; try with_reducible rfl)
                    (try simp only [Act.put])
                    refine wpAnyH_ready (rs := [8]) (by kernel_rfl) (by simp) ?_
                    refine AllReadyH.cons (o := _) rfl (fun K9 hK9 => ?_) AllReadyH.nil
                    refine step_app (P := Try.prog) rfl (.tmp 96) (.tmp 100) (by rfl) SumE.enc sumT _ _ ([] : List SumE) (q.take 0 ++ [(⟨xo, xn, xr, xd, xA, xc, xi⟩ : SumE)]) (.slice A2 (0 + 1) c2) (by rfl) (by rfl) (m := q.length) (n := q.length + 1) (by rw [Hne.out]) (by simp only [List.length_append, htk, List.length_singleton] <;> omega) (ho13.later _) SlAt.nil (by omega) (by unfold maxLen; omega) (by (try simp only [heap_drew, World.size_alloc]); omega) ?_
                    intro A3 c3 w14 ho14 hm14 hb14 hg14
                    have l14 := later_base (W := wd) hb14
                    have l1414 : Later w14 w14 := Later.refl
                    refine hK9.out _ _ (fun i => ((B13d _).2 i).1) (fun hHeld => ?_)
                    clear hK9 K9
                    (try simp only [Act.put])
                    refine wpAnyH_take (i := 9) (oi := _) (v := ?_) rfl (by kernel_rfl) (by kernel_rfl) (by kernel_rfl) (fun _ _ _ h => h) (Or.inl ⟨by rfl, ?_⟩) (by assumption) ?_
                    rotate_left 1
                    · (intro wy hSw; (try dsimp only at hSw); go_simp; try with_reducible rfl)
                    (try simp only [Act.put])
                    refine wpAnyH_ready (rs := [10]) (by kernel_rfl) (by simp) ?_
                    refine AllReadyH.cons (o := _) rfl (fun K9 hK9 => ?_) AllReadyH.nil
                    go_simp
                    refine hK9.out _ _ (fun i => blk_cell ((blk_far (p := ⟨w0.heap.size, 1, none⟩) hne13 _).trans (B13d w14).1) i) (fun hHeld => ?_)
                    clear hK9 K9
                    (try simp only [Act.put])
                    refine wpAnyH_done (by kernel_rfl) ?_ _
                    go_wp2_with fail
                    have hbd14 : Below wd.heap.size wd w14 := (l14 wd).below
                    have hS14 := blk_below hSd hbd14
                    have hz0d : w0.heap.size ≤ wd.heap.size := hb0d.size
                    have ho14m := ho14.mono hz0d
                    have ho14e := ho14m.far (p := ⟨w0.heap.size, 1, none⟩) (own_off ho14m hS14 (by decide)) (.slice A3 (q.length + 1) c3)
                    have hNL := hide (ho14.at_ SumE.enc).1
                    have hiq14 : InsOwn w0.heap.size (w14.setCell ⟨w0.heap.size, 1, none⟩ (.slice A3 (q.length + 1) c3)) (q.take 0 ++ [(⟨xo, xn, xr, xd, xA, xc, xi⟩ : SumE)] ++ ([] : List SumE)) := fun n hn => by
                      have h1 : Own InsetE.cells 3 58 w0.heap.size w14 (.slice n.A n.inset.length n.c) n.inset := by
                        rcases List.mem_append.1 hn with hn | hn
                        · rcases List.mem_append.1 hn with hn | hn
                          · exact (hiqd n (List.mem_of_mem_take hn)).below hbd14
                          · rw [List.mem_singleton] at hn; subst hn; exact hxd.below hbd14
                        · exact (hiqd n (by rw [← HD.out] at hn; exact List.mem_of_mem_drop hn)).below hbd14
                      exact h1.far (p := ⟨w0.heap.size, 1, none⟩) (own_off h1 hS14 (by decide)) _
                    have hbE := (hb0d.trans (hbd14.mono hz0d)).setCell (p := ⟨w0.heap.size, 1, none⟩) (Nat.le_refl _) (.slice A3 (q.length + 1) c3)
                    have hins := insert_sortL ltC_swo (M := ((es.take k).filter aliveB).map (sumOf (conL l) roots ks)) (y := (⟨xo, xn, xr, xd, xi⟩ : SumC)) (a := 0) (by rw [← hq.out, List.length_map]; omega) (by rw [← hq.out]; exact hab.out) (by rw [← hq.out]; exact H2.out)
                    rw [← hq.out, ← List.map_take, ← List.map_drop, HD.out] at hins
                    go_roundw
                    case rel => exact ⟨k + 1, q.take 0 ++ [(⟨xo, xn, xr, xd, xA, xc, xi⟩ : SumE)] ++ ([] : List SumE), A3, c3, by omega, by go_num, hide (by rw [HT2.out, ← hins]; simp [SumE.con]), hide (by rw [← hNL.out]; have := hql.out; omega), by rw [← hNL.out]; exact ho14e, hiq14, by rw [← hNL.out]; exact (blk_set hS14 1 _).trans rfl, hbE⟩
                    case measure => simp [intOf]; omega
                  · go_simp
                    refine hK9.out _ _ (fun i => ((B13d _).2 i).1) (fun hHeld => ?_)
                    clear hK9 K9
                    (try simp only [Act.put])
                    refine wpAnyH_take (i := 7) (oi := _) (v := ?_) rfl (by kernel_rfl) (by kernel_rfl) (by kernel_rfl) (fun _ _ _ h => h) (Or.inl ⟨by rfl, ?_⟩) (by assumption) ?_
                    rotate_left 1
                    · (intro wy hSw; (try dsimp only at hSw); go_simp; try with_reducible rfl)
                    (try simp only [Act.put])
                    refine wpAnyH_ready (rs := [3]) (by kernel_rfl) (by simp) ?_
                    refine AllReadyH.cons (o := _) rfl (fun K9 hK9 => ?_) AllReadyH.nil
                    refine step_app (P := Try.prog) rfl (.tmp 93) (.tmp 95) (by rfl) SumE.enc sumT _ _ [(⟨xo, xn, xr, xd, xA, xc, xi⟩ : SumE)] (q.take 0) (.slice Ab 0 cb) (by rfl) (by rfl) (m := 1) (n := 0 + 1) rfl (by rw [htk]) (ho12.later _) (blk_slAt SumE.enc (fr := (0, 0)) (e := 41) (heap_alloc_new _ _) [(⟨xo, xn, xr, xd, xA, xc, xi⟩ : SumE)] rfl) (by omega) (by unfold maxLen; omega) (by simp only [heap_drew, World.size_alloc]; omega) ?_
                    intro A2 c2 w13 ho13 hm13 hb13 hg13
                    have l13 := later_base (W := wd) hb13
                    have l1313 : Later w13 w13 := Later.refl
                    have hz13' : wd.heap.size ≤ w13.heap.size := (l13 wd).below.size
                    refine hK9.out _ _ (fun i => ((B13d _).2 i).1) (fun hHeld => ?_)
                    clear hK9 K9
                    (try simp only [Act.put])
                    refine wpAnyH_ready (rs := [8]) (by kernel_rfl) (by simp) ?_
                    refine AllReadyH.cons (o := _) rfl (fun K9 hK9 => ?_) AllReadyH.nil
                    refine step_app (P := Try.prog) rfl (.tmp 96) (.tmp 100) (by rfl) SumE.enc sumT _ _ ([] : List SumE) (q.take 0 ++ [(⟨xo, xn, xr, xd, xA, xc, xi⟩ : SumE)]) (.slice A2 (0 + 1) c2) (by rfl) (by rfl) (m := q.length) (n := q.length + 1) (by rw [Hne.out]) (by simp only [List.length_append, htk, List.length_singleton] <;> omega) (ho13.later _) SlAt.nil (by omega) (by unfold maxLen; omega) (by (try simp only [heap_drew, World.size_alloc]); omega) ?_
                    intro A3 c3 w14 ho14 hm14 hb14 hg14
                    have l14 := later_base (W := wd) hb14
                    have l1414 : Later w14 w14 := Later.refl
                    refine hK9.out _ _ (fun i => ((B13d _).2 i).1) (fun hHeld => ?_)
                    clear hK9 K9
                    (try simp only [Act.put])
                    refine wpAnyH_take (i := 9) (oi := _) (v := ?_) rfl (by kernel_rfl) (by kernel_rfl) (by kernel_rfl) (fun _ _ _ h => h) (Or.inl ⟨by rfl, ?_⟩) (by assumption) ?_
                    rotate_left 1
                    · (intro wy hSw; (try dsimp only at hSw); go_simp; try with_reducible rfl)
                    (try simp only [Act.put])
                    refine wpAnyH_ready (rs := [10]) (by kernel_rfl) (by simp) ?_
                    refine AllReadyH.cons (o := _) rfl (fun K9 hK9 => ?_) AllReadyH.nil
                    go_simp
                    refine hK9.out _ _ (fun i => blk_cell ((blk_far (p := ⟨w0.heap.size, 1, none⟩) hne13 _).trans (B13d w14).1) i) (fun hHeld => ?_)
                    clear hK9 K9
                    (try simp only [Act.put])
                    refine wpAnyH_done (by kernel_rfl) ?_ _
                    go_wp2_with fail
                    have hbd14 : Below wd.heap.size wd w14 := (l14 wd).below
                    have hS14 := blk_below hSd hbd14
                    have hz0d : w0.heap.size ≤ wd.heap.size := hb0d.size
                    have ho14m := ho14.mono hz0d
                    have ho14e := ho14m.far (p := ⟨w0.heap.size, 1, none⟩) (own_off ho14m hS14 (by decide)) (.slice A3 (q.length + 1) c3)
                    have hNL := hide (ho14.at_ SumE.enc).1
                    have hiq14 : InsOwn w0.heap.size (w14.setCell ⟨w0.heap.size, 1, none⟩ (.slice A3 (q.length + 1) c3)) (q.take 0 ++ [(⟨xo, xn, xr, xd, xA, xc, xi⟩ : SumE)] ++ ([] : List SumE)) := fun n hn => by
                      have h1 : Own InsetE.cells 3 58 w0.heap.size w14 (.slice n.A n.inset.length n.c) n.inset := by
                        rcases List.mem_append.1 hn with hn | hn
                        · rcases List.mem_append.1 hn with hn | hn
                          · exact (hiqd n (List.mem_of_mem_take hn)).below hbd14
                          · rw [List.mem_singleton] at hn; subst hn; exact hxd.below hbd14
                        · exact (hiqd n (by rw [← HD.out] at hn; exact List.mem_of_mem_drop hn)).below hbd14
                      exact h1.far (p := ⟨w0.heap.size, 1, none⟩) (own_off h1 hS14 (by decide)) _
                    have hbE := (hb0d.trans (hbd14.mono hz0d)).setCell (p := ⟨w0.heap.size, 1, none⟩) (Nat.le_refl _) (.slice A3 (q.length + 1) c3)
                    have hins := insert_sortL ltC_swo (M := ((es.take k).filter aliveB).map (sumOf (conL l) roots ks)) (y := (⟨xo, xn, xr, xd, xi⟩ : SumC)) (a := 0) (by rw [← hq.out, List.length_map]; omega) (by rw [← hq.out]; exact hab.out) (by rw [← hq.out]; exact H2.out)
                    rw [← hq.out, ← List.map_take, ← List.map_drop, HD.out] at hins
                    go_roundw
                    case rel => exact ⟨k + 1, q.take 0 ++ [(⟨xo, xn, xr, xd, xA, xc, xi⟩ : SumE)] ++ ([] : List SumE), A3, c3, by omega, by go_num, hide (by rw [HT2.out, ← hins]; simp [SumE.con]), hide (by rw [← hNL.out]; have := hql.out; omega), by rw [← hNL.out]; exact ho14e, hiq14, by rw [← hNL.out]; exact (blk_set hS14 1 _).trans rfl, hbE⟩
                    case measure => simp [intOf]; omega
                · go_simp
                  refine hK9.out _ _ (fun i => ((B13d _).2 i).1) (fun hHeld => ?_)
                  clear hK9 K9
                  (try simp only [Act.put])
                  refine wpAnyH_take (i := 7) (oi := _) (v := ?_) rfl (by kernel_rfl) (by kernel_rfl) (by kernel_rfl) (fun _ _ _ h => h) (Or.inl ⟨by rfl, ?_⟩) (by assumption) ?_
                  rotate_left 1
                  · (intro wy hSw; (try dsimp only at hSw); go_simp; try with_reducible rfl)
                  (try simp only [Act.put])
                  refine wpAnyH_ready (rs := [2]) (by kernel_rfl) (by simp) ?_
                  refine AllReadyH.cons (o := _) rfl (fun K9 hK9 => ?_) AllReadyH.nil
                  go_simp
                  refine hK9.out _ _ (fun i => ((B13d _).2 i).1) (fun hHeld => ?_)
                  clear hK9 K9
                  (try simp only [Act.put])
                  refine wpAnyH_ready (rs := [3]) (by kernel_rfl) (by simp) ?_
                  refine AllReadyH.cons (o := _) rfl (fun K9 hK9 => ?_) AllReadyH.nil
                  refine step_app (P := Try.prog) rfl (.tmp 93) (.tmp 95) (by rfl) SumE.enc sumT _ _ [(⟨xo, xn, xr, xd, xA, xc, xi⟩ : SumE)] (q.take 0) (.slice Ab 0 cb) (by rfl) (by rfl) (m := 1) (n := 0 + 1) rfl (by rw [htk]) (ho12.later _) (blk_slAt SumE.enc (fr := (0, 0)) (e := 41) (heap_alloc_new _ _) [(⟨xo, xn, xr, xd, xA, xc, xi⟩ : SumE)] rfl) (by omega) (by unfold maxLen; omega) (by simp only [heap_drew, World.size_alloc]; omega) ?_
                  intro A2 c2 w13 ho13 hm13 hb13 hg13
                  have l13 := later_base (W := wd) hb13
                  have l1313 : Later w13 w13 := Later.refl
                  have hz13' : wd.heap.size ≤ w13.heap.size := (l13 wd).below.size
                  refine hK9.out _ _ (fun i => ((B13d _).2 i).1) (fun hHeld => ?_)
                  clear hK9 K9
                  (try simp only [Act.put])
                  refine wpAnyH_ready (rs := [8]) (by kernel_rfl) (by simp) ?_
                  refine AllReadyH.cons (o := _) rfl (fun K9 hK9 => ?_) AllReadyH.nil
                  refine step_app (P := Try.prog) rfl (.tmp 96) (.tmp 100) (by rfl) SumE.enc sumT _ _ ([] : List SumE) (q.take 0 ++ [(⟨xo, xn, xr, xd, xA, xc, xi⟩ : SumE)]) (.slice A2 (0 + 1) c2) (by rfl) (by rfl) (m := q.length) (n := q.length + 1) (by rw [Hne.out]) (by simp only [List.length_append, htk, List.length_singleton] <;> omega) (ho13.later _) SlAt.nil (by omega) (by unfold maxLen; omega) (by (try simp only [heap_drew, World.size_alloc]); omega) ?_
                  intro A3 c3 w14 ho14 hm14 hb14 hg14
                  have l14 := later_base (W := wd) hb14
                  have l1414 : Later w14 w14 := Later.refl
                  refine hK9.out _ _ (fun i => ((B13d _).2 i).1) (fun hHeld => ?_)
                  clear hK9 K9
                  (try simp only [Act.put])
                  refine wpAnyH_take (i := 9) (oi := _) (v := ?_) rfl (by kernel_rfl) (by kernel_rfl) (by kernel_rfl) (fun _ _ _ h => h) (Or.inl ⟨by rfl, ?_⟩) (by assumption) ?_
                  rotate_left 1
                  · (intro wy hSw; (try dsimp only at hSw); go_simp; try with_reducible rfl)
                  (try simp only [Act.put])
                  refine wpAnyH_ready (rs := [10]) (by kernel_rfl) (by simp) ?_
                  refine AllReadyH.cons (o := _) rfl (fun K9 hK9 => ?_) AllReadyH.nil
                  go_simp
                  refine hK9.out _ _ (fun i => blk_cell ((blk_far (p := ⟨w0.heap.size, 1, none⟩) hne13 _).trans (B13d w14).1) i) (fun hHeld => ?_)
                  clear hK9 K9
                  (try simp only [Act.put])
                  refine wpAnyH_done (by kernel_rfl) ?_ _
                  go_wp2_with fail
                  have hbd14 : Below wd.heap.size wd w14 := (l14 wd).below
                  have hS14 := blk_below hSd hbd14
                  have hz0d : w0.heap.size ≤ wd.heap.size := hb0d.size
                  have ho14m := ho14.mono hz0d
                  have ho14e := ho14m.far (p := ⟨w0.heap.size, 1, none⟩) (own_off ho14m hS14 (by decide)) (.slice A3 (q.length + 1) c3)
                  have hNL := hide (ho14.at_ SumE.enc).1
                  have hiq14 : InsOwn w0.heap.size (w14.setCell ⟨w0.heap.size, 1, none⟩ (.slice A3 (q.length + 1) c3)) (q.take 0 ++ [(⟨xo, xn, xr, xd, xA, xc, xi⟩ : SumE)] ++ ([] : List SumE)) := fun n hn => by
                    have h1 : Own InsetE.cells 3 58 w0.heap.size w14 (.slice n.A n.inset.length n.c) n.inset := by
                      rcases List.mem_append.1 hn with hn | hn
                      · rcases List.mem_append.1 hn with hn | hn
                        · exact (hiqd n (List.mem_of_mem_take hn)).below hbd14
                        · rw [List.mem_singleton] at hn; subst hn; exact hxd.below hbd14
                      · exact (hiqd n (by rw [← HD.out] at hn; exact List.mem_of_mem_drop hn)).below hbd14
                    exact h1.far (p := ⟨w0.heap.size, 1, none⟩) (own_off h1 hS14 (by decide)) _
                  have hbE := (hb0d.trans (hbd14.mono hz0d)).setCell (p := ⟨w0.heap.size, 1, none⟩) (Nat.le_refl _) (.slice A3 (q.length + 1) c3)
                  have hins := insert_sortL ltC_swo (M := ((es.take k).filter aliveB).map (sumOf (conL l) roots ks)) (y := (⟨xo, xn, xr, xd, xi⟩ : SumC)) (a := 0) (by rw [← hq.out, List.length_map]; omega) (by rw [← hq.out]; exact hab.out) (by rw [← hq.out]; exact H2.out)
                  rw [← hq.out, ← List.map_take, ← List.map_drop, HD.out] at hins
                  go_roundw
                  case rel => exact ⟨k + 1, q.take 0 ++ [(⟨xo, xn, xr, xd, xA, xc, xi⟩ : SumE)] ++ ([] : List SumE), A3, c3, by omega, by go_num, hide (by rw [HT2.out, ← hins]; simp [SumE.con]), hide (by rw [← hNL.out]; have := hql.out; omega), by rw [← hNL.out]; exact ho14e, hiq14, by rw [← hNL.out]; exact (blk_set hS14 1 _).trans rfl, hbE⟩
                  case measure => simp [intOf]; omega
            · obtain ⟨b2, o2, hIA, -, -⟩ := HI wc hne
              subst hIA
              have HD := hide (show q.drop 0 = q from rfl)
              go_upto_region 8 with fail
              (refine wp_region_after (by kernel_rfl) (by kernel_rfl) ?_
               repeat (any_goals (first | go_big_quiet_skip | (go_big_quiet_want; go_big_quiet_op; first | go_big_quiet_on | go_big_quiet_call (fail)) | quiet_step (fail) | (refine wpQuiet_step (fun K hK => ?_); go_simp; split <;> (refine hK _ ?_; clear hK K))))
               all_goals (refine wpQuiet_nil ?_; intro _ hw'; obtain ⟨u', hw''⟩ := hw'; subst hw''; obtain ⟨wd, hbd⟩ := u'; simp only [After.val_mk]))
              have ld := later hbd
              have ldd : Later wd wd := Later.refl
              have htk : (q.take 0).length = 0 := by rw [List.length_take]; omega
              have hdk : (q.drop 0).length = q.length - 0 := by rw [List.length_drop]
              have hk0 : (0 : Int) ≤ (0 : Int) := by omega
              have hkc : (0 : Int) ≤ (QC : Int) := by omega
              have hkll : (0 : Int) ≤ (q.length : Int) := by omega
              have lwcd : Later wc wd := (inferInstance : Later wc wd)
              have hb0d : Below w0.heap.size w0 wd := hb0c.trans (lwcd.below.mono hb0c.size)
              have hSd := blk_below h11c lwcd.below
              have BSd := boxed hSd
              have hiqd := hiqc.below lwcd.below
              have hxd := hxc.below lwcd.below
              have B13d : Boxed wd g13 #[.int .i64 xo, .int .u64 xn, .bool xr, .int .i64 xd, .slice xA xi.length xc] 41 := boxed_later B13
              have hne13 : g13 ≠ w0.heap.size := by omega
              go_upto_region 11 with (at_builtin; refine wpList_appE rfl (.tmp 87) (.tmp 91) rfl SumE.enc sumT _ _ (q.take 0) rfl (by rw [htk]; rfl) ((HI _).take _) (by omega) (by unfold maxLen; omega) ?_; intro Ab cb w12 ho12 hm12 hb12; rw [htk] at ho12; have l12 := later hb12; have l1212 : Later w12 w12 := Later.refl)
              have hz12 : wd.heap.size ≤ w12.heap.size := hb12.size
              refine wp_region_held_drew (S := fun w' => ∀ i : Nat, w'.cell? ⟨g13, i, none⟩ = (#[.int .i64 xo, .int .u64 xn, .bool xr, .int .i64 xd, .slice xA xi.length xc] : Array Value)[i]?) (by kernel_rfl) (fun i => ((B13d _).2 i).1) (fun hHeld => ?_)
              refine wpAnyH_take (i := 0) (oi := _) (v := ?_) rfl (by kernel_rfl) (by kernel_rfl) (by kernel_rfl) (fun _ _ _ h => h) (Or.inl ⟨by rfl, ?_⟩) (by assumption) ?_
              rotate_left 1
              · (intro wy hSw; (try dsimp only at hSw); go_simp; try with_reducible rfl)
              (try simp only [Act.put])
              refine wpAnyH_take (i := 1) (oi := _) (v := ?_) rfl (by kernel_rfl) (by kernel_rfl) (by kernel_rfl) (fun _ _ _ h => h) (Or.inl ⟨by rfl, ?_⟩) (by assumption) ?_
              rotate_left 1
              · (intro wy hSw; (try dsimp only at hSw); go_simp; try with_reducible rfl)
              (try simp only [Act.put])
              refine wpAnyH_take (i := 4) (oi := _) (v := ?_) rfl (by kernel_rfl) (by kernel_rfl) (by kernel_rfl) (fun _ _ _ h => h) (Or.inl ⟨by rfl, ?_⟩) (by assumption) ?_
              rotate_left 1
              · (intro wy hSw; (try dsimp only at hSw); go_simp; try with_reducible rfl)
              (try simp only [Act.put])
              refine wpAnyH_take (i := 6) (oi := _) (v := ?_) rfl (by kernel_rfl) (by kernel_rfl) (by kernel_rfl) (fun _ _ _ h => h) (Or.inl ⟨by rfl, ?_⟩) (by assumption) ?_
              rotate_left 1
              · (intro wy hSw; (try dsimp only at hSw); go_simp; try with_reducible rfl)
              (try simp only [Act.put])
              refine wpAnyH_ready (rs := [2, 5]) (by kernel_rfl) (by simp) ?_
              refine AllReadyH.cons (o := _) rfl (fun K9 hK9 => ?_) (AllReadyH.cons (o := _) rfl (fun K9 hK9 => ?_) AllReadyH.nil)
              · go_simp
                refine hK9.out _ _ (fun i => ((B13d _).2 i).1) (fun hHeld => ?_)
                clear hK9 K9
                (try simp only [Act.put])
                refine wpAnyH_ready (rs := [3, 5]) (by kernel_rfl) (by simp) ?_
                refine AllReadyH.cons (o := _) rfl (fun K9 hK9 => ?_) (AllReadyH.cons (o := _) rfl (fun K9 hK9 => ?_) AllReadyH.nil)
                · refine step_app (P := Try.prog) rfl (.tmp 93) (.tmp 95) (by rfl) SumE.enc sumT _ _ [(⟨xo, xn, xr, xd, xA, xc, xi⟩ : SumE)] (q.take 0) (.slice Ab 0 cb) (by rfl) (by rfl) (m := 1) (n := 0 + 1) rfl (by rw [htk]) (ho12.later _) (blk_slAt SumE.enc (fr := (0, 0)) (e := 41) (heap_alloc_new _ _) [(⟨xo, xn, xr, xd, xA, xc, xi⟩ : SumE)] rfl) (by omega) (by unfold maxLen; omega) (by simp only [heap_drew, World.size_alloc]; omega) ?_
                  intro A2 c2 w13 ho13 hm13 hb13 hg13
                  have l13 := later_base (W := wd) hb13
                  have l1313 : Later w13 w13 := Later.refl
                  have hz13' : wd.heap.size ≤ w13.heap.size := (l13 wd).below.size
                  refine hK9.out _ _ (fun i => ((B13d _).2 i).1) (fun hHeld => ?_)
                  clear hK9 K9
                  (try simp only [Act.put])
                  refine wpAnyH_ready (rs := [5]) (by kernel_rfl) (by simp) ?_
                  refine AllReadyH.cons (o := _) rfl (fun K9 hK9 => ?_) AllReadyH.nil
                  go_simp
                  refine hK9.out _ _ (fun i => ((B13d _).2 i).1) (fun hHeld => ?_)
                  clear hK9 K9
                  (try simp only [Act.put])
                  refine wpAnyH_take (i := 7) (oi := _) (v := ?_) rfl (by kernel_rfl) (by kernel_rfl) (by kernel_rfl) (fun _ _ _ h => h) (Or.inl ⟨by rfl, ?_⟩) (by assumption) ?_
                  rotate_left 1
                  · (intro wy hSw; (try dsimp only at hSw); go_simp; try with_reducible rfl)
                  (try simp only [Act.put])
                  refine wpAnyH_ready (rs := [8]) (by kernel_rfl) (by simp) ?_
                  refine AllReadyH.cons (o := _) rfl (fun K9 hK9 => ?_) AllReadyH.nil
                  refine step_app (P := Try.prog) rfl (.tmp 96) (.tmp 100) (by rfl) SumE.enc sumT (some ⟨b2, o2, none⟩) QC q (q.take 0 ++ [(⟨xo, xn, xr, xd, xA, xc, xi⟩ : SumE)]) (.slice A2 (0 + 1) c2) (by rfl) (by rfl) (m := q.length) (n := q.length + 1) rfl (by simp only [List.length_append, htk, List.length_singleton] <;> omega) (ho13.later _) (HI _) (by omega) (by unfold maxLen; omega) (by (try simp only [heap_drew, World.size_alloc]); omega) ?_
                  intro A3 c3 w14 ho14 hm14 hb14 hg14
                  have l14 := later_base (W := wd) hb14
                  have l1414 : Later w14 w14 := Later.refl
                  refine hK9.out _ _ (fun i => ((B13d _).2 i).1) (fun hHeld => ?_)
                  clear hK9 K9
                  (try simp only [Act.put])
                  refine wpAnyH_take (i := 9) (oi := _) (v := ?_) rfl (by kernel_rfl) (by kernel_rfl) (by kernel_rfl) (fun _ _ _ h => h) (Or.inl ⟨by rfl, ?_⟩) (by assumption) ?_
                  rotate_left 1
                  · (intro wy hSw; (try dsimp only at hSw); go_simp; try with_reducible rfl)
                  (try simp only [Act.put])
                  refine wpAnyH_ready (rs := [10]) (by kernel_rfl) (by simp) ?_
                  refine AllReadyH.cons (o := _) rfl (fun K9 hK9 => ?_) AllReadyH.nil
                  go_simp
                  refine hK9.out _ _ (fun i => blk_cell ((blk_far (p := ⟨w0.heap.size, 1, none⟩) hne13 _).trans (B13d w14).1) i) (fun hHeld => ?_)
                  clear hK9 K9
                  (try simp only [Act.put])
                  refine wpAnyH_done (by kernel_rfl) ?_ _
                  go_wp2_with fail
                  have hbd14 : Below wd.heap.size wd w14 := (l14 wd).below
                  have hS14 := blk_below hSd hbd14
                  have hz0d : w0.heap.size ≤ wd.heap.size := hb0d.size
                  have ho14m := ho14.mono hz0d
                  have ho14e := ho14m.far (p := ⟨w0.heap.size, 1, none⟩) (own_off ho14m hS14 (by decide)) (.slice A3 (q.length + 1) c3)
                  have hNL := hide (ho14.at_ SumE.enc).1
                  have hiq14 : InsOwn w0.heap.size (w14.setCell ⟨w0.heap.size, 1, none⟩ (.slice A3 (q.length + 1) c3)) (q.take 0 ++ [(⟨xo, xn, xr, xd, xA, xc, xi⟩ : SumE)] ++ q) := fun n hn => by
                    have h1 : Own InsetE.cells 3 58 w0.heap.size w14 (.slice n.A n.inset.length n.c) n.inset := by
                      rcases List.mem_append.1 hn with hn | hn
                      · rcases List.mem_append.1 hn with hn | hn
                        · exact (hiqd n (List.mem_of_mem_take hn)).below hbd14
                        · rw [List.mem_singleton] at hn; subst hn; exact hxd.below hbd14
                      · exact (hiqd n (by rw [← HD.out] at hn; exact List.mem_of_mem_drop hn)).below hbd14
                    exact h1.far (p := ⟨w0.heap.size, 1, none⟩) (own_off h1 hS14 (by decide)) _
                  have hbE := (hb0d.trans (hbd14.mono hz0d)).setCell (p := ⟨w0.heap.size, 1, none⟩) (Nat.le_refl _) (.slice A3 (q.length + 1) c3)
                  have hins := insert_sortL ltC_swo (M := ((es.take k).filter aliveB).map (sumOf (conL l) roots ks)) (y := (⟨xo, xn, xr, xd, xi⟩ : SumC)) (a := 0) (by rw [← hq.out, List.length_map]; omega) (by rw [← hq.out]; exact hab.out) (by rw [← hq.out]; exact H2.out)
                  rw [← hq.out, ← List.map_take, ← List.map_drop, HD.out] at hins
                  go_roundw
                  case rel => exact ⟨k + 1, q.take 0 ++ [(⟨xo, xn, xr, xd, xA, xc, xi⟩ : SumE)] ++ q, A3, c3, by omega, by go_num, hide (by rw [HT2.out, ← hins]; simp [SumE.con]), hide (by rw [← hNL.out]; have := hql.out; omega), by rw [← hNL.out]; exact ho14e, hiq14, by rw [← hNL.out]; exact (blk_set hS14 1 _).trans rfl, hbE⟩
                  case measure => simp [intOf]; omega
                · go_simp
                  refine hK9.out _ _ (fun i => ((B13d _).2 i).1) (fun hHeld => ?_)
                  clear hK9 K9
                  (try simp only [Act.put])
                  refine wpAnyH_take (i := 7) (oi := _) (v := ?_) rfl (by kernel_rfl) (by kernel_rfl) (by kernel_rfl) (fun _ _ _ h => h) (Or.inl ⟨by rfl, ?_⟩) (by assumption) ?_
                  rotate_left 1
                  · (intro wy hSw; (try dsimp only at hSw); go_simp; try with_reducible rfl)
                  (try simp only [Act.put])
                  refine wpAnyH_ready (rs := [3]) (by kernel_rfl) (by simp) ?_
                  refine AllReadyH.cons (o := _) rfl (fun K9 hK9 => ?_) AllReadyH.nil
                  refine step_app (P := Try.prog) rfl (.tmp 93) (.tmp 95) (by rfl) SumE.enc sumT _ _ [(⟨xo, xn, xr, xd, xA, xc, xi⟩ : SumE)] (q.take 0) (.slice Ab 0 cb) (by rfl) (by rfl) (m := 1) (n := 0 + 1) rfl (by rw [htk]) (ho12.later _) (blk_slAt SumE.enc (fr := (0, 0)) (e := 41) (heap_alloc_new _ _) [(⟨xo, xn, xr, xd, xA, xc, xi⟩ : SumE)] rfl) (by omega) (by unfold maxLen; omega) (by simp only [heap_drew, World.size_alloc]; omega) ?_
                  intro A2 c2 w13 ho13 hm13 hb13 hg13
                  have l13 := later_base (W := wd) hb13
                  have l1313 : Later w13 w13 := Later.refl
                  have hz13' : wd.heap.size ≤ w13.heap.size := (l13 wd).below.size
                  refine hK9.out _ _ (fun i => ((B13d _).2 i).1) (fun hHeld => ?_)
                  clear hK9 K9
                  (try simp only [Act.put])
                  refine wpAnyH_ready (rs := [8]) (by kernel_rfl) (by simp) ?_
                  refine AllReadyH.cons (o := _) rfl (fun K9 hK9 => ?_) AllReadyH.nil
                  refine step_app (P := Try.prog) rfl (.tmp 96) (.tmp 100) (by rfl) SumE.enc sumT (some ⟨b2, o2, none⟩) QC q (q.take 0 ++ [(⟨xo, xn, xr, xd, xA, xc, xi⟩ : SumE)]) (.slice A2 (0 + 1) c2) (by rfl) (by rfl) (m := q.length) (n := q.length + 1) rfl (by simp only [List.length_append, htk, List.length_singleton] <;> omega) (ho13.later _) (HI _) (by omega) (by unfold maxLen; omega) (by (try simp only [heap_drew, World.size_alloc]); omega) ?_
                  intro A3 c3 w14 ho14 hm14 hb14 hg14
                  have l14 := later_base (W := wd) hb14
                  have l1414 : Later w14 w14 := Later.refl
                  refine hK9.out _ _ (fun i => ((B13d _).2 i).1) (fun hHeld => ?_)
                  clear hK9 K9
                  (try simp only [Act.put])
                  refine wpAnyH_take (i := 9) (oi := _) (v := ?_) rfl (by kernel_rfl) (by kernel_rfl) (by kernel_rfl) (fun _ _ _ h => h) (Or.inl ⟨by rfl, ?_⟩) (by assumption) ?_
                  rotate_left 1
                  · (intro wy hSw; (try dsimp only at hSw); go_simp; try with_reducible rfl)
                  (try simp only [Act.put])
                  refine wpAnyH_ready (rs := [10]) (by kernel_rfl) (by simp) ?_
                  refine AllReadyH.cons (o := _) rfl (fun K9 hK9 => ?_) AllReadyH.nil
                  go_simp
                  refine hK9.out _ _ (fun i => blk_cell ((blk_far (p := ⟨w0.heap.size, 1, none⟩) hne13 _).trans (B13d w14).1) i) (fun hHeld => ?_)
                  clear hK9 K9
                  (try simp only [Act.put])
                  refine wpAnyH_done (by kernel_rfl) ?_ _
                  go_wp2_with fail
                  have hbd14 : Below wd.heap.size wd w14 := (l14 wd).below
                  have hS14 := blk_below hSd hbd14
                  have hz0d : w0.heap.size ≤ wd.heap.size := hb0d.size
                  have ho14m := ho14.mono hz0d
                  have ho14e := ho14m.far (p := ⟨w0.heap.size, 1, none⟩) (own_off ho14m hS14 (by decide)) (.slice A3 (q.length + 1) c3)
                  have hNL := hide (ho14.at_ SumE.enc).1
                  have hiq14 : InsOwn w0.heap.size (w14.setCell ⟨w0.heap.size, 1, none⟩ (.slice A3 (q.length + 1) c3)) (q.take 0 ++ [(⟨xo, xn, xr, xd, xA, xc, xi⟩ : SumE)] ++ q) := fun n hn => by
                    have h1 : Own InsetE.cells 3 58 w0.heap.size w14 (.slice n.A n.inset.length n.c) n.inset := by
                      rcases List.mem_append.1 hn with hn | hn
                      · rcases List.mem_append.1 hn with hn | hn
                        · exact (hiqd n (List.mem_of_mem_take hn)).below hbd14
                        · rw [List.mem_singleton] at hn; subst hn; exact hxd.below hbd14
                      · exact (hiqd n (by rw [← HD.out] at hn; exact List.mem_of_mem_drop hn)).below hbd14
                    exact h1.far (p := ⟨w0.heap.size, 1, none⟩) (own_off h1 hS14 (by decide)) _
                  have hbE := (hb0d.trans (hbd14.mono hz0d)).setCell (p := ⟨w0.heap.size, 1, none⟩) (Nat.le_refl _) (.slice A3 (q.length + 1) c3)
                  have hins := insert_sortL ltC_swo (M := ((es.take k).filter aliveB).map (sumOf (conL l) roots ks)) (y := (⟨xo, xn, xr, xd, xi⟩ : SumC)) (a := 0) (by rw [← hq.out, List.length_map]; omega) (by rw [← hq.out]; exact hab.out) (by rw [← hq.out]; exact H2.out)
                  rw [← hq.out, ← List.map_take, ← List.map_drop, HD.out] at hins
                  go_roundw
                  case rel => exact ⟨k + 1, q.take 0 ++ [(⟨xo, xn, xr, xd, xA, xc, xi⟩ : SumE)] ++ q, A3, c3, by omega, by go_num, hide (by rw [HT2.out, ← hins]; simp [SumE.con]), hide (by rw [← hNL.out]; have := hql.out; omega), by rw [← hNL.out]; exact ho14e, hiq14, by rw [← hNL.out]; exact (blk_set hS14 1 _).trans rfl, hbE⟩
                  case measure => simp [intOf]; omega
              · go_simp
                refine hK9.out _ _ (fun i => ((B13d _).2 i).1) (fun hHeld => ?_)
                clear hK9 K9
                (try simp only [Act.put])
                refine wpAnyH_take (i := 7) (oi := _) (v := ?_) rfl (by kernel_rfl) (by kernel_rfl) (by kernel_rfl) (fun _ _ _ h => h) (Or.inl ⟨by rfl, ?_⟩) (by assumption) ?_
                rotate_left 1
                · (intro wy hSw; (try dsimp only at hSw); go_simp; try with_reducible rfl)
                (try simp only [Act.put])
                refine wpAnyH_ready (rs := [2]) (by kernel_rfl) (by simp) ?_
                refine AllReadyH.cons (o := _) rfl (fun K9 hK9 => ?_) AllReadyH.nil
                go_simp
                refine hK9.out _ _ (fun i => ((B13d _).2 i).1) (fun hHeld => ?_)
                clear hK9 K9
                (try simp only [Act.put])
                refine wpAnyH_ready (rs := [3]) (by kernel_rfl) (by simp) ?_
                refine AllReadyH.cons (o := _) rfl (fun K9 hK9 => ?_) AllReadyH.nil
                refine step_app (P := Try.prog) rfl (.tmp 93) (.tmp 95) (by rfl) SumE.enc sumT _ _ [(⟨xo, xn, xr, xd, xA, xc, xi⟩ : SumE)] (q.take 0) (.slice Ab 0 cb) (by rfl) (by rfl) (m := 1) (n := 0 + 1) rfl (by rw [htk]) (ho12.later _) (blk_slAt SumE.enc (fr := (0, 0)) (e := 41) (heap_alloc_new _ _) [(⟨xo, xn, xr, xd, xA, xc, xi⟩ : SumE)] rfl) (by omega) (by unfold maxLen; omega) (by simp only [heap_drew, World.size_alloc]; omega) ?_
                intro A2 c2 w13 ho13 hm13 hb13 hg13
                have l13 := later_base (W := wd) hb13
                have l1313 : Later w13 w13 := Later.refl
                have hz13' : wd.heap.size ≤ w13.heap.size := (l13 wd).below.size
                refine hK9.out _ _ (fun i => ((B13d _).2 i).1) (fun hHeld => ?_)
                clear hK9 K9
                (try simp only [Act.put])
                refine wpAnyH_ready (rs := [8]) (by kernel_rfl) (by simp) ?_
                refine AllReadyH.cons (o := _) rfl (fun K9 hK9 => ?_) AllReadyH.nil
                refine step_app (P := Try.prog) rfl (.tmp 96) (.tmp 100) (by rfl) SumE.enc sumT (some ⟨b2, o2, none⟩) QC q (q.take 0 ++ [(⟨xo, xn, xr, xd, xA, xc, xi⟩ : SumE)]) (.slice A2 (0 + 1) c2) (by rfl) (by rfl) (m := q.length) (n := q.length + 1) rfl (by simp only [List.length_append, htk, List.length_singleton] <;> omega) (ho13.later _) (HI _) (by omega) (by unfold maxLen; omega) (by (try simp only [heap_drew, World.size_alloc]); omega) ?_
                intro A3 c3 w14 ho14 hm14 hb14 hg14
                have l14 := later_base (W := wd) hb14
                have l1414 : Later w14 w14 := Later.refl
                refine hK9.out _ _ (fun i => ((B13d _).2 i).1) (fun hHeld => ?_)
                clear hK9 K9
                (try simp only [Act.put])
                refine wpAnyH_take (i := 9) (oi := _) (v := ?_) rfl (by kernel_rfl) (by kernel_rfl) (by kernel_rfl) (fun _ _ _ h => h) (Or.inl ⟨by rfl, ?_⟩) (by assumption) ?_
                rotate_left 1
                · (intro wy hSw; (try dsimp only at hSw); go_simp; try with_reducible rfl)
                (try simp only [Act.put])
                refine wpAnyH_ready (rs := [10]) (by kernel_rfl) (by simp) ?_
                refine AllReadyH.cons (o := _) rfl (fun K9 hK9 => ?_) AllReadyH.nil
                go_simp
                refine hK9.out _ _ (fun i => blk_cell ((blk_far (p := ⟨w0.heap.size, 1, none⟩) hne13 _).trans (B13d w14).1) i) (fun hHeld => ?_)
                clear hK9 K9
                (try simp only [Act.put])
                refine wpAnyH_done (by kernel_rfl) ?_ _
                go_wp2_with fail
                have hbd14 : Below wd.heap.size wd w14 := (l14 wd).below
                have hS14 := blk_below hSd hbd14
                have hz0d : w0.heap.size ≤ wd.heap.size := hb0d.size
                have ho14m := ho14.mono hz0d
                have ho14e := ho14m.far (p := ⟨w0.heap.size, 1, none⟩) (own_off ho14m hS14 (by decide)) (.slice A3 (q.length + 1) c3)
                have hNL := hide (ho14.at_ SumE.enc).1
                have hiq14 : InsOwn w0.heap.size (w14.setCell ⟨w0.heap.size, 1, none⟩ (.slice A3 (q.length + 1) c3)) (q.take 0 ++ [(⟨xo, xn, xr, xd, xA, xc, xi⟩ : SumE)] ++ q) := fun n hn => by
                  have h1 : Own InsetE.cells 3 58 w0.heap.size w14 (.slice n.A n.inset.length n.c) n.inset := by
                    rcases List.mem_append.1 hn with hn | hn
                    · rcases List.mem_append.1 hn with hn | hn
                      · exact (hiqd n (List.mem_of_mem_take hn)).below hbd14
                      · rw [List.mem_singleton] at hn; subst hn; exact hxd.below hbd14
                    · exact (hiqd n (by rw [← HD.out] at hn; exact List.mem_of_mem_drop hn)).below hbd14
                  exact h1.far (p := ⟨w0.heap.size, 1, none⟩) (own_off h1 hS14 (by decide)) _
                have hbE := (hb0d.trans (hbd14.mono hz0d)).setCell (p := ⟨w0.heap.size, 1, none⟩) (Nat.le_refl _) (.slice A3 (q.length + 1) c3)
                have hins := insert_sortL ltC_swo (M := ((es.take k).filter aliveB).map (sumOf (conL l) roots ks)) (y := (⟨xo, xn, xr, xd, xi⟩ : SumC)) (a := 0) (by rw [← hq.out, List.length_map]; omega) (by rw [← hq.out]; exact hab.out) (by rw [← hq.out]; exact H2.out)
                rw [← hq.out, ← List.map_take, ← List.map_drop, HD.out] at hins
                go_roundw
                case rel => exact ⟨k + 1, q.take 0 ++ [(⟨xo, xn, xr, xd, xA, xc, xi⟩ : SumE)] ++ q, A3, c3, by omega, by go_num, hide (by rw [HT2.out, ← hins]; simp [SumE.con]), hide (by rw [← hNL.out]; have := hql.out; omega), by rw [← hNL.out]; exact ho14e, hiq14, by rw [← hNL.out]; exact (blk_set hS14 1 _).trans rfl, hbE⟩
                case measure => simp [intOf]; omega
    · have hkk : k = es.length := by omega
      subst hkk
      have hz2 : w.heap.size + 1 < w0.heap.size := boxed_lt B10
      go_wp2_with fail
      have hW := (blk_set (blk_set (B10 wr).1 0 (.int .i64 ep)) 1 (.slice QA q.length QC)).trans (by simp : _ = some (Obj.cells #[.int .i64 ep, .slice QA q.length QC] 34 (0, 0)))
      have r0 := blk_cell hW 0
      have r1 := blk_cell hW 1
      simp at r0 r1
      have hqe := hq.out
      rw [List.take_length] at hqe
      have hoe := (hoq.set (p := ⟨w.heap.size + 1, 0, none⟩) hz2 (.int .i64 ep)).set (p := ⟨w.heap.size + 1, 1, none⟩) hz2 (.slice QA q.length QC)
      have hie : InsOwn w0.heap.size ((wr.setCell ⟨w.heap.size + 1, 0, none⟩ (.int .i64 ep)).setCell ⟨w.heap.size + 1, 1, none⟩ (.slice QA q.length QC)) q := fun n hn => ((hiq n hn).set (p := ⟨w.heap.size + 1, 0, none⟩) hz2 _).set (p := ⟨w.heap.size + 1, 1, none⟩) hz2 _
      have hbw : Below w.heap.size w wr := hb0.trans (hbr.mono hb0.size)
      refine bodyPost_ret (v := .agg #[.int .i64 ep, .slice QA q.length QC]) (by simp [results, Try.results14, go_sem, r0, r1]) rfl ?_
      exact ⟨q, QA, QC, hide hqe, rfl, hie.sums (hoe.at_ SumE.enc).2.2, (hbw.setCell (p := ⟨w.heap.size + 1, 0, none⟩) (by show w.heap.size ≤ w.heap.size + 1; omega) _).setCell (p := ⟨w.heap.size + 1, 1, none⟩) (by show w.heap.size ≤ w.heap.size + 1; omega) _⟩
end Go.Proofs.Ytomgdkfoinojiaa
