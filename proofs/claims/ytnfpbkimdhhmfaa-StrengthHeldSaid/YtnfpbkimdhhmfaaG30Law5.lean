/-
  Contracts of the functions of this seat that each theorem names: what a call returns, and that it writes nothing that was there before. The conditions stand in each theorem.
-/
import Derived.Test.YtnfpbkimdhhmfaaG30Law1
import Derived.Test.YtnfpbkimdhhmfaaGValid3
namespace Go.Proofs.Ytnfpbkimdhhmfaa
open Go.RowKit
attribute [local go_sem ↓] run_eql_id run_neq_id
attribute [local simp] heap_drew
def holdV (x : IDE) (v : ValE) : Bool := v.kind == 2 && decide (v.ref = x)
def holdS (L : List NodeC) (x s : IDE) : Bool := match firstN L s with | some n => n.fields.any (holdV x) | none => false
theorem any_take_succ {α : Type} {p : α → Bool} {l : List α} {k : Nat} {x : α} (h : l[k]? = some x) : (l.take (k + 1)).any p = ((l.take k).any p || p x) := by
  rw [take_snoc_get h, List.any_append]; simp
theorem heldP_iff {L : List NodeC} {roots weak q : List IDE} {x : IDE} : heldP L roots weak q x ↔ (decide (x ∈ weak) || decide (x ∈ roots) || q.any (holdS L x)) = true := by
  unfold heldP
  simp only [Bool.or_eq_true, decide_eq_true_eq, List.any_eq_true, or_assoc]
  refine or_congr Iff.rfl (or_congr Iff.rfl ⟨?_, ?_⟩)
  · rintro ⟨s, hs, n, hn, v, hv, h1, h2⟩
    exact ⟨s, hs, by unfold holdS holdV; rw [hn]; simp only [List.any_eq_true]; exact ⟨v, hv, by simp [h1, h2]⟩⟩
  · rintro ⟨s, hs, h⟩
    unfold holdS at h
    split at h
    · rename_i n hn
      rw [List.any_eq_true] at h
      obtain ⟨v, hv, h⟩ := h
      unfold holdV at h
      simp at h
      exact ⟨s, hs, n, hn, v, hv, h.1, h.2⟩
    · cases h
theorem keep_bool {L : List NodeC} {roots weak q : List IDE} (hq : ReachL L roots q) (x : IDE) : keepP L q weak x = (isStubN L x && (decide (x ∈ weak) || decide (x ∈ roots) || q.any (holdS L x))) := by
  rw [Bool.eq_iff_iff, keep_held hq, heldP_iff, Bool.and_eq_true]
def kn (b : Bool) : Nat := if b then 1 else 0
theorem clsL_one {L : List NodeC} {q weak : List IDE} {e : StubE} : (clsL L q weak [e]).length = kn (keepP L q weak (idS e)) := by
  unfold clsL cls1 kn
  rw [List.filterMap_cons]
  cases keepP L q weak (idS e) <;> simp
set_option maxRecDepth 100000 in
set_option maxHeartbeats 8000000 in
theorem lawHeld_any (A : Option Addr) (c : Nat) (l : List NodeE) (RA : Option Addr) (rc : Nat) (roots : List IDE) (WA : Option Addr) (wc : Nat) (weak : List IDE) (e : StubE) (w : World) (H : GraphIn w A c l) (hR : SlAt IDE.cells 2 w RA roots) (hWk : SlAt IDE.cells 2 w WA weak) :
    Calls Try.prog 8 #[.agg #[.slice A l.length c], .slice RA roots.length rc, .slice WA weak.length wc, e.v] w fun r w' => r = .returned (.bool true) ∧ Below w.heap.size w w' := by
  have HL := H.at_.later
  have HR : ∀ u [Later w u], SlAt IDE.cells 2 u RA roots := fun u i => hR.below i.below
  have HWk : ∀ u [Later w u], SlAt IDE.cells 2 u WA weak := fun u i => hWk.below i.below
  obtain ⟨x, hx⟩ : ∃ x : IDE, x = idS e := ⟨_, rfl⟩
  have hx1 : e.iDMachine = x.machine := by rw [hx]; rfl
  have hx2 : e.iDSerial = x.serial := by rw [hx]; rfl
  have Hx := hide hx
  clear hx
  obtain ⟨eo, en, em, es, ec, el, ed, et, ew, ex, elm, els⟩ := e
  dsimp only at hx1 hx2
  subst hx1 hx2
  go_enter Try.func8, Try.ntmps8
  go_upto_region 1 with fail
  refine wp_name ?_
  intro w0 hw0
  obtain ⟨B0, B1, l0⟩ := box2 hw0
  clear hw0
  go_upto_region 3 with (go_at_call 9; refine (awake_any _).mono ?_; rintro r w1 ⟨rfl, hb1⟩; have l1 := later hb1)
  obtain ⟨V, hV⟩ : ∃ V, V = (([⟨RA, roots.length, rc⟩, ⟨WA, weak.length, wc⟩] : List LenE).any (fun x => decide (30 < x.n)) || !decide (l.length + fieldsN (conL l) ≤ 200)) := ⟨_, rfl⟩
  have HG : ∀ u [Later w u], Calls Try.prog 10 #[.agg #[.slice A l.length c], .slice (some ⟨u.heap.size, 0, none⟩) 2 2] (u.alloc (.cells #[.slice RA roots.length rc, .slice WA weak.length wc] 25)) fun r w' => r = .returned (.bool V) ∧ Below (u.alloc (.cells #[.slice RA roots.length rc, .slice WA weak.length wc] 25)).heap.size (u.alloc (.cells #[.slice RA roots.length rc, .slice WA weak.length wc] 25)) w' := fun u i => by
    rw [hV]
    exact large_any A c l (some ⟨u.heap.size, 0, none⟩) 2 [⟨RA, roots.length, rc⟩, ⟨WA, weak.length, wc⟩] _ (HL _) (blk_slAt LenE.enc (fr := (0, 0)) (heap_alloc_new _ _) _ rfl) H.len H.fields (by simp)
  have HV := hide hV
  clear hV
  cases V
  rotate_left
  · go_wp2_with (go_at_call 10; refine (HG _).mono ?_; rintro r w2 ⟨rfl, hb2⟩; have l2 := later hb2)
    go_ret
    exact ⟨rfl, below_of⟩
  obtain ⟨h1, h2, h3⟩ := large2 HV.out
  obtain ⟨h4, h5⟩ := few_bounds h3
  have h5' : ∀ n ∈ l, n.fields.length ≤ 10000 := fun n hn => Nat.le_trans (h5 n hn) (by omega)
  have HVd : ∀ u [Later w u], Calls Try.prog 21 #[.agg #[.slice A l.length c]] u fun r w' => r = .returned (.bool (valid16B (conL l))) ∧ Below u.heap.size u w' := fun u i => valid16_any A c l u (HL u) (by omega) (fun n hn => Nat.le_trans (h5 n hn) (by omega))
  cases hvd : valid16B (conL l) <;> simp only [hvd] at HVd <;> clear hvd
  · go_wp2_with (first
      | (go_at_call 10; refine (HG _).mono ?_; rintro r w2 ⟨rfl, hb2⟩; have l2 := later hb2)
      | (go_at_call 21; refine (HVd _).mono ?_; rintro r w3 ⟨rfl, hb3⟩; have l3 := later hb3))
    go_ret
    exact ⟨rfl, below_of⟩
  obtain ⟨ok, hok⟩ : ∃ ok, ok = (firstE l x).isSome := ⟨_, rfl⟩
  obtain ⟨n, hn⟩ : ∃ n, n = (firstE l x).getD zeroN := ⟨_, rfl⟩
  have HF : ∀ u [Later w u], Calls Try.prog 19 #[.agg #[.slice A l.length c], .agg #[.int .i64 x.machine, .int .i64 x.serial]] u fun r w' => r = .returned (.tuple #[n.v, .bool ok]) ∧ Below u.heap.size u w' := fun u j => by rw [hn, hok]; exact find16_any A c l x u (HL u) (by omega)
  have hst := hide (show isStubN (conL l) x = (ok && n.kind == 3) by
    rw [hok, hn]; unfold isStubN; rw [firstE_N]
    cases firstE l x <;> simp [zeroN, NodeE.con])
  clear hok hn
  have HH1 : ∀ u [Later w u], Calls Try.prog 18 #[.slice WA weak.length wc, .agg #[.int .i64 x.machine, .int .i64 x.serial]] u fun r w' => r = .returned (.bool (decide (x ∈ weak))) ∧ Below u.heap.size u w' := fun u j => has21_any WA wc weak x u (HWk u) (by omega)
  have HH2 : ∀ u [Later w u], Calls Try.prog 18 #[.slice RA roots.length rc, .agg #[.int .i64 x.machine, .int .i64 x.serial]] u fun r w' => r = .returned (.bool (decide (x ∈ roots))) ∧ Below u.heap.size u w' := fun u j => has21_any RA rc roots x u (HR u) (by omega)
  have HS1 : ∀ u [Later w u], Calls Try.prog 16 #[.agg #[.slice A l.length c], .slice RA roots.length rc] u (ReachPost (conL l) roots u) := fun u i => strong_any A c l RA rc roots u (HL u) (HR u) (by omega) h5' (by omega)
  go_upto_region 5 with (first
      | (go_at_call 10; refine (HG _).mono ?_; rintro r w2 ⟨rfl, hb2⟩; have l2 := later hb2)
      | (go_at_call 21; refine (HVd _).mono ?_; rintro r w3 ⟨rfl, hb3⟩; have l3 := later hb3))
  go_upto_region 6 with (go_at_call 19; refine (HF _).mono ?_; rintro r w4 ⟨rfl, hb4⟩; have l4 := later hb4)
  refine wp_name ?_
  intro w5 hw5
  have bx5 : w5.heap[w4.heap.size]? = some (.cells #[.int .i64 n.iDMachine, .int .i64 n.iDSerial, .int .i64 n.kind, .int .i64 n.clas, .slice n.A n.fields.length n.c] 64 (0, 0)) := by rw [← hw5]; exact heap_alloc_new w4 _
  have hb5 : Below w4.heap.size w4 w5 := by rw [← hw5]; exact below_of
  clear hw5
  have B5 := boxed bx5
  have l5 := later hb5
  have l55 : Later w5 w5 := Later.refl
  go_upto_region 7 with (go_at_call 16; refine (HS1 _).mono ?_; rintro r w6 ⟨q, QA, Qc, hq, rfl, hoq, hb6⟩; have l6 := later hb6; have l66 : Later w6 w6 := Later.refl)
  have HQ : ∀ u [Later w6 u], SlAt IDE.cells 2 u QA q := fun u i => ((hoq.below i.below).at_ IDE.enc).2.2
  have hql : q.length ≤ 200 := by
    have e1 := reach_len (l := conL l) hq.1.nodup (fun x hx => firstN_ids.1 ((hq.2 x).1 hx).node)
    have e2 : (conL l).length = l.length := by unfold conL; rw [List.length_map]
    omega
  have hqs : ∀ s ∈ q, (firstN (conL l) s).isSome := fun s hs => ((hq.2 s).1 hs).node
  have Hqs := hide hqs
  have hkp := hide (show keepP (conL l) q weak x = _ from keep_bool hq x)
  have HC : ∀ u [Later w6 u], Calls Try.prog 12 #[.agg #[.slice A l.length c], .slice RA roots.length rc, .slice WA weak.length wc, .slice (some ⟨u.heap.size, 0, none⟩) 1 1] (u.alloc (.cells #[.int .i64 eo, .int .u64 en, .int .i64 x.machine, .int .i64 x.serial, .int .i64 ec, .int .i64 el, .int .i64 ed, .bool et, .bool ew, .bool ex, .int .i64 elm, .int .i64 els] 61)) fun r w' => ∃ OA Oc, r = .returned (.slice OA (kn (keepP (conL l) q weak x)) Oc) ∧ Below u.heap.size u w' := fun u i => by
    haveI := (l6 w).trans i
    refine (cls_any A c l RA rc roots WA wc weak (some ⟨u.heap.size, 0, none⟩) 1 [⟨eo, en, x.machine, x.serial, ec, el, ed, et, ew, ex, elm, els⟩] q hq _ (HL _) (HR _) (HWk _) (blk_slAt StubE.enc (fr := (0, 0)) (heap_alloc_new _ _) _ rfl) (by omega) h5' (by omega) (by omega) (by simp)).mono ?_
    rintro r w' ⟨o, OA, Oc, ho, rfl, -, hb⟩
    have ha : Below u.heap.size u (u.alloc (.cells #[.int .i64 eo, .int .u64 en, .int .i64 x.machine, .int .i64 x.serial, .int .i64 ec, .int .i64 el, .int .i64 ed, .bool et, .bool ew, .bool ex, .int .i64 elm, .int .i64 els] 61)) := by refine Below.alloc (Below.refl _ _) ?_ _; omega
    refine ⟨OA, Oc, ?_, ha.trans (hb.mono ha.size)⟩
    rw [ho.out, clsL_one]
    rfl
  have hmf : ∀ n ∈ l, n.fields.length ≤ 200 := h5
  by_cases hiw : x ∈ weak
  · simp only [hiw, decide_true] at HH1
    obtain ⟨h0, hh0⟩ : ∃ h0, h0 = true := ⟨_, rfl⟩
    have Hh0 := hide (show keepP (conL l) q weak x = ((ok && n.kind == 3) && (h0 || q.any (holdS (conL l) x))) by rw [hkp.out, hst.out, hh0]; simp [hiw])
    clear hiw hkp hq hoq HG HVd HS1 HF HV h3 h1 h2 h5' h5 hqs
    go_upto_region 8 with (go_at_call_has 18 (Value.slice WA weak.length wc); refine (HH1 _).mono ?_; rintro r w7 ⟨rfl, hb7⟩; have l7 := later hb7)
    rw [← hh0]
    clear hh0
    refine wp_name ?_
    intro wz hwz
    have hbz : Below w6.heap.size w6 wz := by rw [← hwz]; exact below_of
    clear hwz
    have lz := later hbz
    have lzz : Later wz wz := Later.refl
    clear HH1 HH2
    go_wp2_with fail
    go_loopw [12, 13] (fun hv iv wr => ∃ (k : Nat) (hA : Bool), k ≤ q.length ∧ hv = .bool hA ∧ iv = .int .i64 k ∧ Hid (hA = (h0 || (q.take k).any (holdS (conL l) x))) ∧ Below wz.heap.size wz wr) (fun _ iv _ => q.length - (intOf iv).toNat)
    case atStart => exact ⟨0, h0, by omega, rfl, rfl, hide (by simp), Below.refl _ _⟩
    case round =>
      obtain ⟨k, hA, hk, rfl, rfl, hhA, hbr⟩ := hrel
      have lr := later hbr
      have lrr : Later wr wr := Later.refl
      by_cases hlt : k < q.length
      · clear HC Hh0
        obtain ⟨b1, o1, s, rfl, hs, C1⟩ := IDE.get (HQ wr) hlt
        have hki : (k : Int) < (q.length : Int) := by omega
        have hsm := Hqs.out s (List.mem_of_getElem? hs)
        have Hks := hide (any_take_succ (p := holdS (conL l) x) hs)
        clear hs
        have HFs : ∀ u [Later w u], Calls Try.prog 19 #[.agg #[.slice A l.length c], s.v] u (Find16Post l s u) := fun u j => find16_any A c l s u (HL u) (by omega)
        unfold Find16Post at HFs
        cases hfs : firstE l s with
        | none => rw [firstE_N, hfs] at hsm; cases hsm
        | some m =>
          simp only [hfs, Option.getD_some, Option.isSome_some] at HFs
          obtain ⟨hml, hmid⟩ := firstE_some hfs
          have hmfm := hmf m hml
          have hFd : ∀ u [Later w u], SlAt ValE.cells 4 u m.A m.fields := fun u j => (HL u).f m hml
          have hfn := hide (show firstN (conL l) s = some m.con by rw [firstE_N, hfs]; rfl)
          clear hfs hmid hsm hml
          obtain ⟨m1, m2, mk, mc, mA, mp, mf⟩ := m
          dsimp only at HFs hmfm hFd
          go_upto_region 11 with fail
          go_region_held3 (fun w' => ∀ b [Later b wr], Later b w') ((intro b hb; first | infer_instance | (have hsz := hb.below.size; have h7 : Below b.heap.size b w7 := below_of; exact ⟨(by repeat (first | with_reducible exact h7 | with_reducible exact Below.refl _ _ | (with_reducible refine Below.drew ?_) | (with_reducible refine below_drewN ?_ _) | (with_reducible refine Below.alloc ?_ ?_ _; rotate_left; (first | omega | (simp <;> omega))) | (with_reducible refine Below.setCell ?_ ?_ _; rotate_left; (first | omega | (simp <;> omega)))))⟩))) ((go_at_call 19; refine (HFs _).mono ?_; rintro r w7 ⟨rfl, hb7⟩; have l7 := later hb7; try (have bx7 : w7.heap[wr.heap.size]? = some (.cells #[.int .i64 0, .int .i64 0, .int .i64 0, .int .i64 0, .slice none 0 0] 64 (0, 0)) := (hb7.block _ (by simp [heap_drew])).trans (heap_alloc_new wr _); have BX7 := boxed bx7)))
          all_goals go_upto_region 14 with fail
          all_goals refine wp_name ?_
          all_goals intro w8 hw8
          all_goals have h7 : Below wr.heap.size wr w7 := below_of
          · have bx : w8.heap[w7.heap.size]? = some (.cells #[.int .i64 m1, .int .i64 m2, .int .i64 mk, .int .i64 mc, .slice mA mf.length mp] 64 (0, 0)) := by rw [← hw8]; exact heap_alloc_new w7 _
            have hgz : wr.heap.size ≤ w7.heap.size := h7.size
            have hb8 : Below wr.heap.size wr w8 := by rw [← hw8]; exact (by repeat (first | with_reducible exact h7 | with_reducible exact Below.refl _ _ | (with_reducible refine Below.drew ?_) | (with_reducible refine below_drewN ?_ _) | (with_reducible refine Below.alloc ?_ ?_ _; rotate_left; (first | omega | (simp <;> omega))) | (with_reducible refine Below.setCell ?_ ?_ _; rotate_left; (first | omega | (simp <;> omega)))))
            clear hw8
            have BN := boxed bx
            have l8 := later hb8
            have l88 : Later w8 w8 := Later.refl
            go_wp2_with fail
            go_loopw [12, 16] (fun hv jv wr2 => ∃ (j : Nat) (hB : Bool), j ≤ mf.length ∧ hv = .bool hB ∧ jv = .int .i64 j ∧ Hid (hB = (hA || (mf.take j).any (holdV x))) ∧ Below w8.heap.size w8 wr2) (fun _ jv _ => mf.length - (intOf jv).toNat)
            case atStart => exact ⟨0, hA, by omega, rfl, rfl, hide (by simp), Below.refl _ _⟩
            case round =>
              obtain ⟨j, hB, hj, rfl, rfl, hhB, hbr8⟩ := hrel
              have lr8 := later hbr8
              by_cases hlt3 : j < mf.length
              · obtain ⟨b3, o3, v, rfl, hv, C3⟩ := ValE.get (hFd wr) hlt3
                have hnx := fun (u : World) => any_take_succ (p := holdV x) hv
                have Hnx := hide (hnx w)
                have hjj : (j : Int) < (mf.length : Int) := by omega
                clear hv hnx
                cases hB
                · by_cases hv2 : v.kind = 2
                  · cases hq : ideq v.refMachine v.refSerial x.machine x.serial
                    · have hp := hide (show holdV x v = false by
                        have := @ideq_iff v.ref x; unfold ValE.ref at this; rw [hq] at this
                        unfold holdV; simp only [hv2]; unfold ValE.ref; simp [← this])
                      go_upto_region 17 with fail
                      (refine wp_region_after (by kernel_rfl) (by kernel_rfl) ?_
                       repeat (any_goals (first | go_big_quiet_skip | (go_big_quiet_want; go_big_quiet_op; first | go_big_quiet_on | go_big_quiet_call (fail)) | quiet_step (fail) | (refine wpQuiet_step (fun K hK => ?_); go_simp; split <;> (refine hK _ ?_; clear hK K))))
                       all_goals (refine wpQuiet_nil ?_; intro _ hw'; obtain ⟨u', hw''⟩ := hw'; subst hw''; obtain ⟨wd, hbd⟩ := u'; simp only [After.val_mk]))
                      all_goals (try (exfalso; omega))
                      have ld := later hbd
                      go_wp2_with fail
                      go_roundw
                      case rel => exact ⟨j + 1, false, by omega, rfl, by go_num, hide (by rw [Hnx.out, hp.out, ← Bool.or_assoc, ← hhB.out]; rfl), below_of⟩
                      case measure => simp [intOf]; omega
                    · have hp := hide (show holdV x v = true by
                        have := @ideq_iff v.ref x; unfold ValE.ref at this; rw [hq] at this
                        unfold holdV; simp only [hv2]; unfold ValE.ref; simp [← this])
                      go_upto_region 17 with fail
                      (refine wp_region_after (by kernel_rfl) (by kernel_rfl) ?_
                       repeat (any_goals (first | go_big_quiet_skip | (go_big_quiet_want; go_big_quiet_op; first | go_big_quiet_on | go_big_quiet_call (fail)) | quiet_step (fail) | (refine wpQuiet_step (fun K hK => ?_); go_simp; split <;> (refine hK _ ?_; clear hK K))))
                       all_goals (refine wpQuiet_nil ?_; intro _ hw'; obtain ⟨u', hw''⟩ := hw'; subst hw''; obtain ⟨wd, hbd⟩ := u'; simp only [After.val_mk]))
                      all_goals (try (exfalso; omega))
                      have ld := later hbd
                      go_wp2_with fail
                      go_roundw
                      case rel => exact ⟨j + 1, true, by omega, rfl, by go_num, hide (by rw [Hnx.out, hp.out, ← Bool.or_assoc, ← hhB.out]; rfl), below_of⟩
                      case measure => simp [intOf]; omega
                  · have hp := hide (show holdV x v = false by unfold holdV; simp [hv2])
                    have hkb : (v.kind == 2) = false := by simp [hv2]
                    go_upto_region 17 with fail
                    (refine wp_region_after (by kernel_rfl) (by kernel_rfl) ?_
                     repeat (any_goals (first | go_big_quiet_skip | (go_big_quiet_want; go_big_quiet_op; first | go_big_quiet_on | go_big_quiet_call (fail)) | quiet_step (fail) | (refine wpQuiet_step (fun K hK => ?_); go_simp; split <;> (refine hK _ ?_; clear hK K))))
                     all_goals (refine wpQuiet_nil ?_; intro _ hw'; obtain ⟨u', hw''⟩ := hw'; subst hw''; obtain ⟨wd, hbd⟩ := u'; simp only [After.val_mk]))
                    all_goals (try (exfalso; omega))
                    have ld := later hbd
                    go_wp2_with fail
                    go_roundw
                    case rel => exact ⟨j + 1, false, by omega, rfl, by go_num, hide (by rw [Hnx.out, hp.out, ← Bool.or_assoc, ← hhB.out]; rfl), below_of⟩
                    case measure => simp [intOf]; omega
                · go_upto_region 17 with fail
                  (refine wp_region_after (by kernel_rfl) (by kernel_rfl) ?_
                   repeat (any_goals (first | go_big_quiet_skip | (go_big_quiet_want; go_big_quiet_op; first | go_big_quiet_on | go_big_quiet_call (fail)) | quiet_step (fail) | (refine wpQuiet_step (fun K hK => ?_); go_simp; split <;> (refine hK _ ?_; clear hK K))))
                   all_goals (refine wpQuiet_nil ?_; intro _ hw'; obtain ⟨u', hw''⟩ := hw'; subst hw''; obtain ⟨wd, hbd⟩ := u'; simp only [After.val_mk]))
                  all_goals (try (exfalso; omega))
                  have ld := later hbd
                  go_wp2_with fail
                  go_roundw
                  case rel => exact ⟨j + 1, true, by omega, rfl, by go_num, hide (by rw [Hnx.out, ← Bool.or_assoc, ← hhB.out]; rfl), below_of⟩
                  case measure => simp [intOf]; omega
              · have hje : j = mf.length := by omega
                subst hje
                have hh2 := hide (show hB = (h0 || (q.take (k + 1)).any (holdS (conL l) x)) by
                  rw [hhB.out, hhA.out, Hks.out, Bool.or_assoc]
                  have : holdS (conL l) x s = mf.any (holdV x) := by unfold holdS; rw [hfn.out]; rfl
                  rw [this, List.take_length])
                go_wp2_with fail
                go_roundw
                case rel => exact ⟨k + 1, hB, by omega, rfl, by go_num, hh2, below_of⟩
                case measure => simp [intOf]; omega
          · have bx : w8.heap[wr.heap.size]? = some (.cells #[.int .i64 m1, .int .i64 m2, .int .i64 mk, .int .i64 mc, .slice mA mf.length mp] 64 (0, 0)) := by rw [← hw8]; exact (blk_set (blk_set (blk_set (blk_set (blk_set (BX7 w7).1 0 _) 1 _) 2 _) 3 _) 4 _).trans rfl
            have hgz : wr.heap.size ≤ wr.heap.size := Nat.le_refl _
            have hb8 : Below wr.heap.size wr w8 := by rw [← hw8]; exact (by repeat (first | with_reducible exact h7 | with_reducible exact Below.refl _ _ | (with_reducible refine Below.drew ?_) | (with_reducible refine below_drewN ?_ _) | (with_reducible refine Below.alloc ?_ ?_ _; rotate_left; (first | omega | (simp <;> omega))) | (with_reducible refine Below.setCell ?_ ?_ _; rotate_left; (first | omega | (simp <;> omega)))))
            clear hw8
            have BN := boxed bx
            have l8 := later hb8
            have l88 : Later w8 w8 := Later.refl
            go_wp2_with fail
            go_loopw [12, 16] (fun hv jv wr2 => ∃ (j : Nat) (hB : Bool), j ≤ mf.length ∧ hv = .bool hB ∧ jv = .int .i64 j ∧ Hid (hB = (hA || (mf.take j).any (holdV x))) ∧ Below w8.heap.size w8 wr2) (fun _ jv _ => mf.length - (intOf jv).toNat)
            case atStart => exact ⟨0, hA, by omega, rfl, rfl, hide (by simp), Below.refl _ _⟩
            case round =>
              obtain ⟨j, hB, hj, rfl, rfl, hhB, hbr8⟩ := hrel
              have lr8 := later hbr8
              by_cases hlt3 : j < mf.length
              · obtain ⟨b3, o3, v, rfl, hv, C3⟩ := ValE.get (hFd wr) hlt3
                have hnx := fun (u : World) => any_take_succ (p := holdV x) hv
                have Hnx := hide (hnx w)
                have hjj : (j : Int) < (mf.length : Int) := by omega
                clear hv hnx
                cases hB
                · by_cases hv2 : v.kind = 2
                  · cases hq : ideq v.refMachine v.refSerial x.machine x.serial
                    · have hp := hide (show holdV x v = false by
                        have := @ideq_iff v.ref x; unfold ValE.ref at this; rw [hq] at this
                        unfold holdV; simp only [hv2]; unfold ValE.ref; simp [← this])
                      go_upto_region 17 with fail
                      (refine wp_region_after (by kernel_rfl) (by kernel_rfl) ?_
                       repeat (any_goals (first | go_big_quiet_skip | (go_big_quiet_want; go_big_quiet_op; first | go_big_quiet_on | go_big_quiet_call (fail)) | quiet_step (fail) | (refine wpQuiet_step (fun K hK => ?_); go_simp; split <;> (refine hK _ ?_; clear hK K))))
                       all_goals (refine wpQuiet_nil ?_; intro _ hw'; obtain ⟨u', hw''⟩ := hw'; subst hw''; obtain ⟨wd, hbd⟩ := u'; simp only [After.val_mk]))
                      all_goals (try (exfalso; omega))
                      have ld := later hbd
                      go_wp2_with fail
                      go_roundw
                      case rel => exact ⟨j + 1, false, by omega, rfl, by go_num, hide (by rw [Hnx.out, hp.out, ← Bool.or_assoc, ← hhB.out]; rfl), below_of⟩
                      case measure => simp [intOf]; omega
                    · have hp := hide (show holdV x v = true by
                        have := @ideq_iff v.ref x; unfold ValE.ref at this; rw [hq] at this
                        unfold holdV; simp only [hv2]; unfold ValE.ref; simp [← this])
                      go_upto_region 17 with fail
                      (refine wp_region_after (by kernel_rfl) (by kernel_rfl) ?_
                       repeat (any_goals (first | go_big_quiet_skip | (go_big_quiet_want; go_big_quiet_op; first | go_big_quiet_on | go_big_quiet_call (fail)) | quiet_step (fail) | (refine wpQuiet_step (fun K hK => ?_); go_simp; split <;> (refine hK _ ?_; clear hK K))))
                       all_goals (refine wpQuiet_nil ?_; intro _ hw'; obtain ⟨u', hw''⟩ := hw'; subst hw''; obtain ⟨wd, hbd⟩ := u'; simp only [After.val_mk]))
                      all_goals (try (exfalso; omega))
                      have ld := later hbd
                      go_wp2_with fail
                      go_roundw
                      case rel => exact ⟨j + 1, true, by omega, rfl, by go_num, hide (by rw [Hnx.out, hp.out, ← Bool.or_assoc, ← hhB.out]; rfl), below_of⟩
                      case measure => simp [intOf]; omega
                  · have hp := hide (show holdV x v = false by unfold holdV; simp [hv2])
                    have hkb : (v.kind == 2) = false := by simp [hv2]
                    go_upto_region 17 with fail
                    (refine wp_region_after (by kernel_rfl) (by kernel_rfl) ?_
                     repeat (any_goals (first | go_big_quiet_skip | (go_big_quiet_want; go_big_quiet_op; first | go_big_quiet_on | go_big_quiet_call (fail)) | quiet_step (fail) | (refine wpQuiet_step (fun K hK => ?_); go_simp; split <;> (refine hK _ ?_; clear hK K))))
                     all_goals (refine wpQuiet_nil ?_; intro _ hw'; obtain ⟨u', hw''⟩ := hw'; subst hw''; obtain ⟨wd, hbd⟩ := u'; simp only [After.val_mk]))
                    all_goals (try (exfalso; omega))
                    have ld := later hbd
                    go_wp2_with fail
                    go_roundw
                    case rel => exact ⟨j + 1, false, by omega, rfl, by go_num, hide (by rw [Hnx.out, hp.out, ← Bool.or_assoc, ← hhB.out]; rfl), below_of⟩
                    case measure => simp [intOf]; omega
                · go_upto_region 17 with fail
                  (refine wp_region_after (by kernel_rfl) (by kernel_rfl) ?_
                   repeat (any_goals (first | go_big_quiet_skip | (go_big_quiet_want; go_big_quiet_op; first | go_big_quiet_on | go_big_quiet_call (fail)) | quiet_step (fail) | (refine wpQuiet_step (fun K hK => ?_); go_simp; split <;> (refine hK _ ?_; clear hK K))))
                   all_goals (refine wpQuiet_nil ?_; intro _ hw'; obtain ⟨u', hw''⟩ := hw'; subst hw''; obtain ⟨wd, hbd⟩ := u'; simp only [After.val_mk]))
                  all_goals (try (exfalso; omega))
                  have ld := later hbd
                  go_wp2_with fail
                  go_roundw
                  case rel => exact ⟨j + 1, true, by omega, rfl, by go_num, hide (by rw [Hnx.out, ← Bool.or_assoc, ← hhB.out]; rfl), below_of⟩
                  case measure => simp [intOf]; omega
              · have hje : j = mf.length := by omega
                subst hje
                have hh2 := hide (show hB = (h0 || (q.take (k + 1)).any (holdS (conL l) x)) by
                  rw [hhB.out, hhA.out, Hks.out, Bool.or_assoc]
                  have : holdS (conL l) x s = mf.any (holdV x) := by unfold holdS; rw [hfn.out]; rfl
                  rw [this, List.take_length])
                go_wp2_with fail
                go_roundw
                case rel => exact ⟨k + 1, hB, by omega, rfl, by go_num, hh2, below_of⟩
                case measure => simp [intOf]; omega
      · have hk' : k = q.length := by omega
        subst hk'
        have hfin := hide (show keepP (conL l) q weak x = ((ok && n.kind == 3) && hA) by rw [Hh0.out, hhA.out, List.take_length])
        clear hhA Hh0
        cases ok
        · have hk3 : True := trivial
          obtain ⟨kk, hkk⟩ : ∃ kk, kk = kn (keepP (conL l) q weak x) := ⟨_, rfl⟩
          rw [← hkk] at HC
          obtain rfl : kk = 0 := by rw [hkk, hfin.out]; first | rfl | (unfold kn; simp [hk3])
          clear hkk
          go_wp2_with (go_at_call 12; refine (HC _).mono ?_; rintro r w9 ⟨OA, Oc, rfl, hb9⟩; have l9 := later hb9)
          go_ret
          exact ⟨rfl, below_of⟩
        · by_cases hk3 : n.kind = 3
          · cases hA
            · obtain ⟨kk, hkk⟩ : ∃ kk, kk = kn (keepP (conL l) q weak x) := ⟨_, rfl⟩
              rw [← hkk] at HC
              obtain rfl : kk = 0 := by rw [hkk, hfin.out]; first | rfl | (unfold kn; simp [hk3])
              clear hkk
              go_wp2_with (go_at_call 12; refine (HC _).mono ?_; rintro r w9 ⟨OA, Oc, rfl, hb9⟩; have l9 := later hb9)
              go_ret
              exact ⟨rfl, below_of⟩
            · obtain ⟨kk, hkk⟩ : ∃ kk, kk = kn (keepP (conL l) q weak x) := ⟨_, rfl⟩
              rw [← hkk] at HC
              obtain rfl : kk = 1 := by rw [hkk, hfin.out]; first | rfl | (unfold kn; simp [hk3])
              clear hkk
              go_wp2_with (go_at_call 12; refine (HC _).mono ?_; rintro r w9 ⟨OA, Oc, rfl, hb9⟩; have l9 := later hb9)
              go_ret
              exact ⟨rfl, below_of⟩
          · have hkb : (n.kind == 3) = false := by simp [hk3]
            obtain ⟨kk, hkk⟩ : ∃ kk, kk = kn (keepP (conL l) q weak x) := ⟨_, rfl⟩
            rw [← hkk] at HC
            obtain rfl : kk = 0 := by rw [hkk, hfin.out]; first | rfl | (unfold kn; simp [hk3])
            clear hkk
            go_wp2_with (go_at_call 12; refine (HC _).mono ?_; rintro r w9 ⟨OA, Oc, rfl, hb9⟩; have l9 := later hb9)
            go_ret
            exact ⟨rfl, below_of⟩
  · simp only [hiw, decide_false] at HH1
    obtain ⟨h0, hh0⟩ : ∃ h0, h0 = decide (x ∈ roots) := ⟨_, rfl⟩
    rw [← hh0] at HH2
    have Hh0 := hide (show keepP (conL l) q weak x = ((ok && n.kind == 3) && (h0 || q.any (holdS (conL l) x))) by rw [hkp.out, hst.out, hh0]; simp [hiw])
    clear hiw hh0 hkp hq hoq HG HVd HS1 HF HV h3 h1 h2 h5' h5 hqs
    go_upto_region 8 with (first
      | (go_at_call_has 18 (Value.slice WA weak.length wc); refine (HH1 _).mono ?_; rintro r w7 ⟨rfl, hb7⟩; have l7 := later hb7)
      | (go_at_call_has 18 (Value.slice RA roots.length rc); refine (HH2 _).mono ?_; rintro r w8 ⟨rfl, hb8⟩; have l8 := later hb8))
    refine wp_name ?_
    intro wz hwz
    have hbz : Below w6.heap.size w6 wz := by rw [← hwz]; exact below_of
    clear hwz
    have lz := later hbz
    have lzz : Later wz wz := Later.refl
    clear HH1 HH2
    go_wp2_with fail
    go_loopw [12, 13] (fun hv iv wr => ∃ (k : Nat) (hA : Bool), k ≤ q.length ∧ hv = .bool hA ∧ iv = .int .i64 k ∧ Hid (hA = (h0 || (q.take k).any (holdS (conL l) x))) ∧ Below wz.heap.size wz wr) (fun _ iv _ => q.length - (intOf iv).toNat)
    case atStart => exact ⟨0, h0, by omega, rfl, rfl, hide (by simp), Below.refl _ _⟩
    case round =>
      obtain ⟨k, hA, hk, rfl, rfl, hhA, hbr⟩ := hrel
      have lr := later hbr
      have lrr : Later wr wr := Later.refl
      by_cases hlt : k < q.length
      · clear HC Hh0
        obtain ⟨b1, o1, s, rfl, hs, C1⟩ := IDE.get (HQ wr) hlt
        have hki : (k : Int) < (q.length : Int) := by omega
        have hsm := Hqs.out s (List.mem_of_getElem? hs)
        have Hks := hide (any_take_succ (p := holdS (conL l) x) hs)
        clear hs
        have HFs : ∀ u [Later w u], Calls Try.prog 19 #[.agg #[.slice A l.length c], s.v] u (Find16Post l s u) := fun u j => find16_any A c l s u (HL u) (by omega)
        unfold Find16Post at HFs
        cases hfs : firstE l s with
        | none => rw [firstE_N, hfs] at hsm; cases hsm
        | some m =>
          simp only [hfs, Option.getD_some, Option.isSome_some] at HFs
          obtain ⟨hml, hmid⟩ := firstE_some hfs
          have hmfm := hmf m hml
          have hFd : ∀ u [Later w u], SlAt ValE.cells 4 u m.A m.fields := fun u j => (HL u).f m hml
          have hfn := hide (show firstN (conL l) s = some m.con by rw [firstE_N, hfs]; rfl)
          clear hfs hmid hsm hml
          obtain ⟨m1, m2, mk, mc, mA, mp, mf⟩ := m
          dsimp only at HFs hmfm hFd
          go_upto_region 11 with fail
          go_region_held3 (fun w' => ∀ b [Later b wr], Later b w') ((intro b hb; first | infer_instance | (have hsz := hb.below.size; have h7 : Below b.heap.size b w7 := below_of; exact ⟨(by repeat (first | with_reducible exact h7 | with_reducible exact Below.refl _ _ | (with_reducible refine Below.drew ?_) | (with_reducible refine below_drewN ?_ _) | (with_reducible refine Below.alloc ?_ ?_ _; rotate_left; (first | omega | (simp <;> omega))) | (with_reducible refine Below.setCell ?_ ?_ _; rotate_left; (first | omega | (simp <;> omega)))))⟩))) ((go_at_call 19; refine (HFs _).mono ?_; rintro r w7 ⟨rfl, hb7⟩; have l7 := later hb7; try (have bx7 : w7.heap[wr.heap.size]? = some (.cells #[.int .i64 0, .int .i64 0, .int .i64 0, .int .i64 0, .slice none 0 0] 64 (0, 0)) := (hb7.block _ (by simp [heap_drew])).trans (heap_alloc_new wr _); have BX7 := boxed bx7)))
          all_goals go_upto_region 14 with fail
          all_goals refine wp_name ?_
          all_goals intro w8 hw8
          all_goals have h7 : Below wr.heap.size wr w7 := below_of
          · have bx : w8.heap[w7.heap.size]? = some (.cells #[.int .i64 m1, .int .i64 m2, .int .i64 mk, .int .i64 mc, .slice mA mf.length mp] 64 (0, 0)) := by rw [← hw8]; exact heap_alloc_new w7 _
            have hgz : wr.heap.size ≤ w7.heap.size := h7.size
            have hb8 : Below wr.heap.size wr w8 := by rw [← hw8]; exact (by repeat (first | with_reducible exact h7 | with_reducible exact Below.refl _ _ | (with_reducible refine Below.drew ?_) | (with_reducible refine below_drewN ?_ _) | (with_reducible refine Below.alloc ?_ ?_ _; rotate_left; (first | omega | (simp <;> omega))) | (with_reducible refine Below.setCell ?_ ?_ _; rotate_left; (first | omega | (simp <;> omega)))))
            clear hw8
            have BN := boxed bx
            have l8 := later hb8
            have l88 : Later w8 w8 := Later.refl
            go_wp2_with fail
            go_loopw [12, 16] (fun hv jv wr2 => ∃ (j : Nat) (hB : Bool), j ≤ mf.length ∧ hv = .bool hB ∧ jv = .int .i64 j ∧ Hid (hB = (hA || (mf.take j).any (holdV x))) ∧ Below w8.heap.size w8 wr2) (fun _ jv _ => mf.length - (intOf jv).toNat)
            case atStart => exact ⟨0, hA, by omega, rfl, rfl, hide (by simp), Below.refl _ _⟩
            case round =>
              obtain ⟨j, hB, hj, rfl, rfl, hhB, hbr8⟩ := hrel
              have lr8 := later hbr8
              by_cases hlt3 : j < mf.length
              · obtain ⟨b3, o3, v, rfl, hv, C3⟩ := ValE.get (hFd wr) hlt3
                have hnx := fun (u : World) => any_take_succ (p := holdV x) hv
                have Hnx := hide (hnx w)
                have hjj : (j : Int) < (mf.length : Int) := by omega
                clear hv hnx
                cases hB
                · by_cases hv2 : v.kind = 2
                  · cases hq : ideq v.refMachine v.refSerial x.machine x.serial
                    · have hp := hide (show holdV x v = false by
                        have := @ideq_iff v.ref x; unfold ValE.ref at this; rw [hq] at this
                        unfold holdV; simp only [hv2]; unfold ValE.ref; simp [← this])
                      go_upto_region 17 with fail
                      (refine wp_region_after (by kernel_rfl) (by kernel_rfl) ?_
                       repeat (any_goals (first | go_big_quiet_skip | (go_big_quiet_want; go_big_quiet_op; first | go_big_quiet_on | go_big_quiet_call (fail)) | quiet_step (fail) | (refine wpQuiet_step (fun K hK => ?_); go_simp; split <;> (refine hK _ ?_; clear hK K))))
                       all_goals (refine wpQuiet_nil ?_; intro _ hw'; obtain ⟨u', hw''⟩ := hw'; subst hw''; obtain ⟨wd, hbd⟩ := u'; simp only [After.val_mk]))
                      all_goals (try (exfalso; omega))
                      have ld := later hbd
                      go_wp2_with fail
                      go_roundw
                      case rel => exact ⟨j + 1, false, by omega, rfl, by go_num, hide (by rw [Hnx.out, hp.out, ← Bool.or_assoc, ← hhB.out]; rfl), below_of⟩
                      case measure => simp [intOf]; omega
                    · have hp := hide (show holdV x v = true by
                        have := @ideq_iff v.ref x; unfold ValE.ref at this; rw [hq] at this
                        unfold holdV; simp only [hv2]; unfold ValE.ref; simp [← this])
                      go_upto_region 17 with fail
                      (refine wp_region_after (by kernel_rfl) (by kernel_rfl) ?_
                       repeat (any_goals (first | go_big_quiet_skip | (go_big_quiet_want; go_big_quiet_op; first | go_big_quiet_on | go_big_quiet_call (fail)) | quiet_step (fail) | (refine wpQuiet_step (fun K hK => ?_); go_simp; split <;> (refine hK _ ?_; clear hK K))))
                       all_goals (refine wpQuiet_nil ?_; intro _ hw'; obtain ⟨u', hw''⟩ := hw'; subst hw''; obtain ⟨wd, hbd⟩ := u'; simp only [After.val_mk]))
                      all_goals (try (exfalso; omega))
                      have ld := later hbd
                      go_wp2_with fail
                      go_roundw
                      case rel => exact ⟨j + 1, true, by omega, rfl, by go_num, hide (by rw [Hnx.out, hp.out, ← Bool.or_assoc, ← hhB.out]; rfl), below_of⟩
                      case measure => simp [intOf]; omega
                  · have hp := hide (show holdV x v = false by unfold holdV; simp [hv2])
                    have hkb : (v.kind == 2) = false := by simp [hv2]
                    go_upto_region 17 with fail
                    (refine wp_region_after (by kernel_rfl) (by kernel_rfl) ?_
                     repeat (any_goals (first | go_big_quiet_skip | (go_big_quiet_want; go_big_quiet_op; first | go_big_quiet_on | go_big_quiet_call (fail)) | quiet_step (fail) | (refine wpQuiet_step (fun K hK => ?_); go_simp; split <;> (refine hK _ ?_; clear hK K))))
                     all_goals (refine wpQuiet_nil ?_; intro _ hw'; obtain ⟨u', hw''⟩ := hw'; subst hw''; obtain ⟨wd, hbd⟩ := u'; simp only [After.val_mk]))
                    all_goals (try (exfalso; omega))
                    have ld := later hbd
                    go_wp2_with fail
                    go_roundw
                    case rel => exact ⟨j + 1, false, by omega, rfl, by go_num, hide (by rw [Hnx.out, hp.out, ← Bool.or_assoc, ← hhB.out]; rfl), below_of⟩
                    case measure => simp [intOf]; omega
                · go_upto_region 17 with fail
                  (refine wp_region_after (by kernel_rfl) (by kernel_rfl) ?_
                   repeat (any_goals (first | go_big_quiet_skip | (go_big_quiet_want; go_big_quiet_op; first | go_big_quiet_on | go_big_quiet_call (fail)) | quiet_step (fail) | (refine wpQuiet_step (fun K hK => ?_); go_simp; split <;> (refine hK _ ?_; clear hK K))))
                   all_goals (refine wpQuiet_nil ?_; intro _ hw'; obtain ⟨u', hw''⟩ := hw'; subst hw''; obtain ⟨wd, hbd⟩ := u'; simp only [After.val_mk]))
                  all_goals (try (exfalso; omega))
                  have ld := later hbd
                  go_wp2_with fail
                  go_roundw
                  case rel => exact ⟨j + 1, true, by omega, rfl, by go_num, hide (by rw [Hnx.out, ← Bool.or_assoc, ← hhB.out]; rfl), below_of⟩
                  case measure => simp [intOf]; omega
              · have hje : j = mf.length := by omega
                subst hje
                have hh2 := hide (show hB = (h0 || (q.take (k + 1)).any (holdS (conL l) x)) by
                  rw [hhB.out, hhA.out, Hks.out, Bool.or_assoc]
                  have : holdS (conL l) x s = mf.any (holdV x) := by unfold holdS; rw [hfn.out]; rfl
                  rw [this, List.take_length])
                go_wp2_with fail
                go_roundw
                case rel => exact ⟨k + 1, hB, by omega, rfl, by go_num, hh2, below_of⟩
                case measure => simp [intOf]; omega
          · have bx : w8.heap[wr.heap.size]? = some (.cells #[.int .i64 m1, .int .i64 m2, .int .i64 mk, .int .i64 mc, .slice mA mf.length mp] 64 (0, 0)) := by rw [← hw8]; exact (blk_set (blk_set (blk_set (blk_set (blk_set (BX7 w7).1 0 _) 1 _) 2 _) 3 _) 4 _).trans rfl
            have hgz : wr.heap.size ≤ wr.heap.size := Nat.le_refl _
            have hb8 : Below wr.heap.size wr w8 := by rw [← hw8]; exact (by repeat (first | with_reducible exact h7 | with_reducible exact Below.refl _ _ | (with_reducible refine Below.drew ?_) | (with_reducible refine below_drewN ?_ _) | (with_reducible refine Below.alloc ?_ ?_ _; rotate_left; (first | omega | (simp <;> omega))) | (with_reducible refine Below.setCell ?_ ?_ _; rotate_left; (first | omega | (simp <;> omega)))))
            clear hw8
            have BN := boxed bx
            have l8 := later hb8
            have l88 : Later w8 w8 := Later.refl
            go_wp2_with fail
            go_loopw [12, 16] (fun hv jv wr2 => ∃ (j : Nat) (hB : Bool), j ≤ mf.length ∧ hv = .bool hB ∧ jv = .int .i64 j ∧ Hid (hB = (hA || (mf.take j).any (holdV x))) ∧ Below w8.heap.size w8 wr2) (fun _ jv _ => mf.length - (intOf jv).toNat)
            case atStart => exact ⟨0, hA, by omega, rfl, rfl, hide (by simp), Below.refl _ _⟩
            case round =>
              obtain ⟨j, hB, hj, rfl, rfl, hhB, hbr8⟩ := hrel
              have lr8 := later hbr8
              by_cases hlt3 : j < mf.length
              · obtain ⟨b3, o3, v, rfl, hv, C3⟩ := ValE.get (hFd wr) hlt3
                have hnx := fun (u : World) => any_take_succ (p := holdV x) hv
                have Hnx := hide (hnx w)
                have hjj : (j : Int) < (mf.length : Int) := by omega
                clear hv hnx
                cases hB
                · by_cases hv2 : v.kind = 2
                  · cases hq : ideq v.refMachine v.refSerial x.machine x.serial
                    · have hp := hide (show holdV x v = false by
                        have := @ideq_iff v.ref x; unfold ValE.ref at this; rw [hq] at this
                        unfold holdV; simp only [hv2]; unfold ValE.ref; simp [← this])
                      go_upto_region 17 with fail
                      (refine wp_region_after (by kernel_rfl) (by kernel_rfl) ?_
                       repeat (any_goals (first | go_big_quiet_skip | (go_big_quiet_want; go_big_quiet_op; first | go_big_quiet_on | go_big_quiet_call (fail)) | quiet_step (fail) | (refine wpQuiet_step (fun K hK => ?_); go_simp; split <;> (refine hK _ ?_; clear hK K))))
                       all_goals (refine wpQuiet_nil ?_; intro _ hw'; obtain ⟨u', hw''⟩ := hw'; subst hw''; obtain ⟨wd, hbd⟩ := u'; simp only [After.val_mk]))
                      all_goals (try (exfalso; omega))
                      have ld := later hbd
                      go_wp2_with fail
                      go_roundw
                      case rel => exact ⟨j + 1, false, by omega, rfl, by go_num, hide (by rw [Hnx.out, hp.out, ← Bool.or_assoc, ← hhB.out]; rfl), below_of⟩
                      case measure => simp [intOf]; omega
                    · have hp := hide (show holdV x v = true by
                        have := @ideq_iff v.ref x; unfold ValE.ref at this; rw [hq] at this
                        unfold holdV; simp only [hv2]; unfold ValE.ref; simp [← this])
                      go_upto_region 17 with fail
                      (refine wp_region_after (by kernel_rfl) (by kernel_rfl) ?_
                       repeat (any_goals (first | go_big_quiet_skip | (go_big_quiet_want; go_big_quiet_op; first | go_big_quiet_on | go_big_quiet_call (fail)) | quiet_step (fail) | (refine wpQuiet_step (fun K hK => ?_); go_simp; split <;> (refine hK _ ?_; clear hK K))))
                       all_goals (refine wpQuiet_nil ?_; intro _ hw'; obtain ⟨u', hw''⟩ := hw'; subst hw''; obtain ⟨wd, hbd⟩ := u'; simp only [After.val_mk]))
                      all_goals (try (exfalso; omega))
                      have ld := later hbd
                      go_wp2_with fail
                      go_roundw
                      case rel => exact ⟨j + 1, true, by omega, rfl, by go_num, hide (by rw [Hnx.out, hp.out, ← Bool.or_assoc, ← hhB.out]; rfl), below_of⟩
                      case measure => simp [intOf]; omega
                  · have hp := hide (show holdV x v = false by unfold holdV; simp [hv2])
                    have hkb : (v.kind == 2) = false := by simp [hv2]
                    go_upto_region 17 with fail
                    (refine wp_region_after (by kernel_rfl) (by kernel_rfl) ?_
                     repeat (any_goals (first | go_big_quiet_skip | (go_big_quiet_want; go_big_quiet_op; first | go_big_quiet_on | go_big_quiet_call (fail)) | quiet_step (fail) | (refine wpQuiet_step (fun K hK => ?_); go_simp; split <;> (refine hK _ ?_; clear hK K))))
                     all_goals (refine wpQuiet_nil ?_; intro _ hw'; obtain ⟨u', hw''⟩ := hw'; subst hw''; obtain ⟨wd, hbd⟩ := u'; simp only [After.val_mk]))
                    all_goals (try (exfalso; omega))
                    have ld := later hbd
                    go_wp2_with fail
                    go_roundw
                    case rel => exact ⟨j + 1, false, by omega, rfl, by go_num, hide (by rw [Hnx.out, hp.out, ← Bool.or_assoc, ← hhB.out]; rfl), below_of⟩
                    case measure => simp [intOf]; omega
                · go_upto_region 17 with fail
                  (refine wp_region_after (by kernel_rfl) (by kernel_rfl) ?_
                   repeat (any_goals (first | go_big_quiet_skip | (go_big_quiet_want; go_big_quiet_op; first | go_big_quiet_on | go_big_quiet_call (fail)) | quiet_step (fail) | (refine wpQuiet_step (fun K hK => ?_); go_simp; split <;> (refine hK _ ?_; clear hK K))))
                   all_goals (refine wpQuiet_nil ?_; intro _ hw'; obtain ⟨u', hw''⟩ := hw'; subst hw''; obtain ⟨wd, hbd⟩ := u'; simp only [After.val_mk]))
                  all_goals (try (exfalso; omega))
                  have ld := later hbd
                  go_wp2_with fail
                  go_roundw
                  case rel => exact ⟨j + 1, true, by omega, rfl, by go_num, hide (by rw [Hnx.out, ← Bool.or_assoc, ← hhB.out]; rfl), below_of⟩
                  case measure => simp [intOf]; omega
              · have hje : j = mf.length := by omega
                subst hje
                have hh2 := hide (show hB = (h0 || (q.take (k + 1)).any (holdS (conL l) x)) by
                  rw [hhB.out, hhA.out, Hks.out, Bool.or_assoc]
                  have : holdS (conL l) x s = mf.any (holdV x) := by unfold holdS; rw [hfn.out]; rfl
                  rw [this, List.take_length])
                go_wp2_with fail
                go_roundw
                case rel => exact ⟨k + 1, hB, by omega, rfl, by go_num, hh2, below_of⟩
                case measure => simp [intOf]; omega
      · have hk' : k = q.length := by omega
        subst hk'
        have hfin := hide (show keepP (conL l) q weak x = ((ok && n.kind == 3) && hA) by rw [Hh0.out, hhA.out, List.take_length])
        clear hhA Hh0
        cases ok
        · have hk3 : True := trivial
          obtain ⟨kk, hkk⟩ : ∃ kk, kk = kn (keepP (conL l) q weak x) := ⟨_, rfl⟩
          rw [← hkk] at HC
          obtain rfl : kk = 0 := by rw [hkk, hfin.out]; first | rfl | (unfold kn; simp [hk3])
          clear hkk
          go_wp2_with (go_at_call 12; refine (HC _).mono ?_; rintro r w9 ⟨OA, Oc, rfl, hb9⟩; have l9 := later hb9)
          go_ret
          exact ⟨rfl, below_of⟩
        · by_cases hk3 : n.kind = 3
          · cases hA
            · obtain ⟨kk, hkk⟩ : ∃ kk, kk = kn (keepP (conL l) q weak x) := ⟨_, rfl⟩
              rw [← hkk] at HC
              obtain rfl : kk = 0 := by rw [hkk, hfin.out]; first | rfl | (unfold kn; simp [hk3])
              clear hkk
              go_wp2_with (go_at_call 12; refine (HC _).mono ?_; rintro r w9 ⟨OA, Oc, rfl, hb9⟩; have l9 := later hb9)
              go_ret
              exact ⟨rfl, below_of⟩
            · obtain ⟨kk, hkk⟩ : ∃ kk, kk = kn (keepP (conL l) q weak x) := ⟨_, rfl⟩
              rw [← hkk] at HC
              obtain rfl : kk = 1 := by rw [hkk, hfin.out]; first | rfl | (unfold kn; simp [hk3])
              clear hkk
              go_wp2_with (go_at_call 12; refine (HC _).mono ?_; rintro r w9 ⟨OA, Oc, rfl, hb9⟩; have l9 := later hb9)
              go_ret
              exact ⟨rfl, below_of⟩
          · have hkb : (n.kind == 3) = false := by simp [hk3]
            obtain ⟨kk, hkk⟩ : ∃ kk, kk = kn (keepP (conL l) q weak x) := ⟨_, rfl⟩
            rw [← hkk] at HC
            obtain rfl : kk = 0 := by rw [hkk, hfin.out]; first | rfl | (unfold kn; simp [hk3])
            clear hkk
            go_wp2_with (go_at_call 12; refine (HC _).mono ?_; rintro r w9 ⟨OA, Oc, rfl, hb9⟩; have l9 := later hb9)
            go_ret
            exact ⟨rfl, below_of⟩
end Go.Proofs.Ytnfpbkimdhhmfaa
