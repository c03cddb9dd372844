/-
  Contracts of the functions of this seat that each theorem names: what a call returns, and that it writes nothing that was there before. The conditions stand in each theorem.
-/
import Derived.Test.YtnfpbkimdhhmfaaG30Law1
namespace Go.Proofs.Ytnfpbkimdhhmfaa
open Go.RowKit
attribute [local go_sem ↓] run_eql_id run_neq_id
attribute [local simp] heap_drew
theorem clsL_at {L : List NodeC} {q weak : List IDE} {es : List StubE} {k : Nat} {e e' : StubE} (h : es[k]? = some e) (hc : cls1 L q weak e = some e') : (clsL L q weak es)[(clsL L q weak (es.take k)).length]? = some e' := by
  have hk : k < es.length := (List.getElem?_eq_some_iff.1 h).1
  have h1 : es = es.take k ++ e :: es.drop (k + 1) := by
    conv => lhs; rw [← List.take_append_drop k es]
    rw [List.drop_eq_getElem_cons hk, (List.getElem?_eq_some_iff.1 h).2]
  have h2 : clsL L q weak es = clsL L q weak (es.take k) ++ e' :: clsL L q weak (es.drop (k + 1)) := by
    conv => lhs; rw [h1]
    unfold clsL
    rw [List.filterMap_append, List.filterMap_cons, hc]
  rw [h2, List.getElem?_append_right (Nat.le_refl _), Nat.sub_self]
  rfl
set_option maxRecDepth 100000 in
set_option maxHeartbeats 8000000 in
theorem lawDisjoint_any (A : Option Addr) (c : Nat) (l : List NodeE) (RA : Option Addr) (rc : Nat) (roots : List IDE) (WA : Option Addr) (wc : Nat) (weak : List IDE) (EA : Option Addr) (ec : Nat) (es : List StubE) (w : World) (H : GraphIn w A c l) (hR : SlAt IDE.cells 2 w RA roots) (hWk : SlAt IDE.cells 2 w WA weak) (hE : SlAt StubE.cells 12 w EA es) :
    Calls Try.prog 5 #[.agg #[.slice A l.length c], .slice RA roots.length rc, .slice WA weak.length wc, .slice EA es.length ec] w fun r w' => r = .returned (.bool true) ∧ Below w.heap.size w w' := by
  have HL := H.at_.later
  have HR : ∀ u [Later w u], SlAt IDE.cells 2 u RA roots := fun u i => hR.below i.below
  have HWk : ∀ u [Later w u], SlAt IDE.cells 2 u WA weak := fun u i => hWk.below i.below
  have HE : ∀ u [Later w u], SlAt StubE.cells 12 u EA es := fun u i => hE.below i.below
  go_enter Try.func5, Try.ntmps5
  go_upto_region 1 with fail
  refine wp_name ?_
  intro w0 hw0
  obtain ⟨B0, l0⟩ := box1 hw0
  clear hw0
  go_upto_region 3 with (go_at_call 9; refine (awake_any _).mono ?_; rintro r w1 ⟨rfl, hb1⟩; have l1 := later hb1)
  obtain ⟨V, hV⟩ : ∃ V, V = (([⟨RA, roots.length, rc⟩, ⟨WA, weak.length, wc⟩] : List LenE).any (fun x => decide (30 < x.n)) || !decide (l.length + fieldsN (conL l) ≤ 200)) := ⟨_, rfl⟩
  have HG : ∀ u [Later w u], Calls Try.prog 10 #[.agg #[.slice A l.length c], .slice (some ⟨u.heap.size, 0, none⟩) 2 2] (u.alloc (.cells #[.slice RA roots.length rc, .slice WA weak.length wc] 25)) fun r w' => r = .returned (.bool V) ∧ Below (u.alloc (.cells #[.slice RA roots.length rc, .slice WA weak.length wc] 25)).heap.size (u.alloc (.cells #[.slice RA roots.length rc, .slice WA weak.length wc] 25)) w' := fun u i => by
    rw [hV]
    exact large_any A c l (some ⟨u.heap.size, 0, none⟩) 2 [⟨RA, roots.length, rc⟩, ⟨WA, weak.length, wc⟩] _ (HL _) (blk_slAt LenE.enc (fr := (0, 0)) (heap_alloc_new _ _) _ rfl) H.len H.fields (by simp)
  have HV := hide hV
  clear hV
  cases V
  rotate_left
  · go_wp2_with (go_at_call 10; refine (HG _).mono ?_; rintro r w2 ⟨rfl, hb2⟩; have l2 := later hb2)
    go_ret
    exact ⟨rfl, below_of⟩
  by_cases h30 : 30 < es.length
  · have h30i : (30 : Int) < (es.length : Int) := by omega
    go_wp2_with (go_at_call 10; refine (HG _).mono ?_; rintro r w2 ⟨rfl, hb2⟩; have l2 := later hb2)
    go_ret
    exact ⟨rfl, below_of⟩
  have h30i : ¬ (30 : Int) < (es.length : Int) := by omega
  have hsm := large2 HV.out
  obtain ⟨h1, h2, h3⟩ := hsm
  obtain ⟨h4, h5⟩ := few_bounds h3
  have h5' : ∀ n ∈ l, n.fields.length ≤ 10000 := fun n hn => Nat.le_trans (h5 n hn) (by omega)
  have HSt : ∀ u [Later w u], Calls Try.prog 16 #[.agg #[.slice A l.length c], .slice RA roots.length rc] u (ReachPost (conL l) roots u) := fun u i => strong_any A c l RA rc roots u (HL u) (HR u) (by omega) h5' (by omega)
  go_upto_region 6 with (first
    | (go_at_call 10; refine (HG _).mono ?_; rintro r w2 ⟨rfl, hb2⟩; have l2 := later hb2)
    | (go_at_call 16; refine (HSt _).mono ?_; rintro r w3 ⟨q, QA, Qc, hq, rfl, hoq, hb3⟩; have l3 := later hb3; have l33 : Later w3 w3 := Later.refl))
  have hql : q.length ≤ 200 := by
    have e1 := reach_len (l := conL l) hq.1.nodup (fun x hx => firstN_ids.1 ((hq.2 x).1 hx).node)
    have e2 : (conL l).length = l.length := by unfold conL; rw [List.length_map]
    omega
  have HQ : ∀ u [Later w3 u], SlAt IDE.cells 2 u QA q := fun u i => ((hoq.below i.below).at_ IDE.enc).2.2
  have HWS : ∀ u [Later w3 u], Calls Try.prog 17 #[.agg #[.slice A l.length c], .slice QA q.length Qc, .slice WA weak.length wc] u (SetIPost (weakL (conL l) q weak) u) := fun u i => by haveI := (l3 w).trans i; exact weakStubs_any A c l QA Qc q WA wc weak u (HL u) (HQ u) (HWk u) (by omega) h5' (by omega) (by omega)
  have HC : ∀ u [Later w u], Calls Try.prog 12 #[.agg #[.slice A l.length c], .slice RA roots.length rc, .slice WA weak.length wc, .slice EA es.length ec] u (ClsPost (conL l) q weak es u) := fun u i => cls_any A c l RA rc roots WA wc weak EA ec es q hq u (HL u) (HR u) (HWk u) (HE u) (by omega) h5' (by omega) (by omega) (by omega)
  have hcl : (clsL (conL l) q weak es).length ≤ 30 := Nat.le_trans (List.length_filterMap_le _ _) (by omega)
  have hwl : (setI (weakL (conL l) q weak)).length ≤ 200 := Nat.le_trans weakI_len h4
  go_upto_region 7 with (go_at_call 17; refine (HWS _).mono ?_; rintro r w5 ⟨ids, IA, Ic, hid, rfl, hoi, hb5⟩; have l5 := later hb5; have l55 : Later w5 w5 := Later.refl)
  have hil : ids.length ≤ 200 := by rw [hid.out]; exact hwl
  have HI : ∀ u [Later w5 u], SlAt IDE.cells 2 u IA ids := fun u i => ((hoi.below i.below).at_ IDE.enc).2.2
  have HHq : ∀ (x : IDE) (u : World) [Later w3 u], Calls Try.prog 18 #[.slice QA q.length Qc, x.v] u fun r w' => r = .returned (.bool (decide (x ∈ q))) ∧ Below u.heap.size u w' := fun x u j => has21_any QA Qc q x u (HQ u) (by omega)
  have HHi : ∀ (x : IDE) (u : World) [Later w5 u], Calls Try.prog 18 #[.slice IA ids.length Ic, x.v] u fun r w' => r = .returned (.bool (weakP (conL l) q weak x)) ∧ Below u.heap.size u w' := fun x u j => by
    have := has21_any IA Ic ids x u (HI u) (by omega)
    rw [hid.out, weakI_dec, ← hid.out] at this
    exact this
  have HF : ∀ (x : IDE) (u : World) [Later w u], Calls Try.prog 19 #[.agg #[.slice A l.length c], x.v] u (Find16Post l x u) := fun x u j => find16_any A c l x u (HL u) (by omega)
  unfold Find16Post at HF
  clear HV h1 h2 h3 h4 h5 h5' hwl HSt HWS hb5 hb3 hoq hoi
  go_wp2_with fail
  go_loopw [11] (fun iv wr => ∃ k : Nat, k ≤ ids.length ∧ iv = .int .i64 k ∧ Below w5.heap.size w5 wr) (fun iv _ => ids.length - (intOf iv).toNat)
  case atStart => exact ⟨0, by omega, rfl, Below.refl _ _⟩
  case round =>
    obtain ⟨k, hk, rfl, hbr⟩ := hrel
    have lr := later hbr
    by_cases hlt : k < ids.length
    · obtain ⟨b1, o1, x, rfl, hx, C1⟩ := IDE.get (HI wr) hlt
      have hki : (k : Int) < (ids.length : Int) := by omega
      have hxq : ¬ x ∈ q := by
        have hm := List.mem_of_getElem? hx
        rw [hid.out, setI_mem, weakL_mem] at hm
        unfold weakP at hm
        simp only [Bool.and_eq_true, Bool.not_eq_true', decide_eq_false_iff_not] at hm
        exact hm.2.1
      have HHx := fun (u : World) (i : Later w3 u) => HHq x u
      simp only [hxq, decide_false] at HHx
      clear hx
      go_wp2_with (go_at_call 18; refine (HHx _ inferInstance).mono ?_; rintro r w6 ⟨rfl, hb6⟩; have l6 := later hb6)
      go_roundw
      case rel => exact ⟨k + 1, by omega, by go_num, below_of⟩
      case measure => simp [intOf]; omega
    · have hk' : k = ids.length := by omega
      subst hk'
      go_upto_region 13 with (go_at_call 12; refine (HC _).mono ?_; rintro r w4 ⟨p, PA, Pc, hp, rfl, hop, hb4⟩; have l4 := later hb4; have l44 : Later w4 w4 := Later.refl)
      have hpl : p.length ≤ 30 := by rw [hp.out]; exact hcl
      have HP : ∀ u [Later w4 u], SlAt StubE.cells 12 u PA p := fun u i => ((hop.below i.below).at_ StubE.enc).2.2
      clear HC hop hb4 hcl
      go_wp2_with fail
      go_loopw [13, 14] (fun nv iv wr => ∃ (k n : Nat), k ≤ es.length ∧ iv = .int .i64 k ∧ nv = .int .i64 n ∧ Hid (n = (clsL (conL l) q weak (es.take k)).length) ∧ Below w4.heap.size w4 wr) (fun _ iv _ => es.length - (intOf iv).toNat)
      case atStart => exact ⟨0, 0, by omega, rfl, rfl, hide rfl, Below.refl _ _⟩
      case round =>
        obtain ⟨k, n, hk, rfl, rfl, hn, hbr⟩ := hrel
        have lr := later hbr
        have hzr := hbr.size
        have hnb : n ≤ 30 := by rw [hn.out]; exact Nat.le_trans clsL_len (by omega)
        by_cases hlt2 : k < es.length
        · obtain ⟨b1, o1, e, rfl, he, C1⟩ := StubE.get (HE wr) hlt2
          have hki : (k : Int) < (es.length : Int) := by omega
          have HT := hide (clsL_take (L := conL l) (q := q) (weak := weak) he)
          have He := hide he
          clear he
          obtain ⟨x1, hx1⟩ : ∃ x1, x1 = e.iDMachine := ⟨_, rfl⟩
          obtain ⟨x2, hx2⟩ : ∃ x2, x2 = e.iDSerial := ⟨_, rfl⟩
          have Hxe := hide (show idS e = ⟨x1, x2⟩ by rw [hx1, hx2]; rfl)
          have hx1s := hx1.symm
          have hx2s := hx2.symm
          have HFx := fun (u : World) (i : Later w u) => HF ⟨x1, x2⟩ u
          have HHx := fun (u : World) (i : Later w3 u) => HHq ⟨x1, x2⟩ u
          have HIx := fun (u : World) (i : Later w5 u) => HHi ⟨x1, x2⟩ u
          obtain ⟨wv, hwv⟩ : ∃ wv, wv = weakP (conL l) q weak ⟨x1, x2⟩ := ⟨_, rfl⟩
          rw [← hwv] at HIx
          have Hwv := hide hwv
          clear hwv hx1 hx2 HF HHq HHi
          go_upto_region 18 with fail
          refine wp_name ?_
          intro wx hwx
          obtain ⟨BX, lx⟩ := box1 hwx
          clear hwx
          have lxx : Later wx wx := Later.refl
          cases hfx : firstE l ⟨x1, x2⟩ with
          | none =>
            simp only [hfx, Option.getD_none, Option.isSome_none, zeroN] at HFx
            obtain rfl : wv = false := by rw [Hwv.out]; unfold weakP; rw [stub_none hfx]; rfl
            have hc1 := hide (show cls1 (conL l) q weak e = none by unfold cls1 keepP; rw [Hxe.out, ← Hwv.out, stub_none hfx]; rfl)
            clear hfx
            go_wp2_with (first | (go_at_call 19; refine (HFx _ inferInstance).mono ?_; rintro r w6 ⟨rfl, hb6⟩; have l6 := later hb6) | (go_at_call_has 18 (Value.slice QA q.length Qc); refine (HHx _ inferInstance).mono ?_; rintro r w7 ⟨rfl, hb7⟩; have l7 := later hb7) | (go_at_call_has 18 (Value.slice IA ids.length Ic); refine (HIx _ inferInstance).mono ?_; rintro r w8 ⟨rfl, hb8⟩; have l8 := later hb8))
            go_roundw
            case rel => exact ⟨k + 1, n, by omega, by go_num, rfl, hide (by rw [HT.out, hc1.out, hn.out]; simp), below_of⟩
            case measure => simp [intOf]; omega
          | some m =>
            simp only [hfx, Option.getD_some, Option.isSome_some] at HFx
            have hmk : isStubN (conL l) ⟨x1, x2⟩ = (m.kind == 3) := stub_some hfx
            clear hfx
            by_cases hk3 : m.kind = 3
            · have hmk3 : isStubN (conL l) ⟨x1, x2⟩ = true := by rw [hmk, hk3]; rfl
              have hkeep : keepP (conL l) q weak (idS e) = true → cls1 (conL l) q weak e = some ⟨e.owner, e.number, x1, x2, e.clas, e.lastUse, e.distance, e.touched, wv, e.dead, e.lockMachine, e.lockSerial⟩ := fun h => by
                unfold cls1
                rw [if_pos h, Hxe.out, ← Hwv.out, ← hx1s, ← hx2s]
              have hkq : keepP (conL l) q weak (idS e) = (wv || decide ((⟨x1, x2⟩ : IDE) ∈ q)) := by unfold keepP; rw [Hxe.out, ← Hwv.out, hmk3, Bool.true_and]
              have Hkeep := hide hkeep
              have Hkq := hide hkq
              clear hmk hkeep hkq
              by_cases hin : (⟨x1, x2⟩ : IDE) ∈ q
              · obtain rfl : wv = false := by rw [Hwv.out]; unfold weakP; simp [hin]
                have hc1 := hide (Hkeep.out (by rw [Hkq.out]; simp [hin]))
                simp only [hin, decide_true] at HHx
                clear hmk3
                go_upto_region 22 with (first | (go_at_call 19; refine (HFx _ inferInstance).mono ?_; rintro r w6 ⟨rfl, hb6⟩; have l6 := later hb6) | (go_at_call_has 18 (Value.slice QA q.length Qc); refine (HHx _ inferInstance).mono ?_; rintro r w7 ⟨rfl, hb7⟩; have l7 := later hb7) | (go_at_call_has 18 (Value.slice IA ids.length Ic); refine (HIx _ inferInstance).mono ?_; rintro r w8 ⟨rfl, hb8⟩; have l8 := later hb8))
                refine wp_name ?_
                intro w9 hw9
                have be9 : w9.heap[wr.heap.size]? = some (.cells #[.int .i64 e.owner, .int .u64 e.number, .int .i64 x1, .int .i64 x2, .int .i64 e.clas, .int .i64 e.lastUse, .int .i64 e.distance, .bool e.touched, .bool false, .bool e.dead, .int .i64 e.lockMachine, .int .i64 e.lockSerial] 61 (0, 0)) := by rw [← hw9]; exact (blk_set (BX w7).1 8 _).trans rfl
                have hb9 : Below w4.heap.size w4 w9 := by rw [← hw9]; exact (show Below w4.heap.size w4 w7 from below_of).setCell hzr _
                have l9 := later hb9
                have l99 : Later w9 w9 := Later.refl
                clear hw9 BX
                have BE := boxed be9
                have hno := hide (show p[n]? = some ⟨e.owner, e.number, x1, x2, e.clas, e.lastUse, e.distance, e.touched, false, e.dead, e.lockMachine, e.lockSerial⟩ by rw [hp.out, hn.out]; exact clsL_at He.out hc1.out)
                have hnl : n < p.length := (List.getElem?_eq_some_iff.1 hno.out).1
                have hni : (n : Int) < (p.length : Int) := by omega
                have hnj : ¬ (p.length : Int) ≤ (n : Int) := by omega
                obtain ⟨g3, o3, y, rfl, hy, CY⟩ := StubE.get (HP w9) hnl
                have hye := hide (show y = ⟨e.owner, e.number, x1, x2, e.clas, e.lastUse, e.distance, e.touched, false, e.dead, e.lockMachine, e.lockSerial⟩ by rw [hno.out] at hy; injection hy with hy; exact hy.symm)
                have hneq : ∀ u : World, (binOp .neq 61 (.agg #[.int .i64 e.owner, .int .u64 e.number, .int .i64 x1, .int .i64 x2, .int .i64 e.clas, .int .i64 e.lastUse, .int .i64 e.distance, .bool e.touched, .bool false, .bool e.dead, .int .i64 e.lockMachine, .int .i64 e.lockSerial]) (.agg #[.int .i64 e.owner, .int .u64 e.number, .int .i64 x1, .int .i64 x2, .int .i64 e.clas, .int .i64 e.lastUse, .int .i64 e.distance, .bool e.touched, .bool false, .bool e.dead, .int .i64 e.lockMachine, .int .i64 e.lockSerial])).run Try.prog u = .ok (.bool false) u := fun u => by
                  have h1 := run_neq_StubE ⟨e.owner, e.number, x1, x2, e.clas, e.lastUse, e.distance, e.touched, false, e.dead, e.lockMachine, e.lockSerial⟩ ⟨e.owner, e.number, x1, x2, e.clas, e.lastUse, e.distance, e.touched, false, e.dead, e.lockMachine, e.lockSerial⟩ u
                  rw [StubE.beq_iff.2 rfl] at h1
                  exact h1
                clear hy
                have hye' := hye.out
                subst hye'
                (try dsimp only at CY)
                (refine wp_region_after (by kernel_rfl) (by kernel_rfl) ?_
                 repeat (any_goals (first | go_big_quiet_skip | (go_big_quiet_want; go_big_quiet_op; first | go_big_quiet_on | go_big_quiet_call (fail)) | quiet_step (fail) | (refine wpQuiet_step (fun K hK => ?_); go_simp; split <;> (refine hK _ ?_; clear hK K))))
                 all_goals (refine wpQuiet_nil ?_; intro _ hw'; obtain ⟨u', hw''⟩ := hw'; subst hw''; obtain ⟨wd, hbd⟩ := u'; simp only [After.val_mk]))
                all_goals (try (exfalso; omega))
                have ld := later hbd
                go_wp2_with fail
                go_roundw
                case rel => exact ⟨k + 1, n + 1, by omega, by go_num, by go_num, hide (by rw [HT.out, hc1.out, hn.out]; simp), below_of⟩
                case measure => simp [intOf]; omega
              · simp only [hin, decide_false] at HHx
                clear hmk3
                cases wv
                · have hc1 := hide (show cls1 (conL l) q weak e = none by unfold cls1; rw [if_neg (by rw [Hkq.out]; simp [hin])])
                  go_wp2_with (first | (go_at_call 19; refine (HFx _ inferInstance).mono ?_; rintro r w6 ⟨rfl, hb6⟩; have l6 := later hb6) | (go_at_call_has 18 (Value.slice QA q.length Qc); refine (HHx _ inferInstance).mono ?_; rintro r w7 ⟨rfl, hb7⟩; have l7 := later hb7) | (go_at_call_has 18 (Value.slice IA ids.length Ic); refine (HIx _ inferInstance).mono ?_; rintro r w8 ⟨rfl, hb8⟩; have l8 := later hb8))
                  go_roundw
                  case rel => exact ⟨k + 1, n, by omega, by go_num, rfl, hide (by rw [HT.out, hc1.out, hn.out]; simp), below_of⟩
                  case measure => simp [intOf]; omega
                · have hc1 := hide (Hkeep.out (by rw [Hkq.out]; simp))
                  go_upto_region 22 with (first | (go_at_call 19; refine (HFx _ inferInstance).mono ?_; rintro r w6 ⟨rfl, hb6⟩; have l6 := later hb6) | (go_at_call_has 18 (Value.slice QA q.length Qc); refine (HHx _ inferInstance).mono ?_; rintro r w7 ⟨rfl, hb7⟩; have l7 := later hb7) | (go_at_call_has 18 (Value.slice IA ids.length Ic); refine (HIx _ inferInstance).mono ?_; rintro r w8 ⟨rfl, hb8⟩; have l8 := later hb8))
                  refine wp_name ?_
                  intro w9 hw9
                  have be9 : w9.heap[wr.heap.size]? = some (.cells #[.int .i64 e.owner, .int .u64 e.number, .int .i64 x1, .int .i64 x2, .int .i64 e.clas, .int .i64 e.lastUse, .int .i64 e.distance, .bool e.touched, .bool true, .bool e.dead, .int .i64 e.lockMachine, .int .i64 e.lockSerial] 61 (0, 0)) := by rw [← hw9]; exact (blk_set (BX w8).1 8 _).trans rfl
                  have hb9 : Below w4.heap.size w4 w9 := by rw [← hw9]; exact (show Below w4.heap.size w4 w8 from below_of).setCell hzr _
                  have l9 := later hb9
                  have l99 : Later w9 w9 := Later.refl
                  clear hw9 BX
                  have BE := boxed be9
                  have hno := hide (show p[n]? = some ⟨e.owner, e.number, x1, x2, e.clas, e.lastUse, e.distance, e.touched, true, e.dead, e.lockMachine, e.lockSerial⟩ by rw [hp.out, hn.out]; exact clsL_at He.out hc1.out)
                  have hnl : n < p.length := (List.getElem?_eq_some_iff.1 hno.out).1
                  have hni : (n : Int) < (p.length : Int) := by omega
                  have hnj : ¬ (p.length : Int) ≤ (n : Int) := by omega
                  obtain ⟨g3, o3, y, rfl, hy, CY⟩ := StubE.get (HP w9) hnl
                  have hye := hide (show y = ⟨e.owner, e.number, x1, x2, e.clas, e.lastUse, e.distance, e.touched, true, e.dead, e.lockMachine, e.lockSerial⟩ by rw [hno.out] at hy; injection hy with hy; exact hy.symm)
                  have hneq : ∀ u : World, (binOp .neq 61 (.agg #[.int .i64 e.owner, .int .u64 e.number, .int .i64 x1, .int .i64 x2, .int .i64 e.clas, .int .i64 e.lastUse, .int .i64 e.distance, .bool e.touched, .bool true, .bool e.dead, .int .i64 e.lockMachine, .int .i64 e.lockSerial]) (.agg #[.int .i64 e.owner, .int .u64 e.number, .int .i64 x1, .int .i64 x2, .int .i64 e.clas, .int .i64 e.lastUse, .int .i64 e.distance, .bool e.touched, .bool true, .bool e.dead, .int .i64 e.lockMachine, .int .i64 e.lockSerial])).run Try.prog u = .ok (.bool false) u := fun u => by
                    have h1 := run_neq_StubE ⟨e.owner, e.number, x1, x2, e.clas, e.lastUse, e.distance, e.touched, true, e.dead, e.lockMachine, e.lockSerial⟩ ⟨e.owner, e.number, x1, x2, e.clas, e.lastUse, e.distance, e.touched, true, e.dead, e.lockMachine, e.lockSerial⟩ u
                    rw [StubE.beq_iff.2 rfl] at h1
                    exact h1
                  clear hy
                  have hye' := hye.out
                  subst hye'
                  (try dsimp only at CY)
                  (refine wp_region_after (by kernel_rfl) (by kernel_rfl) ?_
                   repeat (any_goals (first | go_big_quiet_skip | (go_big_quiet_want; go_big_quiet_op; first | go_big_quiet_on | go_big_quiet_call (fail)) | quiet_step (fail) | (refine wpQuiet_step (fun K hK => ?_); go_simp; split <;> (refine hK _ ?_; clear hK K))))
                   all_goals (refine wpQuiet_nil ?_; intro _ hw'; obtain ⟨u', hw''⟩ := hw'; subst hw''; obtain ⟨wd, hbd⟩ := u'; simp only [After.val_mk]))
                  all_goals (try (exfalso; omega))
                  have ld := later hbd
                  go_wp2_with fail
                  go_roundw
                  case rel => exact ⟨k + 1, n + 1, by omega, by go_num, by go_num, hide (by rw [HT.out, hc1.out, hn.out]; simp), below_of⟩
                  case measure => simp [intOf]; omega
            · have hmk3 : isStubN (conL l) ⟨x1, x2⟩ = false := by rw [hmk]; simp [hk3]
              obtain rfl : wv = false := by rw [Hwv.out]; unfold weakP; rw [hmk3]; rfl
              have hc1 := hide (show cls1 (conL l) q weak e = none by unfold cls1 keepP; rw [Hxe.out, ← Hwv.out, hmk3]; rfl)
              have hk3b : (m.kind == 3) = false := by simp [hk3]
              clear hmk hmk3
              go_wp2_with (first | (go_at_call 19; refine (HFx _ inferInstance).mono ?_; rintro r w6 ⟨rfl, hb6⟩; have l6 := later hb6) | (go_at_call_has 18 (Value.slice QA q.length Qc); refine (HHx _ inferInstance).mono ?_; rintro r w7 ⟨rfl, hb7⟩; have l7 := later hb7) | (go_at_call_has 18 (Value.slice IA ids.length Ic); refine (HIx _ inferInstance).mono ?_; rintro r w8 ⟨rfl, hb8⟩; have l8 := later hb8))
              go_roundw
              case rel => exact ⟨k + 1, n, by omega, by go_num, rfl, hide (by rw [HT.out, hc1.out, hn.out]; simp), below_of⟩
              case measure => simp [intOf]; omega
        · have hk' : k = es.length := by omega
          subst hk'
          have hpn : (n : Int) = (p.length : Int) := by rw [hn.out, List.take_length, ← hp.out]
          go_wp2_with fail
          go_ret
          exact ⟨ret_bool (by simp [hpn]), below_of⟩
end Go.Proofs.Ytnfpbkimdhhmfaa
