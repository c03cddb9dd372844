/-
  Contracts of the functions of this seat that each theorem names: what a call returns, and that it writes nothing that was there before. The conditions stand in each theorem.
-/
import Derived.Test.YtnfpbkimdhhmfaaG30Data
namespace Go.Proofs.Ytnfpbkimdhhmfaa
open Go.RowKit
attribute [local go_sem ↓] run_eql_id run_neq_id
attribute [local simp] heap_drew
set_option maxRecDepth 100000 in
set_option maxHeartbeats 8000000 in
theorem cls30_any (A : Option Addr) (c : Nat) (l : List NodeE) (RA : Option Addr) (rc : Nat) (roots : List IDE) (WA : Option Addr) (wc : Nat) (weak : List IDE) (EA : Option Addr) (ec : Nat) (es : List StubE) (q : List IDE) (hq : ReachL (conL l) roots q) (w : World) (H : NodesAt w A l) (hR : SlAt IDE.cells 2 w RA roots) (hWk : SlAt IDE.cells 2 w WA weak) (hE : SlAt StubE.cells 12 w EA es) (hl : l.length ≤ 10000) (hf : ∀ n ∈ l, n.fields.length ≤ 10000) (hrl : roots.length ≤ 10000) (hwl : weak.length ≤ 10000) (hel : es.length ≤ 10000) :
    Calls Try.prog 13 #[.agg #[.slice A l.length c], .slice RA roots.length rc, .slice WA weak.length wc, .slice EA es.length ec] w (ClsPost (conL l) q weak es w) := by
  have HL := H.later
  have HWk : ∀ u [Later w u], SlAt IDE.cells 2 u WA weak := fun u i => hWk.below i.below
  have HR : ∀ u [Later w u], SlAt IDE.cells 2 u RA roots := fun u i => hR.below i.below
  have HE : ∀ u [Later w u], SlAt StubE.cells 12 u EA es := fun u i => hE.below i.below
  have hel' : es.length ≤ 9223372036854775807 := by omega
  have hql : q.length ≤ 10000 := by
    have h1 := reach_len (l := conL l) hq.1.nodup (fun x hx => firstN_ids.1 ((hq.2 x).1 hx).node)
    have h2 : (conL l).length = l.length := by unfold conL; rw [List.length_map]
    omega
  go_enter Try.func13, Try.ntmps13
  go_upto_region 1 with fail
  refine wp_name ?_
  intro w0 hw0
  obtain ⟨B0, l0⟩ := box1 hw0
  clear hw0
  go_upto_region 2 with (go_at_call 27; refine (reach16_any A c l RA rc roots _ (HL _) (HR _) hl hf hrl).mono ?_; rintro r w1 ⟨q', QA, Qc, hq', rfl, hoq, hb1⟩; have l1 := later hb1)
  obtain rfl : q' = q := hq'.unique hq
  have HQ : ∀ u [Later w1 u], SlAt IDE.cells 2 u QA q' := fun u i => ((hoq.below i.below).at_ IDE.enc).2.2
  have hz1 : w0.heap.size ≤ w1.heap.size := hb1.size
  have l11 : Later w1 w1 := Later.refl
  have HF : ∀ (x : IDE) (u : World) [Later w u], Calls Try.prog 19 #[.agg #[.slice A l.length c], x.v] u (Find16Post l x u) := fun x u j => find16_any A c l x u (HL u) (by omega)
  have HW : ∀ (x : IDE) (u : World) [Later w1 u], Calls Try.prog 28 #[.agg #[.slice A l.length c], .slice QA q'.length Qc, .slice WA weak.length wc, x.v] u fun r w' => r = .returned (.bool (weakP (conL l) q' weak x)) ∧ Below u.heap.size u w' := fun x u i => by haveI := (l1 w).trans i; exact weakStub_any A c l QA Qc q' WA wc weak x u (HL u) (HQ u) (HWk u) hl hf hql hwl
  have HH : ∀ (x : IDE) (u : World) [Later w1 u], Calls Try.prog 18 #[.slice QA q'.length Qc, x.v] u fun r w' => r = .returned (.bool (decide (x ∈ q'))) ∧ Below u.heap.size u w' := fun x u j => has21_any QA Qc q' x u (HQ u) (by omega)
  unfold Find16Post at HF
  clear hq'
  go_wp2_with fail
  go_loopw [10, 11] (fun ov iv wr => ∃ (k : Nat) (o : List StubE) (B : Option Addr) (D : Nat), k ≤ es.length ∧ iv = .int .i64 k ∧ Hid (o = clsL (conL l) q' weak (es.take k)) ∧ ov = .slice B o.length D ∧ Own StubE.cells 12 61 w1.heap.size wr (.slice B o.length D) o ∧ Below w1.heap.size w1 wr) (fun _ iv _ => es.length - (intOf iv).toNat)
  case atStart => exact ⟨0, [], some ⟨w1.heap.size, 0, none⟩, 0, by omega, rfl, hide rfl, rfl, Own.empty (Nat.le_refl _), below_of⟩
  case round =>
    obtain ⟨k, o, B, D, hk, rfl, ho, rfl, hoo, hbr⟩ := hrel
    have lr := later hbr
    have hzr := hbr.size
    have hol : o.length ≤ 10000 := by rw [ho.out]; exact Nat.le_trans clsL_len (by omega)
    by_cases hlt : k < es.length
    · obtain ⟨b1, o1, e, rfl, he, C1⟩ := StubE.get (HE wr) hlt
      have hki : (k : Int) < (es.length : Int) := by omega
      have HT := hide (clsL_take (L := conL l) (q := q') (weak := weak) he)
      clear he
      obtain ⟨x, hx⟩ : ∃ x, x = idS e := ⟨_, rfl⟩
      obtain ⟨x1, hx1⟩ : ∃ x1, x1 = e.iDMachine := ⟨_, rfl⟩
      obtain ⟨x2, hx2⟩ : ∃ x2, x2 = e.iDSerial := ⟨_, rfl⟩
      have Hx := hide (show x = ⟨x1, x2⟩ by rw [hx, hx1, hx2]; rfl)
      have Hxe := hide (show idS e = ⟨x1, x2⟩ by rw [hx1, hx2]; rfl)
      have hx1s := hx1.symm
      have hx2s := hx2.symm
      have HFx := fun (u : World) (i : Later w u) => HF ⟨x1, x2⟩ u
      have HWx := fun (u : World) (i : Later w1 u) => HW ⟨x1, x2⟩ u
      have HHx := fun (u : World) (i : Later w1 u) => HH ⟨x1, x2⟩ u
      obtain ⟨wv, hwv⟩ : ∃ wv, wv = weakP (conL l) q' weak ⟨x1, x2⟩ := ⟨_, rfl⟩
      rw [← hwv] at HWx
      have Hwv := hide hwv
      clear hwv hx hx1 hx2 HF HW HH
      go_upto_region 7 with fail
      refine wp_name ?_
      intro w5 hw5
      obtain ⟨BX, l5⟩ := box1 hw5
      have hz5 : wr.heap.size < w5.heap.size := by rw [← hw5]; simp
      clear hw5
      have l55 : Later w5 w5 := Later.refl
      cases hfx : firstE l ⟨x1, x2⟩ with
      | none =>
        simp only [hfx, Option.getD_none, Option.isSome_none, zeroN] at HFx
        obtain rfl : wv = false := by rw [Hwv.out]; unfold weakP; rw [stub_none hfx]; rfl
        have hc1 := hide (show cls1 (conL l) q' weak e = none by unfold cls1 keepP; rw [Hxe.out, ← Hwv.out, stub_none hfx]; rfl)
        clear hfx
        go_upto_region 9 with (first | (go_at_call 19; refine (HFx _ inferInstance).mono ?_; rintro r w6 ⟨rfl, hb6⟩; have l6 := later hb6) | (go_at_call 28; refine (HWx _ inferInstance).mono ?_; rintro r w7 ⟨rfl, hb7⟩; have l7 := later hb7))
        refine wp_name ?_
        intro w9 hw9
        have be9 : w9.heap[wr.heap.size]? = some (.cells #[.int .i64 e.owner, .int .u64 e.number, .int .i64 x1, .int .i64 x2, .int .i64 e.clas, .int .i64 e.lastUse, .int .i64 e.distance, .bool e.touched, .bool false, .bool e.dead, .int .i64 e.lockMachine, .int .i64 e.lockSerial] 61 (0, 0)) := by rw [← hw9]; exact (blk_set (BX w7).1 8 _).trans rfl
        have ho9 : Own StubE.cells 12 61 w1.heap.size w9 (.slice B o.length D) o := by rw [← hw9]; exact (hoo.later w7).far (p := ⟨wr.heap.size, 8, none⟩) (fun e => absurd (World.ownsRow.lt hoo _ e).2 (by simp)) _
        have hb9 : Below w1.heap.size w1 w9 := by rw [← hw9]; exact (show Below w1.heap.size w1 w7 from below_of).setCell hzr _
        have l9 := later hb9
        have l99 : Later w9 w9 := Later.refl
        clear hw9 BX
        have BE := boxed be9
        go_wp2_with fail
        go_roundw
        case rel => exact ⟨k + 1, o, B, D, by omega, by go_num, hide (by rw [HT.out, hc1.out, ho.out]; simp), rfl, ho9.later _, below_of⟩
        case measure => simp [intOf]; omega
      | some m =>
        simp only [hfx, Option.getD_some, Option.isSome_some] at HFx
        have hmk : isStubN (conL l) ⟨x1, x2⟩ = (m.kind == 3) := stub_some hfx
        obtain ⟨hml, hmid⟩ := firstE_some hfx
        have hn1 : m.iDMachine = x1 := congrArg IDE.machine hmid
        have hn2 : m.iDSerial = x2 := congrArg IDE.serial hmid
        clear hfx hmid hml
        by_cases hk3 : m.kind = 3
        · have hmk3 : isStubN (conL l) ⟨x1, x2⟩ = true := by rw [hmk, hk3]; rfl
          have hkeep : keepP (conL l) q' weak (idS e) = true → cls1 (conL l) q' weak e = some ⟨e.owner, e.number, x1, x2, e.clas, e.lastUse, e.distance, e.touched, wv, e.dead, e.lockMachine, e.lockSerial⟩ := fun h => by
            unfold cls1
            rw [if_pos h, Hxe.out, ← Hwv.out, ← hx1s, ← hx2s]
          have hkq : keepP (conL l) q' weak (idS e) = (wv || decide ((⟨x1, x2⟩ : IDE) ∈ q')) := by unfold keepP; rw [Hxe.out, ← Hwv.out, hmk3, Bool.true_and]
          have Hkeep := hide hkeep
          have Hkq := hide hkq
          clear hmk hmk3 hkeep hkq
          cases wv
          · by_cases hin : (⟨x1, x2⟩ : IDE) ∈ q'
            · have hc1 := hide (Hkeep.out (by rw [Hkq.out]; simp [hin]))
              simp only [hin, decide_true] at HHx
              go_upto_region 9 with (first | (go_at_call 19; refine (HFx _ inferInstance).mono ?_; rintro r w6 ⟨rfl, hb6⟩; have l6 := later hb6) | (go_at_call 28; refine (HWx _ inferInstance).mono ?_; rintro r w7 ⟨rfl, hb7⟩; have l7 := later hb7; have bn7 := (hb7.block _ (by simp)).trans (heap_alloc_new w6 _)))
              refine wp_name ?_
              intro w9 hw9
              have be9 : w9.heap[wr.heap.size]? = some (.cells #[.int .i64 e.owner, .int .u64 e.number, .int .i64 x1, .int .i64 x2, .int .i64 e.clas, .int .i64 e.lastUse, .int .i64 e.distance, .bool e.touched, .bool false, .bool e.dead, .int .i64 e.lockMachine, .int .i64 e.lockSerial] 61 (0, 0)) := by rw [← hw9]; exact (blk_set (BX w7).1 8 _).trans rfl
              have ho9 : Own StubE.cells 12 61 w1.heap.size w9 (.slice B o.length D) o := by rw [← hw9]; exact (hoo.later w7).far (p := ⟨wr.heap.size, 8, none⟩) (fun e => absurd (World.ownsRow.lt hoo _ e).2 (by simp)) _
              have hb9 : Below w1.heap.size w1 w9 := by rw [← hw9]; exact (show Below w1.heap.size w1 w7 from below_of).setCell hzr _
              have bn9 : w9.heap[w6.heap.size]? = some (.cells #[.int .i64 x1, .int .i64 x2, .int .i64 3, .int .i64 m.clas, .slice m.A m.fields.length m.c] 64 (0, 0)) := by rw [← hw9]; exact (blk_far (k := w6.heap.size) (p := ⟨wr.heap.size, 8, none⟩) (by have := (show Below w5.heap.size w5 w6 from below_of).size; simp only; omega) _).trans bn7
              have l9 := later hb9
              have l99 : Later w9 w9 := Later.refl
              clear hw9 BX
              have BE := boxed be9
              have BN := boxed bn9
              go_upto_region 10 with (go_at_call 18; refine (HHx _ inferInstance).mono ?_; rintro r w10 ⟨rfl, hb10⟩; have l10 := later hb10)
              go_wp2_with (at_builtin; refine wpList_app1 rfl (.tmp 59) (.tmp 61) rfl StubE.enc stubT ⟨e.owner, e.number, x1, x2, e.clas, e.lastUse, e.distance, e.touched, false, e.dead, e.lockMachine, e.lockSerial⟩ rfl rfl rfl (ho9.later _) (by rfl) (by omega) (by unfold maxLen; omega) (show Below w1.heap.size w1 _ from below_of).size ?_; intro A5 c5 w5 ho5 hm5 hb5 hg5 hat5)
              go_roundw
              case rel => exact ⟨k + 1, o ++ [⟨e.owner, e.number, x1, x2, e.clas, e.lastUse, e.distance, e.touched, false, e.dead, e.lockMachine, e.lockSerial⟩], A5, c5, by omega, by go_num, hide (by rw [HT.out, hc1.out, ho.out]; simp), by rw [List.length_append, List.length_singleton], by rw [List.length_append, List.length_singleton]; exact ho5, (show Below w1.heap.size w1 _ from below_of).trans hb5⟩
              case measure => simp [intOf]; omega
            · have hc1 := hide (show cls1 (conL l) q' weak e = none by unfold cls1; rw [if_neg (by rw [Hkq.out]; simp [hin])])
              simp only [hin, decide_false] at HHx
              go_upto_region 9 with (first | (go_at_call 19; refine (HFx _ inferInstance).mono ?_; rintro r w6 ⟨rfl, hb6⟩; have l6 := later hb6) | (go_at_call 28; refine (HWx _ inferInstance).mono ?_; rintro r w7 ⟨rfl, hb7⟩; have l7 := later hb7; have bn7 := (hb7.block _ (by simp)).trans (heap_alloc_new w6 _)))
              refine wp_name ?_
              intro w9 hw9
              have be9 : w9.heap[wr.heap.size]? = some (.cells #[.int .i64 e.owner, .int .u64 e.number, .int .i64 x1, .int .i64 x2, .int .i64 e.clas, .int .i64 e.lastUse, .int .i64 e.distance, .bool e.touched, .bool false, .bool e.dead, .int .i64 e.lockMachine, .int .i64 e.lockSerial] 61 (0, 0)) := by rw [← hw9]; exact (blk_set (BX w7).1 8 _).trans rfl
              have ho9 : Own StubE.cells 12 61 w1.heap.size w9 (.slice B o.length D) o := by rw [← hw9]; exact (hoo.later w7).far (p := ⟨wr.heap.size, 8, none⟩) (fun e => absurd (World.ownsRow.lt hoo _ e).2 (by simp)) _
              have hb9 : Below w1.heap.size w1 w9 := by rw [← hw9]; exact (show Below w1.heap.size w1 w7 from below_of).setCell hzr _
              have bn9 : w9.heap[w6.heap.size]? = some (.cells #[.int .i64 x1, .int .i64 x2, .int .i64 3, .int .i64 m.clas, .slice m.A m.fields.length m.c] 64 (0, 0)) := by rw [← hw9]; exact (blk_far (k := w6.heap.size) (p := ⟨wr.heap.size, 8, none⟩) (by have := (show Below w5.heap.size w5 w6 from below_of).size; simp only; omega) _).trans bn7
              have l9 := later hb9
              have l99 : Later w9 w9 := Later.refl
              clear hw9 BX
              have BE := boxed be9
              have BN := boxed bn9
              go_wp2_with (go_at_call 18; refine (HHx _ inferInstance).mono ?_; rintro r w10 ⟨rfl, hb10⟩; have l10 := later hb10)
              go_roundw
              case rel => exact ⟨k + 1, o, B, D, by omega, by go_num, hide (by rw [HT.out, hc1.out, ho.out]; simp), rfl, ho9.later _, below_of⟩
              case measure => simp [intOf]; omega
          · have hc1 := hide (Hkeep.out (by rw [Hkq.out]; simp))
            go_upto_region 9 with (first | (go_at_call 19; refine (HFx _ inferInstance).mono ?_; rintro r w6 ⟨rfl, hb6⟩; have l6 := later hb6) | (go_at_call 28; refine (HWx _ inferInstance).mono ?_; rintro r w7 ⟨rfl, hb7⟩; have l7 := later hb7; have bn7 := (hb7.block _ (by simp)).trans (heap_alloc_new w6 _)))
            refine wp_name ?_
            intro w9 hw9
            have be9 : w9.heap[wr.heap.size]? = some (.cells #[.int .i64 e.owner, .int .u64 e.number, .int .i64 x1, .int .i64 x2, .int .i64 e.clas, .int .i64 e.lastUse, .int .i64 e.distance, .bool e.touched, .bool true, .bool e.dead, .int .i64 e.lockMachine, .int .i64 e.lockSerial] 61 (0, 0)) := by rw [← hw9]; exact (blk_set (BX w7).1 8 _).trans rfl
            have ho9 : Own StubE.cells 12 61 w1.heap.size w9 (.slice B o.length D) o := by rw [← hw9]; exact (hoo.later w7).far (p := ⟨wr.heap.size, 8, none⟩) (fun e => absurd (World.ownsRow.lt hoo _ e).2 (by simp)) _
            have hb9 : Below w1.heap.size w1 w9 := by rw [← hw9]; exact (show Below w1.heap.size w1 w7 from below_of).setCell hzr _
            have bn9 : w9.heap[w6.heap.size]? = some (.cells #[.int .i64 x1, .int .i64 x2, .int .i64 3, .int .i64 m.clas, .slice m.A m.fields.length m.c] 64 (0, 0)) := by rw [← hw9]; exact (blk_far (k := w6.heap.size) (p := ⟨wr.heap.size, 8, none⟩) (by have := (show Below w5.heap.size w5 w6 from below_of).size; simp only; omega) _).trans bn7
            have l9 := later hb9
            have l99 : Later w9 w9 := Later.refl
            clear hw9 BX
            have BE := boxed be9
            have BN := boxed bn9
            go_upto_region 10 with fail
            go_wp2_with (at_builtin; refine wpList_app1 rfl (.tmp 59) (.tmp 61) rfl StubE.enc stubT ⟨e.owner, e.number, x1, x2, e.clas, e.lastUse, e.distance, e.touched, true, e.dead, e.lockMachine, e.lockSerial⟩ rfl rfl rfl (ho9.later _) (by rfl) (by omega) (by unfold maxLen; omega) (show Below w1.heap.size w1 _ from below_of).size ?_; intro A5 c5 w5 ho5 hm5 hb5 hg5 hat5)
            go_roundw
            case rel => exact ⟨k + 1, o ++ [⟨e.owner, e.number, x1, x2, e.clas, e.lastUse, e.distance, e.touched, true, e.dead, e.lockMachine, e.lockSerial⟩], A5, c5, by omega, by go_num, hide (by rw [HT.out, hc1.out, ho.out]; simp), by rw [List.length_append, List.length_singleton], by rw [List.length_append, List.length_singleton]; exact ho5, (show Below w1.heap.size w1 _ from below_of).trans hb5⟩
            case measure => simp [intOf]; omega
        · have hmk3 : isStubN (conL l) ⟨x1, x2⟩ = false := by rw [hmk]; simp [hk3]
          obtain rfl : wv = false := by rw [Hwv.out]; unfold weakP; rw [hmk3]; rfl
          have hc1 := hide (show cls1 (conL l) q' weak e = none by unfold cls1 keepP; rw [Hxe.out, ← Hwv.out, hmk3]; rfl)
          have hk3b : (m.kind == 3) = false := by simp [hk3]
          clear hmk hmk3
          go_upto_region 9 with (first | (go_at_call 19; refine (HFx _ inferInstance).mono ?_; rintro r w6 ⟨rfl, hb6⟩; have l6 := later hb6) | (go_at_call 28; refine (HWx _ inferInstance).mono ?_; rintro r w7 ⟨rfl, hb7⟩; have l7 := later hb7; have bn7 := (hb7.block _ (by simp)).trans (heap_alloc_new w6 _)))
          refine wp_name ?_
          intro w9 hw9
          have be9 : w9.heap[wr.heap.size]? = some (.cells #[.int .i64 e.owner, .int .u64 e.number, .int .i64 x1, .int .i64 x2, .int .i64 e.clas, .int .i64 e.lastUse, .int .i64 e.distance, .bool e.touched, .bool false, .bool e.dead, .int .i64 e.lockMachine, .int .i64 e.lockSerial] 61 (0, 0)) := by rw [← hw9]; exact (blk_set (BX w7).1 8 _).trans rfl
          have ho9 : Own StubE.cells 12 61 w1.heap.size w9 (.slice B o.length D) o := by rw [← hw9]; exact (hoo.later w7).far (p := ⟨wr.heap.size, 8, none⟩) (fun e => absurd (World.ownsRow.lt hoo _ e).2 (by simp)) _
          have hb9 : Below w1.heap.size w1 w9 := by rw [← hw9]; exact (show Below w1.heap.size w1 w7 from below_of).setCell hzr _
          have bn9 : w9.heap[w6.heap.size]? = some (.cells #[.int .i64 x1, .int .i64 x2, .int .i64 m.kind, .int .i64 m.clas, .slice m.A m.fields.length m.c] 64 (0, 0)) := by rw [← hw9]; exact (blk_far (k := w6.heap.size) (p := ⟨wr.heap.size, 8, none⟩) (by have := (show Below w5.heap.size w5 w6 from below_of).size; simp only; omega) _).trans bn7
          have l9 := later hb9
          have l99 : Later w9 w9 := Later.refl
          clear hw9 BX
          have BE := boxed be9
          have BN := boxed bn9
          go_wp2_with fail
          go_roundw
          case rel => exact ⟨k + 1, o, B, D, by omega, by go_num, hide (by rw [HT.out, hc1.out, ho.out]; simp), rfl, ho9.later _, below_of⟩
          case measure => simp [intOf]; omega
    · have hk' : k = es.length := by omega
      subst hk'
      have hof := hide (show o = clsL (conL l) q' weak es by rw [ho.out, List.take_length])
      go_wp2_with fail
      go_ret
      exact ⟨o, B, D, hof, rfl, hoo.mono (by have := (show Below w.heap.size w w0 from below_of).size; omega), below_of⟩
end Go.Proofs.Ytnfpbkimdhhmfaa
