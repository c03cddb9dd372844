/-
  Contracts of the functions of this seat that each theorem names: what a call returns, and that it writes nothing that was there before. The conditions stand in each theorem.
-/
import Derived.Test.YtnfpbkimdhhmfaaG30Strong
namespace Go.Proofs.Ytnfpbkimdhhmfaa
open Go.RowKit
attribute [local go_sem ↓] run_eql_id run_neq_id
attribute [local simp] heap_drew
attribute [local go_sem] Oper.semAt_some
set_option maxRecDepth 100000 in
set_option maxHeartbeats 8000000 in
theorem cls_any (A : Option Addr) (c : Nat) (l : List NodeE) (RA : Option Addr) (rc : Nat) (roots : List IDE) (WA : Option Addr) (wc : Nat) (weak : List IDE) (EA : Option Addr) (ec : Nat) (es : List StubE) (q : List IDE) (hq : ReachL (conL l) roots q) (w : World) (H : NodesAt w A l) (hR : SlAt IDE.cells 2 w RA roots) (hWk : SlAt IDE.cells 2 w WA weak) (hE : SlAt StubE.cells 12 w EA es) (hl : l.length ≤ 10000) (hf : ∀ n ∈ l, n.fields.length ≤ 10000) (hrl : roots.length ≤ 10000) (hwl : weak.length ≤ 10000) (hel : es.length ≤ 10000) :
    Calls Try.prog 12 #[.agg #[.slice A l.length c], .slice RA roots.length rc, .slice WA weak.length wc, .slice EA es.length ec] w (ClsPost (conL l) q weak es w) := by
  have HL := H.later
  have HWk : ∀ u [Later w u], SlAt IDE.cells 2 u WA weak := fun u i => hWk.below i.below
  have HR : ∀ u [Later w u], SlAt IDE.cells 2 u RA roots := fun u i => hR.below i.below
  have HE : ∀ u [Later w u], SlAt StubE.cells 12 u EA es := fun u i => hE.below i.below
  have hel' : es.length ≤ 9223372036854775807 := by omega
  have hql : q.length ≤ 10000 := by
    have h1 := reach_len (l := conL l) hq.1.nodup (fun x hx => firstN_ids.1 ((hq.2 x).1 hx).node)
    have h2 : (conL l).length = l.length := by unfold conL; rw [List.length_map]
    omega
  go_enter Try.func12, Try.ntmps12
  go_upto_region 1 with fail
  refine wp_name ?_
  intro w0 hw0
  obtain ⟨B0, l0⟩ := box1 hw0
  clear hw0
  go_upto_region 4 with (first
    | (go_at_call 16; refine (strong_any A c l RA rc roots _ (HL _) (HR _) hl hf hrl).mono ?_; rintro r w1 ⟨q', QA, Qc, hq', rfl, hoq, hb1⟩; have l1 := later hb1; have hqq : q' = q := hq'.unique hq; subst hqq; have HQ : ∀ u [Later w1 u], SlAt IDE.cells 2 u QA q' := (fun u i => ((hoq.below i.below).at_ IDE.enc).2.2); have l11 : Later w1 w1 := Later.refl)
    | (go_at_call 17; refine (weakStubs_any A c l QA Qc q' WA wc weak _ (HL _) (HQ _) (HWk _) hl hf hql hwl).mono ?_; rintro r w2 ⟨W, VA, Vc, hWq, rfl, hoW, hb2⟩; have l2 := later hb2; have HV : ∀ u [Later w2 u], SlAt IDE.cells 2 u VA W := (fun u i => ((hoW.below i.below).at_ IDE.enc).2.2); have l22 : Later w2 w2 := Later.refl; have hWl : W.length ≤ 10000 := (by rw [hWq.out]; exact Nat.le_trans weakI_len hl))
    | (go_at_call_has 25 (Value.slice VA W.length Vc); refine (set_any VA Vc W _ (HV _) (by omega)).mono ?_; rintro r w3 ⟨g3, rfl, hg3, hM3, hb3⟩; have l3 := later hb3)
    | (go_at_call_has 25 (Value.slice QA q'.length Qc); refine (set_any QA Qc q' _ (HQ _) (by omega)).mono ?_; rintro r w4 ⟨g4, rfl, hg4, hM4, hb4⟩; have l4 := later hb4))
  have hM3' := hM3.below hb4
  have hz14 : w.heap.size ≤ w4.heap.size := (show Below w.heap.size w w4 from below_of).size
  have l44 : Later w4 w4 := Later.refl
  have hsH : ∀ (x : IDE) (u : World) [Later w4 u], (Instr.lookup 79 (.map (some g3)) (.agg #[.int .i64 x.machine, .int .i64 x.serial]) false).run Try.prog u = .ok (.bool (weakP (conL l) q' weak x)) u := fun x u i => by
    have := run_look keyI Try.underlying79 zeroBool (hM3'.later u) x
    rw [memM_look, hWq.out, weakI_dec] at this
    exact this
  have hsQ : ∀ (x : IDE) (u : World) [Later w4 u], (Instr.lookup 79 (.map (some g4)) (.agg #[.int .i64 x.machine, .int .i64 x.serial]) false).run Try.prog u = .ok (.bool (decide (x ∈ q'))) u := fun x u i => by
    have := run_look keyI Try.underlying79 zeroBool (hM4.later u) x
    rw [memM_look] at this
    exact this
  have HF : ∀ (x : IDE) (u : World) [Later w u], Calls Try.prog 26 #[.agg #[.slice A l.length c], x.v] u (FindPost (conL l) x u) := fun x u j => find_any A c l x u (HL u) (by omega) (fun n hn => Nat.le_trans (hf n hn) (by omega))
  unfold FindPost at HF
  clear hq' HQ HV l11 l22 hM3 hM3' hM4
  go_wp2_with fail
  go_loopw [12, 29] (fun ov iv wr => ∃ (k : Nat) (o : List StubE) (B : Option Addr) (D : Nat), k ≤ es.length ∧ iv = .int .i64 k ∧ Hid (o = clsL (conL l) q' weak (es.take k)) ∧ ov = .slice B o.length D ∧ Own StubE.cells 12 61 w4.heap.size wr (.slice B o.length D) o ∧ Below w4.heap.size w4 wr) (fun _ iv _ => es.length - (intOf iv).toNat)
  case atStart => exact ⟨0, [], none, 0, by omega, rfl, hide rfl, rfl, Own.nil, below_of⟩
  case round =>
    obtain ⟨k, o, B, D, hk, rfl, ho, rfl, hoo, hbr⟩ := hrel
    have lr := later hbr
    have hzr := hbr.size
    have hol : o.length ≤ 10000 := by rw [ho.out]; exact Nat.le_trans clsL_len (by omega)
    by_cases hlt : k < es.length
    · obtain ⟨b1, o1, e, rfl, he, C1⟩ := StubE.get (HE wr) hlt
      have hki : (k : Int) < (es.length : Int) := by omega
      have HT := hide (clsL_take (L := conL l) (q := q') (weak := weak) he)
      clear he
      obtain ⟨x1, hx1⟩ : ∃ x1, x1 = e.iDMachine := ⟨_, rfl⟩
      obtain ⟨x2, hx2⟩ : ∃ x2, x2 = e.iDSerial := ⟨_, rfl⟩
      have Hxe := hide (show idS e = ⟨x1, x2⟩ by rw [hx1, hx2]; rfl)
      have hx1s := hx1.symm
      have hx2s := hx2.symm
      have HFx := fun (u : World) (i : Later w u) => HF ⟨x1, x2⟩ u
      have hsHx := fun (u : World) [Later w4 u] => hsH ⟨x1, x2⟩ u
      have hsQx := fun (u : World) [Later w4 u] => hsQ ⟨x1, x2⟩ u
      obtain ⟨wv, hwv⟩ : ∃ wv, wv = weakP (conL l) q' weak ⟨x1, x2⟩ := ⟨_, rfl⟩
      rw [← hwv] at hsHx
      have Hwv := hide hwv
      clear hwv hx1 hx2 HF hsH hsQ
      go_upto_region 8 with fail
      refine wp_name ?_
      intro w5 hw5
      obtain ⟨BX, l5⟩ := box1 hw5
      have hz5 : wr.heap.size < w5.heap.size := by rw [← hw5]; simp
      clear hw5
      have l55 : Later w5 w5 := Later.refl
      cases hfx : firstN (conL l) ⟨x1, x2⟩ with
      | none =>
        have hmk3 : isStubN (conL l) ⟨x1, x2⟩ = false := by unfold isStubN; rw [hfx]
        simp only [hfx, Option.getD_none, Option.isSome_none] at HFx
        obtain rfl : wv = false := by rw [Hwv.out]; unfold weakP; rw [hmk3]; rfl
        have hc1 := hide (show cls1 (conL l) q' weak e = none by unfold cls1 keepP; rw [Hxe.out, ← Hwv.out, hmk3]; rfl)
        clear hfx hmk3
        go_upto_region 10 with (go_at_call 26; refine (HFx _ inferInstance).mono ?_; rintro r w6 ⟨⟨m1, m2, mk, mc, mA, mp, mf⟩, rfl, hm, hF, hc1', hc2', hb6⟩; have hmk : mk = _ := congrArg NodeC.kind hm.out; subst hmk; have l6 := later hb6)
        refine wp_name ?_
        intro w9 hw9
        have be9 : w9.heap[wr.heap.size]? = some (.cells #[.int .i64 e.owner, .int .u64 e.number, .int .i64 x1, .int .i64 x2, .int .i64 e.clas, .int .i64 e.lastUse, .int .i64 e.distance, .bool e.touched, .bool false, .bool e.dead, .int .i64 e.lockMachine, .int .i64 e.lockSerial] 61 (0, 0)) := by rw [← hw9]; exact (blk_set (BX _).1 8 _).trans rfl
        have ho9 : Own StubE.cells 12 61 w4.heap.size w9 (.slice B o.length D) o := by rw [← hw9]; exact (hoo.later _).far (p := ⟨wr.heap.size, 8, none⟩) (fun e => absurd (World.ownsRow.lt hoo _ e).2 (by simp)) _
        have hb9 : Below w4.heap.size w4 w9 := by rw [← hw9]; exact (show Below w4.heap.size w4 _ from below_of).setCell hzr _
        have bn9 : w9.heap[w6.heap.size]? = some (.cells #[.int .i64 m1, .int .i64 m2, .int .i64 0, .int .i64 mc, .slice mA mf.length mp] 64 (0, 0)) := by rw [← hw9]; exact (blk_far (k := w6.heap.size) (p := ⟨wr.heap.size, 8, none⟩) (by have := (show Below w5.heap.size w5 w6 from below_of).size; simp only; omega) _).trans (heap_alloc_new w6 _)
        have l9 := later hb9
        have l99 : Later w9 w9 := Later.refl
        clear hw9 BX
        have BE := boxed be9
        have BN := boxed bn9
        go_wp2_with fail
        go_roundw
        case rel => exact ⟨k + 1, o, B, D, by omega, by go_num, hide (by rw [HT.out, hc1.out, ho.out]; simp), rfl, ho9.later _, below_of⟩
        case measure => simp [intOf]; omega
      | some nn =>
        have hmk : isStubN (conL l) ⟨x1, x2⟩ = (nn.kind == 3) := by unfold isStubN; rw [hfx]
        simp only [hfx, Option.getD_some, Option.isSome_some] at HFx
        clear hfx
        by_cases hk3 : nn.kind = 3
        · have hmk3 : isStubN (conL l) ⟨x1, x2⟩ = true := by rw [hmk, hk3]; rfl
          have hkeep : keepP (conL l) q' weak (idS e) = true → cls1 (conL l) q' weak e = some ⟨e.owner, e.number, x1, x2, e.clas, e.lastUse, e.distance, e.touched, wv, e.dead, e.lockMachine, e.lockSerial⟩ := fun h => by
            unfold cls1
            rw [if_pos h, Hxe.out, ← Hwv.out, ← hx1s, ← hx2s]
          have hkq : keepP (conL l) q' weak (idS e) = (wv || decide ((⟨x1, x2⟩ : IDE) ∈ q')) := by unfold keepP; rw [Hxe.out, ← Hwv.out, hmk3, Bool.true_and]
          have Hkeep := hide hkeep
          have Hkq := hide hkq
          clear hmk hmk3 hkeep hkq
          cases wv
          · by_cases hin : (⟨x1, x2⟩ : IDE) ∈ q'
            · have hc1 := hide (Hkeep.out (by rw [Hkq.out]; simp [hin]))
              simp only [hin, decide_true] at hsQx
              go_upto_region 10 with (go_at_call 26; refine (HFx _ inferInstance).mono ?_; rintro r w6 ⟨⟨m1, m2, mk, mc, mA, mp, mf⟩, rfl, hm, hF, hc1', hc2', hb6⟩; have hmk : mk = _ := congrArg NodeC.kind hm.out; subst hmk; have l6 := later hb6)
              refine wp_name ?_
              intro w9 hw9
              have be9 : w9.heap[wr.heap.size]? = some (.cells #[.int .i64 e.owner, .int .u64 e.number, .int .i64 x1, .int .i64 x2, .int .i64 e.clas, .int .i64 e.lastUse, .int .i64 e.distance, .bool e.touched, .bool false, .bool e.dead, .int .i64 e.lockMachine, .int .i64 e.lockSerial] 61 (0, 0)) := by rw [← hw9]; exact (blk_set (BX _).1 8 _).trans rfl
              have ho9 : Own StubE.cells 12 61 w4.heap.size w9 (.slice B o.length D) o := by rw [← hw9]; exact (hoo.later _).far (p := ⟨wr.heap.size, 8, none⟩) (fun e => absurd (World.ownsRow.lt hoo _ e).2 (by simp)) _
              have hb9 : Below w4.heap.size w4 w9 := by rw [← hw9]; exact (show Below w4.heap.size w4 _ from below_of).setCell hzr _
              have bn9 : w9.heap[w6.heap.size]? = some (.cells #[.int .i64 m1, .int .i64 m2, .int .i64 3, .int .i64 mc, .slice mA mf.length mp] 64 (0, 0)) := by rw [← hw9]; exact (blk_far (k := w6.heap.size) (p := ⟨wr.heap.size, 8, none⟩) (by have := (show Below w5.heap.size w5 w6 from below_of).size; simp only; omega) _).trans (heap_alloc_new w6 _)
              have l9 := later hb9
              have l99 : Later w9 w9 := Later.refl
              clear hw9 BX
              have BE := boxed be9
              have BN := boxed bn9
              go_upto_region 11 with fail
              go_wp2_with (at_builtin; refine wpList_app1 rfl (.tmp 61) (.tmp 63) rfl StubE.enc stubT ⟨e.owner, e.number, x1, x2, e.clas, e.lastUse, e.distance, e.touched, false, e.dead, e.lockMachine, e.lockSerial⟩ rfl rfl rfl (ho9.later _) (by rfl) (by omega) (by unfold maxLen; omega) (show Below w4.heap.size w4 _ from below_of).size ?_; intro A5 c5 w5' ho5 hm5 hb5 hg5 hat5)
              go_roundw
              case rel => exact ⟨k + 1, o ++ [⟨e.owner, e.number, x1, x2, e.clas, e.lastUse, e.distance, e.touched, false, e.dead, e.lockMachine, e.lockSerial⟩], A5, c5, by omega, by go_num, hide (by rw [HT.out, hc1.out, ho.out]; simp), by rw [List.length_append, List.length_singleton], by rw [List.length_append, List.length_singleton]; exact ho5, (show Below w4.heap.size w4 _ from below_of).trans hb5⟩
              case measure => simp [intOf]; omega
            · have hc1 := hide (show cls1 (conL l) q' weak e = none by unfold cls1; rw [if_neg (by rw [Hkq.out]; simp [hin])])
              simp only [hin, decide_false] at hsQx
              go_upto_region 10 with (go_at_call 26; refine (HFx _ inferInstance).mono ?_; rintro r w6 ⟨⟨m1, m2, mk, mc, mA, mp, mf⟩, rfl, hm, hF, hc1', hc2', hb6⟩; have hmk : mk = _ := congrArg NodeC.kind hm.out; subst hmk; have l6 := later hb6)
              refine wp_name ?_
              intro w9 hw9
              have be9 : w9.heap[wr.heap.size]? = some (.cells #[.int .i64 e.owner, .int .u64 e.number, .int .i64 x1, .int .i64 x2, .int .i64 e.clas, .int .i64 e.lastUse, .int .i64 e.distance, .bool e.touched, .bool false, .bool e.dead, .int .i64 e.lockMachine, .int .i64 e.lockSerial] 61 (0, 0)) := by rw [← hw9]; exact (blk_set (BX _).1 8 _).trans rfl
              have ho9 : Own StubE.cells 12 61 w4.heap.size w9 (.slice B o.length D) o := by rw [← hw9]; exact (hoo.later _).far (p := ⟨wr.heap.size, 8, none⟩) (fun e => absurd (World.ownsRow.lt hoo _ e).2 (by simp)) _
              have hb9 : Below w4.heap.size w4 w9 := by rw [← hw9]; exact (show Below w4.heap.size w4 _ from below_of).setCell hzr _
              have bn9 : w9.heap[w6.heap.size]? = some (.cells #[.int .i64 m1, .int .i64 m2, .int .i64 3, .int .i64 mc, .slice mA mf.length mp] 64 (0, 0)) := by rw [← hw9]; exact (blk_far (k := w6.heap.size) (p := ⟨wr.heap.size, 8, none⟩) (by have := (show Below w5.heap.size w5 w6 from below_of).size; simp only; omega) _).trans (heap_alloc_new w6 _)
              have l9 := later hb9
              have l99 : Later w9 w9 := Later.refl
              clear hw9 BX
              have BE := boxed be9
              have BN := boxed bn9
              go_wp2_with fail
              go_roundw
              case rel => exact ⟨k + 1, o, B, D, by omega, by go_num, hide (by rw [HT.out, hc1.out, ho.out]; simp), rfl, ho9.later _, below_of⟩
              case measure => simp [intOf]; omega
          · have hc1 := hide (Hkeep.out (by rw [Hkq.out]; simp))
            go_upto_region 10 with (go_at_call 26; refine (HFx _ inferInstance).mono ?_; rintro r w6 ⟨⟨m1, m2, mk, mc, mA, mp, mf⟩, rfl, hm, hF, hc1', hc2', hb6⟩; have hmk : mk = _ := congrArg NodeC.kind hm.out; subst hmk; have l6 := later hb6)
            refine wp_name ?_
            intro w9 hw9
            have be9 : w9.heap[wr.heap.size]? = some (.cells #[.int .i64 e.owner, .int .u64 e.number, .int .i64 x1, .int .i64 x2, .int .i64 e.clas, .int .i64 e.lastUse, .int .i64 e.distance, .bool e.touched, .bool true, .bool e.dead, .int .i64 e.lockMachine, .int .i64 e.lockSerial] 61 (0, 0)) := by rw [← hw9]; exact (blk_set (BX _).1 8 _).trans rfl
            have ho9 : Own StubE.cells 12 61 w4.heap.size w9 (.slice B o.length D) o := by rw [← hw9]; exact (hoo.later _).far (p := ⟨wr.heap.size, 8, none⟩) (fun e => absurd (World.ownsRow.lt hoo _ e).2 (by simp)) _
            have hb9 : Below w4.heap.size w4 w9 := by rw [← hw9]; exact (show Below w4.heap.size w4 _ from below_of).setCell hzr _
            have bn9 : w9.heap[w6.heap.size]? = some (.cells #[.int .i64 m1, .int .i64 m2, .int .i64 3, .int .i64 mc, .slice mA mf.length mp] 64 (0, 0)) := by rw [← hw9]; exact (blk_far (k := w6.heap.size) (p := ⟨wr.heap.size, 8, none⟩) (by have := (show Below w5.heap.size w5 w6 from below_of).size; simp only; omega) _).trans (heap_alloc_new w6 _)
            have l9 := later hb9
            have l99 : Later w9 w9 := Later.refl
            clear hw9 BX
            have BE := boxed be9
            have BN := boxed bn9
            go_upto_region 11 with fail
            go_wp2_with (at_builtin; refine wpList_app1 rfl (.tmp 61) (.tmp 63) rfl StubE.enc stubT ⟨e.owner, e.number, x1, x2, e.clas, e.lastUse, e.distance, e.touched, true, e.dead, e.lockMachine, e.lockSerial⟩ rfl rfl rfl (ho9.later _) (by rfl) (by omega) (by unfold maxLen; omega) (show Below w4.heap.size w4 _ from below_of).size ?_; intro A5 c5 w5' ho5 hm5 hb5 hg5 hat5)
            go_roundw
            case rel => exact ⟨k + 1, o ++ [⟨e.owner, e.number, x1, x2, e.clas, e.lastUse, e.distance, e.touched, true, e.dead, e.lockMachine, e.lockSerial⟩], A5, c5, by omega, by go_num, hide (by rw [HT.out, hc1.out, ho.out]; simp), by rw [List.length_append, List.length_singleton], by rw [List.length_append, List.length_singleton]; exact ho5, (show Below w4.heap.size w4 _ from below_of).trans hb5⟩
            case measure => simp [intOf]; omega
        · have hmk3 : isStubN (conL l) ⟨x1, x2⟩ = false := by rw [hmk]; simp [hk3]
          obtain rfl : wv = false := by rw [Hwv.out]; unfold weakP; rw [hmk3]; rfl
          have hc1 := hide (show cls1 (conL l) q' weak e = none by unfold cls1 keepP; rw [Hxe.out, ← Hwv.out, hmk3]; rfl)
          have hk3b : (nn.kind == 3) = false := by simp [hk3]
          clear hmk hmk3
          go_upto_region 10 with (go_at_call 26; refine (HFx _ inferInstance).mono ?_; rintro r w6 ⟨⟨m1, m2, mk, mc, mA, mp, mf⟩, rfl, hm, hF, hc1', hc2', hb6⟩; have hmk : mk = _ := congrArg NodeC.kind hm.out; subst hmk; have l6 := later hb6)
          refine wp_name ?_
          intro w9 hw9
          have be9 : w9.heap[wr.heap.size]? = some (.cells #[.int .i64 e.owner, .int .u64 e.number, .int .i64 x1, .int .i64 x2, .int .i64 e.clas, .int .i64 e.lastUse, .int .i64 e.distance, .bool e.touched, .bool false, .bool e.dead, .int .i64 e.lockMachine, .int .i64 e.lockSerial] 61 (0, 0)) := by rw [← hw9]; exact (blk_set (BX _).1 8 _).trans rfl
          have ho9 : Own StubE.cells 12 61 w4.heap.size w9 (.slice B o.length D) o := by rw [← hw9]; exact (hoo.later _).far (p := ⟨wr.heap.size, 8, none⟩) (fun e => absurd (World.ownsRow.lt hoo _ e).2 (by simp)) _
          have hb9 : Below w4.heap.size w4 w9 := by rw [← hw9]; exact (show Below w4.heap.size w4 _ from below_of).setCell hzr _
          have bn9 : w9.heap[w6.heap.size]? = some (.cells #[.int .i64 m1, .int .i64 m2, .int .i64 nn.kind, .int .i64 mc, .slice mA mf.length mp] 64 (0, 0)) := by rw [← hw9]; exact (blk_far (k := w6.heap.size) (p := ⟨wr.heap.size, 8, none⟩) (by have := (show Below w5.heap.size w5 w6 from below_of).size; simp only; omega) _).trans (heap_alloc_new w6 _)
          have l9 := later hb9
          have l99 : Later w9 w9 := Later.refl
          clear hw9 BX
          have BE := boxed be9
          have BN := boxed bn9
          go_wp2_with fail
          go_roundw
          case rel => exact ⟨k + 1, o, B, D, by omega, by go_num, hide (by rw [HT.out, hc1.out, ho.out]; simp), rfl, ho9.later _, below_of⟩
          case measure => simp [intOf]; omega
    · have hk' : k = es.length := by omega
      subst hk'
      have hof := hide (show o = clsL (conL l) q' weak es by rw [ho.out, List.take_length])
      go_wp2_with fail
      go_ret
      exact ⟨o, B, D, hof, rfl, hoo.mono hz14, below_of⟩
end Go.Proofs.Ytnfpbkimdhhmfaa
