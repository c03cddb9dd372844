/-
  Contracts of the functions of this seat that each theorem names: what a call returns, and that it writes nothing that was there before. The conditions stand in each theorem.
-/
import Derived.Test.YtffnogjgnpbjlaaGrp15
import Derived.Test.YtffnogjgnpbjlaaGFind
import Derived.Test.YtffnogjgnpbjlaaOwnLib
import Derived.Deep.RegionHeld3
set_option linter.unusedSimpArgs false
set_option linter.unusedVariables false
namespace Go.Proofs.Ytffnogjgnpbjlaa
open Go.RowKit
attribute [local go_sem ↓] run_eql_id run_neq_id
attribute [local simp] heap_drew
def lenV (v : Value) : Nat := match v with | .slice _ n _ => n | _ => 0
/-- What the first k fields of a node refer to. -/
def refsTo (n : List ValE) (k : Nat) : List IDE := ((n.take k).filter fun v => v.kind == 2).map ValE.ref
theorem refsTo_succ {n : List ValE} {k : Nat} {v : ValE} (h : n[k]? = some v) : refsTo n (k + 1) = refsTo n k ++ (if v.kind = 2 then [v.ref] else []) := by
  unfold refsTo
  rw [take_snoc_get h, List.filter_append, List.map_append]
  by_cases hk : v.kind = 2 <;> simp [hk]
theorem refsTo_len (n : List ValE) (k : Nat) : (refsTo n k).length ≤ k := by
  unfold refsTo
  rw [List.length_map]
  exact Nat.le_trans (List.length_filter_le _ _) (by rw [List.length_take]; omega)
theorem refsTo_all {n : NodeC} (h : n.kind ≠ 2) : refsTo n.fields n.fields.length = refsOf n := by
  unfold refsTo refsOf
  rw [if_neg h, List.take_length]
/-- What a search gives: the reached identities, in a slice of the call's own. -/
def ReachPost (L : List NodeC) (roots : List IDE) (w : World) (r : Ending) (w' : World) : Prop := ∃ q A c, ReachL L roots q ∧ r = .returned (.slice A q.length c) ∧ Own IDE.cells 2 46 w.heap.size w' (.slice A q.length c) q ∧ Below w.heap.size w w'
theorem reach_in {L : List NodeC} {roots O T : List IDE} (h : DInv L roots O T) : ∀ x ∈ O, x ∈ ids L := fun x hx => firstN_ids.1 (h.sound x hx).node
theorem putI_new {l : List IDE} {x : IDE} (h : x ∉ l) : (putI l x).length = l.length + 1 := by
  unfold putI
  have := cntI_le x l
  rw [if_neg (fun e => h (List.mem_of_getElem? e))]
  simp only [List.length_append, List.length_take, List.length_drop, List.length_singleton]; omega
theorem drop_app {α : Type} {T R : List α} {i : Nat} (h : i ≤ T.length) (y : α) : y ∈ (T ++ R).drop i ↔ y ∈ T.drop i ∨ y ∈ R := by
  rw [List.drop_append_of_le_length h, List.mem_append]
theorem refsTo_zero (n : List ValE) : refsTo n 0 = [] := rfl
/-! The visit is over. -/
/-! The search visits x (node m), whose box is g; w8 the world. -/
set_option maxRecDepth 100000 in
set_option maxHeartbeats 8000000 in
theorem reach16_any (A : Option Addr) (c : Nat) (l : List NodeE) (RA : Option Addr) (rc : Nat) (roots : List IDE) (w : World) (H : NodesAt w A l) (hs : SlAt IDE.cells 2 w RA roots) (hl : l.length ≤ 10000) (hf : ∀ n ∈ l, n.fields.length ≤ 10000) (hr : roots.length ≤ 10000) :
    Calls Try.prog 36 #[.agg #[.slice A l.length c], .slice RA roots.length rc] w (ReachPost (conL l) roots w) := by
  have HL := H.later
  have HR : ∀ u [Later w u], SlAt IDE.cells 2 u RA roots := fun u i => hs.below i.below
  have hll : (conL l).length = l.length := by unfold conL; rw [List.length_map]
  go_enter Try.func36, Try.ntmps36
  go_upto_region 1 with fail
  refine wp_name ?_
  intro w0 hw0
  obtain ⟨B0, l0⟩ := box1 hw0
  have hz0 : w.heap.size < w0.heap.size := by rw [← hw0]; simp
  clear hw0
  go_upto_region 2 with fail
  refine wp_name ?_
  intro w2 hw2
  have hoE2 : Own IDE.cells 2 46 w0.heap.size w2 (.slice (some ⟨w0.heap.size, 0, none⟩) 0 0) ([] : List IDE) := by rw [← hw2]; exact Own.empty (Nat.le_refl _)
  have hb02 : Below w0.heap.size w0 w2 := by rw [← hw2]; exact (Below.refl _ _).alloc (Nat.le_refl _) _
  have hz2 := hide (show w2.heap.size = w0.heap.size + 1 by rw [← hw2]; simp)
  have l2 := later hb02
  clear hw2
  go_wp2_with (at_builtin; refine wpList_appE rfl (.tmp 12) (.tmp 13) rfl IDE.enc idT _ _ roots rfl rfl (HR _) (by omega) (by unfold maxLen; omega) ?_; intro A' c' w1 ho1 hm1 hb1)
  have hb01 : Below w0.heap.size w0 w1 := hb02.trans (hb1.mono hb02.size)
  have l1 := later hb01
  have hoE := hoE2.below hb1
  have hap : Apart (.slice (some ⟨w0.heap.size, 0, none⟩) 0 0) (.slice A' roots.length c') := (apart_fresh hoE2 ho1 (Nat.le_refl _)).symm
  have hoT : Own IDE.cells 2 46 w0.heap.size w1 (.slice A' roots.length c') roots := ho1.mono hb02.size
  clear ho1 hb1 hoE2
  go_loopw [5, 6, 7] (fun ov tv iv wr => ∃ (i : Nat) (O T : List IDE) (OA TA : Option Addr) (Oc Tc : Nat), i ≤ T.length ∧ iv = .int .i64 i ∧ ov = .slice OA O.length Oc ∧ tv = .slice TA T.length Tc ∧ SortedI O ∧ DInv (conL l) roots O (T.drop i) ∧ T.length ≤ 10000 + O.length * 10000 ∧
      Own IDE.cells 2 46 w0.heap.size wr (.slice OA O.length Oc) O ∧ Own IDE.cells 2 46 w0.heap.size wr (.slice TA T.length Tc) T ∧ Apart (.slice OA O.length Oc) (.slice TA T.length Tc) ∧ Below w0.heap.size w0 wr) (fun ov tv iv _ => (l.length - lenV ov) * 20000 + (lenV tv - (intOf iv).toNat))
  case atStart => exact ⟨0, [], roots, _, _, _, _, by omega, rfl, rfl, rfl, List.Pairwise.nil, DInv.start _ _, by simp; omega, hoE, hoT, hap, hb01⟩
  case round =>
    obtain ⟨i, O, T, OA, TA, Oc, Tc, hi, rfl, rfl, rfl, hso, hinv, htl, hoO, hoTT, hap, hbr⟩ := hrel
    have lr := later hbr
    have hOn := reach_len (l := conL l) hso.nodup (reach_in hinv)
    rw [hll] at hOn
    have htl' : T.length ≤ 1000000000 := by omega
    have htl2 : T.length ≤ 9223372036854775807 := by omega
    have HT : ∀ u [Later wr u], SlAt IDE.cells 2 u TA T := fun u j => ((hoTT.below j.below).at_ IDE.enc).2.2
    have HO : ∀ u [Later wr u], SlAt IDE.cells 2 u OA O := fun u j => ((hoO.below j.below).at_ IDE.enc).2.2
    by_cases hlt : i < T.length
    · obtain ⟨b1, o1, x, rfl, hx, C1⟩ := IDE.get (HT wr) hlt
      have hdr : ∀ y, y ∈ T.drop i ↔ y = x ∨ y ∈ T.drop (i + 1) := fun y => by
        rw [List.drop_eq_getElem_cons hlt, List.mem_cons, (List.getElem?_eq_some_iff.1 hx).2]
      have Hdr := hide hdr
      have Hso := hide hso
      have Hinv := hide hinv
      have hti : (i : Int) < (T.length : Int) := by omega
      clear hx hdr hso hinv
      have HF : ∀ u [Later w u], Calls Try.prog 30 #[.agg #[.slice A l.length c], x.v] u (Find16Post l x u) := fun u j => find16_any A c l x u (HL u) (by omega)
      unfold Find16Post at HF
      cases hfx : firstE l x with
      | none =>
        simp only [hfx, Option.getD_none, Option.isSome_none, zeroN] at HF
        have hfn := hide (show firstN (conL l) x = none by rw [firstE_N, hfx]; rfl)
        clear hfx
        go_upto_region 6 with fail
        go_region_held3 (fun w' => ∀ b [Later b wr], Later b w') ((intro b hb; first | infer_instance | (have hsz := hb.below.size; have h7 : Below b.heap.size b w7 := below_of; exact ⟨(by repeat (first | with_reducible exact h7 | with_reducible exact Below.refl _ _ | (with_reducible refine Below.drew ?_) | (with_reducible refine below_drewN ?_ _) | (with_reducible refine Below.alloc ?_ ?_ _; rotate_left; (first | omega | (simp <;> omega))) | (with_reducible refine Below.setCell ?_ ?_ _; rotate_left; (first | omega | (simp <;> omega)))))⟩))) ((go_at_call 30; refine (HF _).mono ?_; rintro r w7 ⟨rfl, hb7⟩; have l7 := later hb7; try (have bx7 : w7.heap[wr.heap.size]? = some (.cells #[.int .i64 0, .int .i64 0, .int .i64 0, .int .i64 0, .slice none 0 0] 56 (0, 0)) := (hb7.block _ (by simp [heap_drew])).trans (heap_alloc_new wr _); have BX7 := boxed bx7)))
        all_goals go_wp2_with fail
        all_goals go_roundw
        all_goals first
          | (exact ⟨i + 1, O, T, _, _, _, _, by omega, by go_num, rfl, rfl, Hso.out, Hinv.out.skip Hdr.out (fun h => by rw [hfn.out] at h; cases h), htl, hoO.later _, hoTT.later _, hap, below_of⟩)
          | (simp [intOf, lenV]; omega)
      | some m =>
        simp only [hfx, Option.getD_some, Option.isSome_some] at HF
        obtain ⟨hml, hmid⟩ := firstE_some hfx
        have hfn := hide (show firstN (conL l) x = some m.con by rw [firstE_N, hfx]; rfl)
        have hx1 : m.iDMachine = x.machine := congrArg IDE.machine hmid
        have hx2 : m.iDSerial = x.serial := congrArg IDE.serial hmid
        clear hfx
        go_upto_region 6 with fail
        go_region_held3 (fun w' => ∀ b [Later b wr], Later b w') ((intro b hb; first | infer_instance | (have hsz := hb.below.size; have h7 : Below b.heap.size b w7 := below_of; exact ⟨(by repeat (first | with_reducible exact h7 | with_reducible exact Below.refl _ _ | (with_reducible refine Below.drew ?_) | (with_reducible refine below_drewN ?_ _) | (with_reducible refine Below.alloc ?_ ?_ _; rotate_left; (first | omega | (simp <;> omega))) | (with_reducible refine Below.setCell ?_ ?_ _; rotate_left; (first | omega | (simp <;> omega)))))⟩))) ((go_at_call 30; refine (HF _).mono ?_; rintro r w7 ⟨rfl, hb7⟩; have l7 := later hb7; try (have bx7 : w7.heap[wr.heap.size]? = some (.cells #[.int .i64 0, .int .i64 0, .int .i64 0, .int .i64 0, .slice none 0 0] 56 (0, 0)) := (hb7.block _ (by simp [heap_drew])).trans (heap_alloc_new wr _); have BX7 := boxed bx7)))
        all_goals go_upto_region 7 with fail
        all_goals refine wp_name ?_
        all_goals intro w8 hw8
        all_goals have h7 : Below wr.heap.size wr w7 := below_of
        · have bx : w8.heap[w7.heap.size]? = some (.cells #[.int .i64 x.machine, .int .i64 x.serial, .int .i64 m.kind, .int .i64 m.clas, .slice m.A m.fields.length m.c] 56 (0, 0)) := by rw [← hw8]; exact heap_alloc_new w7 _
          have hgz : wr.heap.size ≤ w7.heap.size := h7.size
          have hb8 : Below wr.heap.size wr w8 := by rw [← hw8]; exact (by repeat (first | with_reducible exact h7 | with_reducible exact Below.refl _ _ | (with_reducible refine Below.drew ?_) | (with_reducible refine below_drewN ?_ _) | (with_reducible refine Below.alloc ?_ ?_ _; rotate_left; (first | omega | (simp <;> omega))) | (with_reducible refine Below.setCell ?_ ?_ _; rotate_left; (first | omega | (simp <;> omega)))))
          clear hw8 h7 l7 hb7
          have l8 := later hb8
          have BN := boxed bx
          have hid := hide (show x ∈ ids (conL l) from firstN_ids.1 (by rw [hfn.out]; rfl))
          have HH : ∀ u [Later wr u], Calls Try.prog 56 #[.slice OA O.length Oc, x.v] u fun r w' => r = .returned (.bool (decide (x ∈ O))) ∧ Below u.heap.size u w' := fun u j => hasID_any OA Oc O x u (HO u) (by omega)
          have HP : ∀ u [Later wr u], Calls Try.prog 57 #[.slice OA O.length Oc, x.v] u (PutPost OA Oc O (putI O x) u) := fun u j => putID_any OA Oc O x u (HO u) (by omega) (hoO.at_ IDE.enc).2.1 hoO.cap_le
          by_cases hin : x ∈ O
          · simp only [hin, decide_true] at HH
            go_wp2_with (go_at_call 56; refine (HH _).mono ?_; rintro r w9 ⟨rfl, hb9⟩; have l9 := later hb9)
            go_roundw
            case rel => exact ⟨i + 1, O, T, _, _, _, _, by omega, by go_num, rfl, rfl, Hso.out, Hinv.out.skip Hdr.out (fun _ => hin), htl, hoO.later _, hoTT.later _, hap, below_of⟩
            case measure => simp [intOf, lenV]; omega
          · simp only [hin, decide_false] at HH
            go_wp2_with (first | (go_at_call 56; refine (HH _).mono ?_; rintro r w9 ⟨rfl, hb9⟩; have l9 := later hb9) | (go_at_call 57; refine (HP _).mono ?_; rintro r w10 ⟨q, QA, Qc, hq, rfl, hor, hb10⟩; have l10 := later hb10))
            have hb0x : Below w0.heap.size w0 w10 := below_of
            have hoQ : Own IDE.cells 2 46 w0.heap.size w10 (.slice QA q.length Qc) q ∧ Apart (.slice QA q.length Qc) (.slice (some ⟨b1, o1, none⟩) T.length Tc) := by
              rcases hor with ⟨rfl, rfl, rfl⟩ | ho
              · exact ⟨hoO.later _, hap⟩
              · exact ⟨ho.mono (show Below w0.heap.size w0 _ from below_of).size, apart_fresh hoTT ho (show Below wr.heap.size wr _ from below_of).size⟩
            obtain ⟨hoQ1, hoQ2⟩ := hoQ
            have hoT1 := hoTT.later w10
            have bx1 : w10.heap[w7.heap.size]? = some (.cells #[.int .i64 x.machine, .int .i64 x.serial, .int .i64 m.kind, .int .i64 m.clas, .slice m.A m.fields.length m.c] 56 (0, 0)) := (BN w10).1
            have hql := hide (show q.length = O.length + 1 by rw [hq.out]; exact putI_new hin)
            have hON := hide (show O.length < l.length by rw [← hll]; exact reach_room Hso.out.nodup (reach_in Hinv.out) hid.out hin)
            have hqm := hide (show ∀ y, y ∈ q ↔ y = x ∨ y ∈ O by intro y; rw [hq.out]; exact putI_mem)
            have hqs := hide (show SortedI q by rw [hq.out]; exact putI_sorted Hso.out x)
            have hmf := hf m hml
            have HFd : ∀ u [Later w u], SlAt ValE.cells 4 u m.A m.fields := fun u j => (HL u).f m hml
            clear hor hoO hoTT hb10 l10 hb9 l9 hb8 l8 bx BN HH HP HT HO HF C1 hq hin
            go_loopw [6, 10] (fun tv kv w3 => ∃ (k : Nat) (TB : Option Addr) (Td : Nat) (T' : List IDE), k ≤ m.fields.length ∧ kv = .int .i64 k ∧ (m.kind = 2 → k = 0) ∧ Hid (T' = T ++ refsTo m.fields k) ∧ tv = .slice TB T'.length Td ∧ Own IDE.cells 2 46 w0.heap.size w3 (.slice TB T'.length Td) T' ∧
                Own IDE.cells 2 46 w0.heap.size w3 (.slice QA q.length Qc) q ∧ Apart (.slice QA q.length Qc) (.slice TB T'.length Td) ∧ w3.heap[w7.heap.size]? = some (.cells #[.int .i64 x.machine, .int .i64 x.serial, .int .i64 m.kind, .int .i64 m.clas, .slice m.A m.fields.length m.c] 56 (0, 0)) ∧ Below w0.heap.size w0 w3) (fun _ kv _ => m.fields.length - (intOf kv).toNat)
            case atStart => exact ⟨0, _, _, T, by omega, rfl, fun _ => rfl, hide (by rw [refsTo_zero, List.append_nil]), rfl, hoT1, hoQ1, hoQ2, bx1, hb0x⟩
            case round =>
              obtain ⟨k, TB, Td, T', hk, rfl, hkz, hT', rfl, hoT, hoQ, hap3, bx3, hbr3⟩ := hrel
              have lr3 := later hbr3
              have BX3 := boxed bx3
              have hT'l := hide (show T'.length ≤ T.length + k by rw [hT'.out, List.length_append]; have := refsTo_len m.fields k; omega)
              have hT'i := hide (show i + 1 ≤ T.length by omega)
              have hT'g := hide (show T.length ≤ T'.length by rw [hT'.out, List.length_append]; omega)
              by_cases hk2 : m.kind = 2
              · have hk0 : k = 0 := hkz hk2
                subst hk0
                have hTr := hide (show ∀ y, y ∈ T'.drop (i + 1) ↔ y ∈ T.drop (i + 1) ∨ y ∈ refsOf m.con from fun y => by
                  rw [hT'.out]
                  exact (drop_app hT'i.out y).trans (by rw [show refsOf m.con = [] from if_pos hk2, refsTo_zero]))
                by_cases hlt2 : 0 < m.fields.length
                · go_wp2_with fail
                  go_roundw
                  case rel => exact ⟨i + 1, q, T', _, _, _, _, by have := hT'g.out; have := hT'i.out; omega, by go_num, rfl, rfl, hqs.out, Hinv.out.visit Hdr.out hfn.out hqm.out hTr.out, by have := hT'l.out; have := hql.out; omega, hoQ.later _, hoT.later _, hap3, below_of⟩
                  case measure =>
                    have h1 := hT'l.out
                    have h2 := hql.out
                    have h3 := hON.out
                    have h4 := hT'i.out
                    simp [intOf, lenV]; omega
                · have hl0 : m.fields.length = 0 := by omega
                  go_wp2_with fail
                  go_roundw
                  case rel => exact ⟨i + 1, q, T', _, _, _, _, by have := hT'g.out; have := hT'i.out; omega, by go_num, rfl, rfl, hqs.out, Hinv.out.visit Hdr.out hfn.out hqm.out hTr.out, by have := hT'l.out; have := hql.out; omega, hoQ.later _, hoT.later _, hap3, below_of⟩
                  case measure =>
                    have h1 := hT'l.out
                    have h2 := hql.out
                    have h3 := hON.out
                    have h4 := hT'i.out
                    simp [intOf, lenV]; omega
              · have hk2b : (m.kind != 2) = true := by simp [hk2]
                by_cases hlt2 : k < m.fields.length
                · obtain ⟨b2, o2, v, hA2, hv, C2⟩ := ValE.get (HFd wr) hlt2
                  have hki : (k : Int) < (m.fields.length : Int) := by omega
                  have hS := hide (refsTo_succ hv)
                  clear hv
                  by_cases hv2 : v.kind = 2
                  · have hTn := hide (show T' ++ [v.ref] = T ++ refsTo m.fields (k + 1) by rw [hS.out, hT'.out, if_pos hv2, List.append_assoc])
                    have hTl := hide (show T'.length + 1 = (T' ++ [v.ref]).length by simp)
                    go_wp2_with (at_builtin; refine wpList_app1 rfl (.tmp 61) (.tmp 68) rfl IDE.enc idT v.ref rfl rfl rfl (hoT.later _) (by rfl) (by have := hT'l.out; omega) (by unfold maxLen; have := hT'l.out; omega) (show Below w0.heap.size w0 _ from below_of).size ?_; intro A5 c5 w5 ho5 hm5 hb5 hg5 hat5)
                    go_roundw
                    case rel =>
                      have hst : Step wr w5 (.slice TB T'.length Td) (.slice A5 (T'.length + 1) c5) := (Step.of_below (below_of (b := wr))).trans ⟨hg5, hat5⟩
                      have hq5 := hst.own hoQ hap3.symm
                      exact ⟨k + 1, A5, c5, T' ++ [v.ref], by omega, by go_num, fun e => absurd e hk2, hTn, by rw [← hTl.out], by rw [← hTl.out]; exact ho5, hq5.1, by rw [← hTl.out]; exact hq5.2.symm, hst.keep hoT bx3 (by decide), (show Below w0.heap.size w0 _ from below_of).trans hb5⟩
                    case measure => simp [intOf]; omega
                  · have hTn := hide (show T' = T ++ refsTo m.fields (k + 1) by rw [hS.out, hT'.out, if_neg hv2, List.append_nil])
                    go_wp2_with fail
                    go_roundw
                    case rel => exact ⟨k + 1, TB, Td, T', by omega, by go_num, fun e => absurd e hk2, hTn, rfl, hoT.later _, hoQ.later _, hap3, (BX3 _).1, below_of⟩
                    case measure => simp [intOf]; omega
                · have hk' : k = m.fields.length := by omega
                  subst hk'
                  have hTr := hide (show ∀ y, y ∈ T'.drop (i + 1) ↔ y ∈ T.drop (i + 1) ∨ y ∈ refsOf m.con from fun y => by
                    rw [hT'.out]
                    exact (drop_app hT'i.out y).trans (by rw [← refsTo_all (n := m.con) hk2]; rfl))
                  go_wp2_with fail
                  go_roundw
                  case rel => exact ⟨i + 1, q, T', _, _, _, _, by have := hT'g.out; have := hT'i.out; omega, by go_num, rfl, rfl, hqs.out, Hinv.out.visit Hdr.out hfn.out hqm.out hTr.out, by have := hT'l.out; have := hql.out; omega, hoQ.later _, hoT.later _, hap3, below_of⟩
                  case measure =>
                    have h1 := hT'l.out
                    have h2 := hql.out
                    have h3 := hON.out
                    have h4 := hT'i.out
                    simp [intOf, lenV]; omega
        · have bx : w8.heap[wr.heap.size]? = some (.cells #[.int .i64 x.machine, .int .i64 x.serial, .int .i64 m.kind, .int .i64 m.clas, .slice m.A m.fields.length m.c] 56 (0, 0)) := by rw [← hw8]; exact (blk_set (blk_set (blk_set (blk_set (blk_set (BX7 w7).1 0 _) 1 _) 2 _) 3 _) 4 _).trans rfl
          have hb8 : Below wr.heap.size wr w8 := by rw [← hw8]; exact (by repeat (first | with_reducible exact h7 | with_reducible exact Below.refl _ _ | (with_reducible refine Below.drew ?_) | (with_reducible refine below_drewN ?_ _) | (with_reducible refine Below.alloc ?_ ?_ _; rotate_left; (first | omega | (simp <;> omega))) | (with_reducible refine Below.setCell ?_ ?_ _; rotate_left; (first | omega | (simp <;> omega)))))
          have hgz : wr.heap.size ≤ wr.heap.size := Nat.le_refl _
          clear hw8 h7 l7 hb7
          have l8 := later hb8
          have BN := boxed bx
          have hid := hide (show x ∈ ids (conL l) from firstN_ids.1 (by rw [hfn.out]; rfl))
          have HH : ∀ u [Later wr u], Calls Try.prog 56 #[.slice OA O.length Oc, x.v] u fun r w' => r = .returned (.bool (decide (x ∈ O))) ∧ Below u.heap.size u w' := fun u j => hasID_any OA Oc O x u (HO u) (by omega)
          have HP : ∀ u [Later wr u], Calls Try.prog 57 #[.slice OA O.length Oc, x.v] u (PutPost OA Oc O (putI O x) u) := fun u j => putID_any OA Oc O x u (HO u) (by omega) (hoO.at_ IDE.enc).2.1 hoO.cap_le
          by_cases hin : x ∈ O
          · simp only [hin, decide_true] at HH
            go_wp2_with (go_at_call 56; refine (HH _).mono ?_; rintro r w9 ⟨rfl, hb9⟩; have l9 := later hb9)
            go_roundw
            case rel => exact ⟨i + 1, O, T, _, _, _, _, by omega, by go_num, rfl, rfl, Hso.out, Hinv.out.skip Hdr.out (fun _ => hin), htl, hoO.later _, hoTT.later _, hap, below_of⟩
            case measure => simp [intOf, lenV]; omega
          · simp only [hin, decide_false] at HH
            go_wp2_with (first | (go_at_call 56; refine (HH _).mono ?_; rintro r w9 ⟨rfl, hb9⟩; have l9 := later hb9) | (go_at_call 57; refine (HP _).mono ?_; rintro r w10 ⟨q, QA, Qc, hq, rfl, hor, hb10⟩; have l10 := later hb10))
            have hb0x : Below w0.heap.size w0 w10 := below_of
            have hoQ : Own IDE.cells 2 46 w0.heap.size w10 (.slice QA q.length Qc) q ∧ Apart (.slice QA q.length Qc) (.slice (some ⟨b1, o1, none⟩) T.length Tc) := by
              rcases hor with ⟨rfl, rfl, rfl⟩ | ho
              · exact ⟨hoO.later _, hap⟩
              · exact ⟨ho.mono (show Below w0.heap.size w0 _ from below_of).size, apart_fresh hoTT ho (show Below wr.heap.size wr _ from below_of).size⟩
            obtain ⟨hoQ1, hoQ2⟩ := hoQ
            have hoT1 := hoTT.later w10
            have bx1 : w10.heap[wr.heap.size]? = some (.cells #[.int .i64 x.machine, .int .i64 x.serial, .int .i64 m.kind, .int .i64 m.clas, .slice m.A m.fields.length m.c] 56 (0, 0)) := (BN w10).1
            have hql := hide (show q.length = O.length + 1 by rw [hq.out]; exact putI_new hin)
            have hON := hide (show O.length < l.length by rw [← hll]; exact reach_room Hso.out.nodup (reach_in Hinv.out) hid.out hin)
            have hqm := hide (show ∀ y, y ∈ q ↔ y = x ∨ y ∈ O by intro y; rw [hq.out]; exact putI_mem)
            have hqs := hide (show SortedI q by rw [hq.out]; exact putI_sorted Hso.out x)
            have hmf := hf m hml
            have HFd : ∀ u [Later w u], SlAt ValE.cells 4 u m.A m.fields := fun u j => (HL u).f m hml
            clear hor hoO hoTT hb10 l10 hb9 l9 hb8 l8 bx BN HH HP HT HO HF C1 hq hin
            go_loopw [6, 10] (fun tv kv w3 => ∃ (k : Nat) (TB : Option Addr) (Td : Nat) (T' : List IDE), k ≤ m.fields.length ∧ kv = .int .i64 k ∧ (m.kind = 2 → k = 0) ∧ Hid (T' = T ++ refsTo m.fields k) ∧ tv = .slice TB T'.length Td ∧ Own IDE.cells 2 46 w0.heap.size w3 (.slice TB T'.length Td) T' ∧
                Own IDE.cells 2 46 w0.heap.size w3 (.slice QA q.length Qc) q ∧ Apart (.slice QA q.length Qc) (.slice TB T'.length Td) ∧ w3.heap[wr.heap.size]? = some (.cells #[.int .i64 x.machine, .int .i64 x.serial, .int .i64 m.kind, .int .i64 m.clas, .slice m.A m.fields.length m.c] 56 (0, 0)) ∧ Below w0.heap.size w0 w3) (fun _ kv _ => m.fields.length - (intOf kv).toNat)
            case atStart => exact ⟨0, _, _, T, by omega, rfl, fun _ => rfl, hide (by rw [refsTo_zero, List.append_nil]), rfl, hoT1, hoQ1, hoQ2, bx1, hb0x⟩
            case round =>
              obtain ⟨k, TB, Td, T', hk, rfl, hkz, hT', rfl, hoT, hoQ, hap3, bx3, hbr3⟩ := hrel
              have lr3 := later hbr3
              have BX3 := boxed bx3
              have hT'l := hide (show T'.length ≤ T.length + k by rw [hT'.out, List.length_append]; have := refsTo_len m.fields k; omega)
              have hT'i := hide (show i + 1 ≤ T.length by omega)
              have hT'g := hide (show T.length ≤ T'.length by rw [hT'.out, List.length_append]; omega)
              by_cases hk2 : m.kind = 2
              · have hk0 : k = 0 := hkz hk2
                subst hk0
                have hTr := hide (show ∀ y, y ∈ T'.drop (i + 1) ↔ y ∈ T.drop (i + 1) ∨ y ∈ refsOf m.con from fun y => by
                  rw [hT'.out]
                  exact (drop_app hT'i.out y).trans (by rw [show refsOf m.con = [] from if_pos hk2, refsTo_zero]))
                by_cases hlt2 : 0 < m.fields.length
                · go_wp2_with fail
                  go_roundw
                  case rel => exact ⟨i + 1, q, T', _, _, _, _, by have := hT'g.out; have := hT'i.out; omega, by go_num, rfl, rfl, hqs.out, Hinv.out.visit Hdr.out hfn.out hqm.out hTr.out, by have := hT'l.out; have := hql.out; omega, hoQ.later _, hoT.later _, hap3, below_of⟩
                  case measure =>
                    have h1 := hT'l.out
                    have h2 := hql.out
                    have h3 := hON.out
                    have h4 := hT'i.out
                    simp [intOf, lenV]; omega
                · have hl0 : m.fields.length = 0 := by omega
                  go_wp2_with fail
                  go_roundw
                  case rel => exact ⟨i + 1, q, T', _, _, _, _, by have := hT'g.out; have := hT'i.out; omega, by go_num, rfl, rfl, hqs.out, Hinv.out.visit Hdr.out hfn.out hqm.out hTr.out, by have := hT'l.out; have := hql.out; omega, hoQ.later _, hoT.later _, hap3, below_of⟩
                  case measure =>
                    have h1 := hT'l.out
                    have h2 := hql.out
                    have h3 := hON.out
                    have h4 := hT'i.out
                    simp [intOf, lenV]; omega
              · have hk2b : (m.kind != 2) = true := by simp [hk2]
                by_cases hlt2 : k < m.fields.length
                · obtain ⟨b2, o2, v, hA2, hv, C2⟩ := ValE.get (HFd wr) hlt2
                  have hki : (k : Int) < (m.fields.length : Int) := by omega
                  have hS := hide (refsTo_succ hv)
                  clear hv
                  by_cases hv2 : v.kind = 2
                  · have hTn := hide (show T' ++ [v.ref] = T ++ refsTo m.fields (k + 1) by rw [hS.out, hT'.out, if_pos hv2, List.append_assoc])
                    have hTl := hide (show T'.length + 1 = (T' ++ [v.ref]).length by simp)
                    go_wp2_with (at_builtin; refine wpList_app1 rfl (.tmp 61) (.tmp 68) rfl IDE.enc idT v.ref rfl rfl rfl (hoT.later _) (by rfl) (by have := hT'l.out; omega) (by unfold maxLen; have := hT'l.out; omega) (show Below w0.heap.size w0 _ from below_of).size ?_; intro A5 c5 w5 ho5 hm5 hb5 hg5 hat5)
                    go_roundw
                    case rel =>
                      have hst : Step wr w5 (.slice TB T'.length Td) (.slice A5 (T'.length + 1) c5) := (Step.of_below (below_of (b := wr))).trans ⟨hg5, hat5⟩
                      have hq5 := hst.own hoQ hap3.symm
                      exact ⟨k + 1, A5, c5, T' ++ [v.ref], by omega, by go_num, fun e => absurd e hk2, hTn, by rw [← hTl.out], by rw [← hTl.out]; exact ho5, hq5.1, by rw [← hTl.out]; exact hq5.2.symm, hst.keep hoT bx3 (by decide), (show Below w0.heap.size w0 _ from below_of).trans hb5⟩
                    case measure => simp [intOf]; omega
                  · have hTn := hide (show T' = T ++ refsTo m.fields (k + 1) by rw [hS.out, hT'.out, if_neg hv2, List.append_nil])
                    go_wp2_with fail
                    go_roundw
                    case rel => exact ⟨k + 1, TB, Td, T', by omega, by go_num, fun e => absurd e hk2, hTn, rfl, hoT.later _, hoQ.later _, hap3, (BX3 _).1, below_of⟩
                    case measure => simp [intOf]; omega
                · have hk' : k = m.fields.length := by omega
                  subst hk'
                  have hTr := hide (show ∀ y, y ∈ T'.drop (i + 1) ↔ y ∈ T.drop (i + 1) ∨ y ∈ refsOf m.con from fun y => by
                    rw [hT'.out]
                    exact (drop_app hT'i.out y).trans (by rw [← refsTo_all (n := m.con) hk2]; rfl))
                  go_wp2_with fail
                  go_roundw
                  case rel => exact ⟨i + 1, q, T', _, _, _, _, by have := hT'g.out; have := hT'i.out; omega, by go_num, rfl, rfl, hqs.out, Hinv.out.visit Hdr.out hfn.out hqm.out hTr.out, by have := hT'l.out; have := hql.out; omega, hoQ.later _, hoT.later _, hap3, below_of⟩
                  case measure =>
                    have h1 := hT'l.out
                    have h2 := hql.out
                    have h3 := hON.out
                    have h4 := hT'i.out
                    simp [intOf, lenV]; omega
    · have hi' : i = T.length := by omega
      subst hi'
      rw [List.drop_length] at hinv
      go_wp2_with fail
      go_ret
      exact ⟨O, OA, Oc, ⟨hso, hinv.done⟩, rfl, (hoO.later _).mono (by omega), below_of⟩
end Go.Proofs.Ytffnogjgnpbjlaa
